import Derived.Test.YtkfiobkjflmchaaGreatDoorQn11
import Derived.Test.YtkfiobkjflmchaaGreatDoorRows
import Derived.ProofKit
import Derived.OpenShut
import Derived.JoinedCond
import Derived.ChangeSlices
import Derived.ChangeArms
import Derived.ChangeOld
import Derived.ChangeSame
import Derived.Maps.RangeRun
import Derived.Laws.MakeOwn
set_option maxHeartbeats 8000000
set_option maxRecDepth 100000
set_option linter.unusedSimpArgs false
set_option linter.unusedVariables false
set_option linter.unnecessarySimpa false
namespace Go.Proofs.YtkfiobkjflmchaaGreatDoor.Lift
open Go Go.ChangeShapes Go.WideShapes Go.ChangeAt Go.RowKit
def qO (P:Program):List Field->Nat->Nat->Bool
 | [],o,n=>o==n
 | f::r,o,n=>f.offset==o&&qO P r (o+P.cellsOf f.type) n
def zfy (P:Program)(TS:List TypeId)(t:TypeId):Bool:=
 match P.underlying t with
 | some .bool=>P.cellsOf t==1
 | some (.int _)=>P.cellsOf t==1
 | some (.slice e)=>P.cellsOf t==1&&decide (0<P.cellsOf e)&&TS.contains e
 | some (.struct fs)=>qO P fs.toList 0 (P.cellsOf t)&&fs.toList.all fun f=>TS.contains f.type
 | _=>false
def qP (P:Program)(TS:List TypeId):Bool:=TS.all (zfy P TS)
mutual
def JK {H:Type}:DataW H->List DV
 | .lit (.bool b)=>[AR b]
 | .lit (.int k n)=>[.prim (.int k n)]
 | .nil=>[.sl []]
 | .slice elems _=>[.sl (aP elems)]
 | .agg parts=>aQ parts
 | _=>[]
def aP {H:Type}:List (DataW H)->List (List DV)
 | []=>[]
 | d::r=>JK d::aP r
def aQ {H:Type}:List (DataW H)->List DV
 | []=>[]
 | d::r=>JK d++aQ r
end
theorem ZL {H:Type}(l:List (DataW H)):aP l=l.map JK:=by
 induction l with
 | nil=>rfl
 | cons a r ih=>simp[aP,ih]
theorem lO {H:Type}(l:List (DataW H)):aQ l=l.flatMap JK:=by
 induction l with
 | nil=>rfl
 | cons a r ih=>simp[aQ,ih]
def Old (w:World):Nat->Nat->Prop:=fun b o=>∃v,w.cell? ⟨b,o,none⟩=some v
def JD (w:World)(ds:List DV)(cs:List Value):Prop:=
 ds.length=cs.length/\∀(i:Nat) (c:DV) (v:Value),ds[i]? = some c->cs[i]? = some v->c.isCell=true/\RV (Old w) w c v
theorem JD.nil (w:World):JD w [] []:=⟨rfl,sS⟩
theorem JD.one {w:World}{c:DV}{v:Value}(h1:c.isCell=true)(h2:RV (Old w) w c v):JD w [c] [v]:=by
 refine⟨rfl,fun i x u hx hu=>?_⟩;cases i with
 | zero=>simp at hx hu;subst hx hu;exact⟨h1,h2⟩
 | succ i=>simp at hx
theorem JD.append {w:World}{ds es:List DV}{cs us:List Value}(h1:JD w ds cs)(h2:JD w es us):JD w (ds++es) (cs++us):=by
 refine⟨by simp[h1.1,h2.1],fun i c v hc hv=>?_⟩;by_cases hi:i<ds.length
 ·rw[List.getElem?_append_left hi]at hc;rw[List.getElem?_append_left (by rw[<- h1.1];exact hi)]at hv;exact h1.2 i c v hc hv
 ·rw[List.getElem?_append_right oO]at hc;rw[List.getElem?_append_right (by rw[<- h1.1];omega),<- h1.1]at hv;exact h2.2 _ c v hc hv
theorem qQ {H:Type}{d:DataW H}{l:List (DataW H)}(h:d∈l):Rows.uptoBulk d<=Rows.uptoBulkAll l:=by
 induction l with
 | nil=>cases h
 | cons x r ih=>
  simp only[Rows.uptoBulkAll];cases List.mem_cons.1 h with
  | inl e=>subst e;omega
  | inr e=>have:=ih e;omega
theorem zba {H:Type}(d:DataW H):1<=Rows.uptoBulk d:=by
 cases d with
 | lit l=>cases l <;> simp[Rows.uptoBulk]
 | _=>simp[Rows.uptoBulk]
theorem qR {H:Type}(l:List (DataW H)):l.length<=Rows.uptoBulkAll l:=by
 induction l with
 | nil=>simp[Rows.uptoBulkAll]
 | cons x r ih=>have:=zba x;simp only[Rows.uptoBulkAll,List.length_cons];omega
section
variable {H:Type}{enc:TypeId × Value->H}{P:Program}{w w':World}
theorem qS {TS:List TypeId}(h:qP P TS=true){t:TypeId}(ht:t∈TS):zfy P TS t=true:=List.all_eq_true.1 h t ht
theorem yP {TS:List TypeId}(hT:qP P TS=true):∀(fuel:Nat) (t:TypeId),t∈TS->∀(cs:List Value) (x:DataW H × List MemPlace),DataW.trod enc P w 0 (fun _=>true) true fuel t cs=some x->Rows.uptoBulk x.1<=1048576 ->
  cs.length=P.cellsOf t/\JD w (JK x.1) cs:=by
 intro fuel
 induction fuel with
 | zero=>intro t _ cs x h;simp[DataW.trod]at h
 | succ fuel ih=>
  intro t ht cs x h hb;have hk:=qS hT ht;unfold zfy at hk;split at hk
  ·rename_i hu;obtain⟨b,rfl,rfl⟩:=DataW.trod_bool hu h;exact⟨by simpa using (beq_iff_eq.1 hk).symm,.one rfl (.prim _ tT)⟩
  ·rename_i k hu;obtain⟨n,rfl,rfl,hw⟩:=DataW.trod_int hu h;exact⟨by simpa using (beq_iff_eq.1 hk).symm,.one rfl (.prim _ (by simpa [Lit.wf,D5] using hw))⟩
  ·rename_i e hu;simp only[uH,beq_iff_eq,decide_eq_true_eq,List.contains_iff_mem]at hk;obtain⟨⟨Fk,Ax⟩,hk3⟩:=hk;rcases DataW.trod_slice hu h with⟨rfl,rfl⟩|⟨a,len,cap,elems,rest,n,hn,rfl,rfl,-,hl,hm,hlen,Oo,Wo,-⟩;· exact⟨by simp[Fk],.one rfl (.sl0 _ _)⟩
   ·obtain rfl:fuel=n:=oO;refine⟨by simp[Fk],.one rfl ?_⟩;simp only[JK,ZL,List.map_map];simp only[Rows.uptoBulk]at hb;have Jz:=qR (elems.map (·.1));simp only[List.length_map]at Jz
    have hbe:∀y∈elems,Rows.uptoBulk y.1<=1048576:=fun y hy=>by
     have:=qQ (List.mem_map_of_mem (f:=(·.1)) hy);omega
    have each:∀i y,elems[i]? = some y->∃us,w.cells? 0 (a.add (i * P.cellsOf e)) (P.cellsOf e)=some us/\us.length=P.cellsOf e/\JD w (JK y.1) us:=by
     intro i y hy;have hi:i<len:=by rw[<- hlen];exact (uA hy).1
     have h1:=Oo i hi;rw[hy,Option.bind_eq_some_iff]at h1;obtain⟨us,h2,h3⟩:=h1;exact⟨us,h2,ih e hk3 us y h3 (hbe y (uE hy))⟩
    cases hq:elems with
    | nil=>
     rw[hq]at hlen;simp only[List.length_nil]at hlen;subst hlen;exact .sl0 _ _
    | cons y0 r0=>
     have Cn:0<len:=by rw[<- hlen,hq];simp
     rw[<- hq];have Ah:∀i y,elems[i]? = some y->∀j,j<P.cellsOf e->∃us,us.length=P.cellsOf e/\JD w (JK y.1) us/\w.cell? ((a.add (i * P.cellsOf e)).add j)=us[j]?:=by
      intro i y hy j hj;obtain⟨us,h1,h2,h3⟩:=each i y hy;exact⟨us,h2,h3,(World.cells?_some h1).2.2 j hj⟩
     have Su:a.spot=none:=by
      obtain⟨us,h1,-,h3⟩:=Ah 0 y0 (by rw[hq];rfl) 0 Ax;rw[Nat.zero_mul]at h3;cases hs:a.spot with
      | none=>rfl
      | some q=>
       have Ac:0<us.length:=oO;rw[uB Ac]at h3;have:(a.add 0).add 0=a:=by simp[Addr.add]
       rw[this]at h3;unfold World.cell? at h3;simp[hs]at h3;split at h3 <;> cases h3
     obtain⟨ab,ao,asp⟩:=a;simp only at Su;subst Su;have Qq:∀i j,((⟨ab,ao,none⟩:Addr).add (i * P.cellsOf e)).add j=⟨ab,ao+(i * P.cellsOf e+j),none⟩:=by
      intro i j;rw[F7,F7,Nat.add_assoc]
     have Kq:∀i j,i<elems.length->j<P.cellsOf e->w.cell? ⟨ab,ao+(i * P.cellsOf e+j),none⟩=some ((w.cell? ⟨ab,ao+(i * P.cellsOf e+j),none⟩).getD undef):=by
      intro i j hi hj;obtain⟨us,h1,-,h3⟩:=Ah i _ (uB hi) j hj;rw[Qq]at h3;rw[h3,uB oO];rfl
     have key:=RV.sl (D:=Old w) (w:=w) (elems.map (fun y=>JK y.1)) ab ao cap (P.cellsOf e) (fun i j=>(w.cell? ⟨ab,ao+(i * P.cellsOf e+j),none⟩).getD undef) (by simp[I6];omega) (by simp;omega)
      (by
       intro q Ft;obtain⟨y,hy,rfl⟩:=List.mem_map.1 Ft;obtain⟨i,hi⟩:=List.getElem?_of_mem hy;obtain⟨us,-,h2,h3⟩:=each i y hi;rw[h3.1,h2])
      (by
       intro q Ft c hc;obtain⟨y,hy,rfl⟩:=List.mem_map.1 Ft;obtain⟨i,hi⟩:=List.getElem?_of_mem hy;obtain⟨us,-,h2,h3⟩:=each i y hi;obtain⟨j,hj⟩:=List.getElem?_of_mem hc;have Ol:=(uA hj).1;exact (h3.2 j c (us[j]'(by rw[<- h3.1];exact Ol)) hj (uB (by rw[<- h3.1];exact Ol))).1)
      (fun i j hi hj=>Kq i j (by simpa using hi) hj) (fun i j hi hj=>⟨_,Kq i j (by simpa using hi) hj⟩)
      (by
       intro i j q c hi hj;rw[List.getElem?_map]at hi;cases hy:elems[i]? with
       | none=>simp[hy]at hi
       | some y=>
        simp[hy]at hi;subst hi;obtain⟨us0,-,g2,g3⟩:=each i y hy;have Ol:j<P.cellsOf e:=by rw[<- g2,<- g3.1];exact (uA hj).1
        obtain⟨us,h1,h2,h3⟩:=Ah i y hy j Ol;rw[Qq]at h3;have hu:us[j]? = some us[j]:=uB oO;rw[h3,hu];exact (h2.2 j c us[j] hj hu).2)
     simp only[List.length_map,hlen]at key;exact key
  ·rename_i fs hu;simp only[uH,List.all_eq_true,List.contains_iff_mem]at hk;obtain⟨Fk,Ax⟩:=hk;obtain⟨xs,n,hn,rfl,Bn,Ya,hx⟩:=DataW.trod_struct hu h;obtain rfl:fuel=n:=oO;refine⟨Bn,?_⟩;simp only[JK,lO];simp only[Rows.uptoBulk]at hb
   have hbe:∀y∈xs,Rows.uptoBulk y.1<=1048576:=fun y hy=>by
    have:=qQ (List.mem_map_of_mem (f:=(·.1)) hy);omega
   have main:∀(gs:List Field) (ys:List (DataW H × List MemPlace)) (o:Nat),(∀f∈gs,f.type∈TS)->(∀y∈ys,Rows.uptoBulk y.1<=1048576)->qO P gs o (P.cellsOf t)=true->gs.length=ys.length ->
     (∀(i:Nat) (f:Field),gs[i]? = some f->DataW.trod enc P w 0 (fun _=>true) true fuel f.type ((cs.drop f.offset).take (P.cellsOf f.type))=ys[i]?)->JD w ((ys.map (·.1)).flatMap JK) (cs.drop o):=by
    intro gs
    induction gs with
    | nil=>
     intro ys o _ _ ht hl _;obtain rfl:ys=[]:=List.eq_nil_of_length_eq_zero (by simpa using hl.symm);simp only[qO,beq_iff_eq]at ht;rw[ht,<- Bn,List.drop_length];exact .nil w
    | cons f r Dk=>
     intro ys o hm Xs ht hl Mp;cases ys with
     | nil=>simp at hl
     | cons y ys=>
      simp only[qO,uH,beq_iff_eq]at ht;have h0:=Mp 0 f rfl;rw[ht.1]at h0;obtain⟨q1,q2⟩:=ih f.type (hm f sS) _ y h0 (Xs y sS);have Aa:=Dk ys (o+P.cellsOf f.type) (fun g hg=>hm g (by simp[hg])) (fun z hz=>Xs z (by simp[hz])) ht.2 (by simpa using hl) (fun i g hg=>by simpa using Mp (i+1) g (by simpa using hg));have e:cs.drop o=(cs.drop o).take (P.cellsOf f.type)++cs.drop (o+P.cellsOf f.type):=by
       rw[<- List.drop_drop,List.take_append_drop]
      rw[e];simp only[List.map_cons,List.flatMap_cons];exact q2.append Aa
   have:=main fs.toList xs 0 (fun f hf=>Ax f hf) hbe Fk (by simp[Ya]) (fun i f hf=>hx i f (by simpa using hf))
   simpa using this
  ·cases hk
theorem yQ {TS:List TypeId}(hT:qP P TS=true){sp:Nat->Bool}{held:Bool}{base:Nat}:∀(fuel:Nat) (t:TypeId),t∈TS->∀(cs:List Value) (x:DataW H × List MemPlace),DataW.trod enc P w base (fun _=>true) held fuel t cs=some x->(∀p∈x.2,sp p.block=true) ->
  DataW.trod enc P w base sp held fuel t cs=some x:=by
 intro fuel
 induction fuel with
 | zero=>intro t _ cs x h;simp[DataW.trod]at h
 | succ fuel ih=>
  intro t ht cs x h hs;have hk:=qS hT ht;unfold zfy at hk;split at hk
  ·rename_i hu;obtain⟨b,rfl,rfl⟩:=DataW.trod_bool hu h;simp[DataW.trod,hu]
  ·rename_i k hu;obtain⟨n,rfl,rfl,hw⟩:=DataW.trod_int hu h;simp[DataW.trod,hu,hw]
  ·rename_i e hu;simp only[uH,beq_iff_eq,decide_eq_true_eq,List.contains_iff_mem]at hk;obtain⟨⟨Fk,Ax⟩,hk3⟩:=hk;have Uv:cs=[.slice none 0 0]\/∃a len cap,cs=[.slice (some a) len cap]:=by
    rcases DataW.trod_slice hu h with⟨rfl,-⟩|⟨a,len,cap,_,_,_,_,rfl,-⟩;· exact .inl rfl
    ·exact .inr ⟨a,len,cap,rfl⟩
   rcases Uv with rfl|⟨a,len,cap,rfl⟩
   ·simp only[DataW.trod,hu]at h ⊢;exact h
   ·simp only[DataW.trod,hu]at h ⊢;split at h
    ·rename_i Oi;rw[if_pos Oi];simp only[if_true,Option.bind_eq_some_iff,Option.map_eq_some_iff]at h;obtain⟨elems,h1,rest,h2,rfl⟩:=h;have Co:∀y∈elems++rest,∀p∈y.2,sp p.block=true:=fun y hy p hp=>hs p (List.mem_append.2 (.inr (List.mem_flatMap.2 ⟨y,hy,hp⟩)));have step:∀(i:Nat) (y:DataW H × List MemPlace),y∈elems++rest->(w.cells? base (a.add (i * P.cellsOf e)) (P.cellsOf e)).bind (DataW.trod enc P w base (fun _=>true) held fuel e)=some y->(w.cells? base (a.add (i * P.cellsOf e)) (P.cellsOf e)).bind (DataW.trod enc P w base sp held fuel e)=some y:=by
      intro i y hy h;rw[Option.bind_eq_some_iff]at h ⊢;obtain⟨us,q1,q2⟩:=h;exact⟨us,q1,ih e hk3 us y q2 (Co y hy)⟩
     have e1:=mapM_carry (g:=fun i=>(w.cells? base (a.add (i * P.cellsOf e)) (P.cellsOf e)).bind (DataW.trod enc P w base sp held fuel e)) h1 (fun i y _ hy hi=>step i y (List.mem_append.2 (.inl hy)) hi);rw[e1];simp only[Option.bind_some];have e2:=mapM_carry (g:=fun j=>(w.cells? base (a.add ((len+j) * P.cellsOf e)) (P.cellsOf e)).bind (DataW.trod enc P w base sp held fuel e)) h2 (fun i y _ hy hi=>step _ y (List.mem_append.2 (.inr hy)) hi);by_cases hz:elems.length+rest.length=0
     ·have Il:rest=[]:=List.eq_nil_of_length_eq_zero oO;have hlen:rest.length=cap - len:=by simpa using mapM_some_length h2
      have Cb:cap - len=0:=by rw[<- hlen,Il];rfl
      subst Il;rw[Cb];split <;> simp
     ·have Wo:sp a.block=true:=by
       have hn:0<(elems.length+rest.length) * P.cellsOf e:=Nat.mul_pos oO Ax;exact hs (.cell a.block (a.off+0)) (List.mem_append.2 (.inl (MemPlace.mem_row.2 ⟨0,hn,rfl⟩)))
      rw[if_pos Wo,e2];rfl
    ·cases h
  ·rename_i fs hu;simp only[uH,List.all_eq_true,List.contains_iff_mem]at hk;obtain⟨Fk,Ax⟩:=hk;obtain⟨xs,n,hn,rfl,Bn,Ya,hx⟩:=DataW.trod_struct hu h;obtain rfl:fuel=n:=oO;unfold DataW.trod at h ⊢;rw[hu]at h ⊢;simp only[Bn,if_true,Option.map_eq_some_iff]at h ⊢;obtain⟨ys,h1,h2⟩:=h
   have hy:∀y∈ys,∀p∈y.2,sp p.block=true:=fun y hy p hp=>hs p (by
    have:xs.flatMap (·.2)=ys.flatMap (·.2):=(congrArg Prod.snd h2).symm;rw[this];exact List.mem_flatMap.2 ⟨y,hy,hp⟩)
   exact⟨ys,mapM_carry h1 (fun f y hf Fb hr=>ih f.type (Ax f hf) _ y hr (hy y Fb)),h2⟩
  ·cases hk
theorem yR {TS:List TypeId}(hT:qP P TS=true)(hw:∀b,b<w.heap.size->w'.heap[b]? = w.heap[b]?){sp:Nat->Bool}{held:Bool}{base:Nat}{t:TypeId}(ht:t∈TS){v:Value}{d:DataW H}{ps:List MemPlace}(h:DataW.Trod enc P w base (fun _=>true) held t v d ps)
  (hs:∀p∈ps,sp p.block=true):DataW.Trod enc P w' base sp held t v d ps:=by
 obtain⟨fuel,h⟩:=h;refine⟨fuel,DataW.trod_carry _ _ _ _ (yQ hT fuel t ht _ _ h hs) fun p hp=>?_⟩;have Ac:=DataW.trod_lt fuel t _ _ h p hp;cases p with
 | cell b o=>simp only[World.sameAt,World.cell?];rw[hw b Ac]
 | map b=>exact hw b Ac
end
theorem z5e {H:Type}{enc:TypeId × Value->H}{P:Program}{w:World}{t e:TypeId}(ht:P.underlying t=some (.slice e))(he:P.underlying e=some (.int .i64))(hT:qP P [t,e]=true){v:Value}{d:DataW H}{ps:List MemPlace}(h:DataW.Trod enc P w 0 (fun _=>true) true t v d ps)(Ah:v.cells = #[v])
  (hb:Rows.uptoBulk d<=1048576):∃l:List Int,RV (Old w) w (.sl (l.map fun n=>[A0 n])) v/\l.length<=1048576:=by
 obtain⟨fuel,h⟩:=h;rw[Ah]at h;have key:∃l:List Int,JK d=[.sl (l.map fun n=>[A0 n])]/\l.length<=1048576:=by
  rcases DataW.trod_slice ht h with⟨-,hx⟩|⟨a,len,cap,elems,rest,n,hn,-,hx,-,hl,hm,hlen,Oo,Wo,-⟩;· cases hx;exact⟨[],rfl,sS⟩
  ·cases hx;simp only[Rows.uptoBulk]at hb;have Jz:=qR (elems.map (·.1));simp only[List.length_map]at Jz;have each:∀y∈elems,∃m:Int,JK y.1=[A0 m]:=by
    intro y hy;obtain⟨i,hi⟩:=List.getElem?_of_mem hy;have Cc:i<len:=by rw[<- hlen];exact (uA hi).1
    have h1:=Oo i Cc;rw[hi,Option.bind_eq_some_iff]at h1;obtain⟨us,-,h3⟩:=h1;obtain⟨m,-,rfl,-⟩:=DataW.trod_int he h3;exact⟨m,rfl⟩
   have:∃l:List Int,elems.map (fun y=>JK y.1)=l.map fun n=>[A0 n]:=by
    clear Oo hlen Jz h hb Wo
    induction elems with
    | nil=>exact⟨[],rfl⟩
    | cons y r ih=>
     obtain⟨m,hm⟩:=each y sS;obtain⟨l,hl⟩:=ih fun z hz=>each z (by simp[hz]);exact⟨m::l,by simp[hm,hl]⟩
   obtain⟨l,hl⟩:=this;have Mh:l.length=elems.length:=by simpa using (congrArg List.length hl).symm
   refine⟨l,?_,oO⟩;simp only[JK,ZL,List.map_map];exact congrArg (fun q=>[DV.sl q]) hl
 obtain⟨l,h1,h2⟩:=key;obtain⟨-,h3⟩:=yP hT fuel t sS _ _ h hb;rw[h1]at h3;exact⟨l,(h3.2 0 _ v rfl rfl).2,h2⟩
theorem qT {P:Program}{w:World}{r:Reach}{base:Nat}{t e:TypeId}(ht:P.underlying t=some (.slice e)){v:Value}(h:Value.okWide P w r base t v):v.cells = #[v]:=by
 cases v <;> first|rfl|(simp[Value.okWide,Cell.okWide,Cell.ok,ht]at h)
theorem eK {w w':World}{D D':Nat->Nat->Prop}(h:Ext [] D w D' w'):∀b,b<w.heap.size->w'.heap[b]? = w.heap[b]?:=fun b hb=>h.block b hb sS
theorem zbb {w w':World}{D D':Nat->Nat->Prop}(h:Ext [] D w D' w')(may:MemPlace->Prop):w.keptBut w' may:=by
 refine⟨h.os,h.output,fun i hi=>?_⟩;rw[eK h i hi];cases hq:w.heap[i]? with
 | none=>rfl
 | some o=>cases o <;> first|rfl|exact⟨rfl,rfl,rfl,fun _ _=>rfl⟩|exact .inr ⟨rfl,rfl⟩
theorem qU {H:Type}{enc:TypeId × Value->H}{P:Program}{f:Func}{s:ChangeSpec}{KN KM handsOn again:Bool}{W W':World}{D D':Nat->Nat->Prop}{args:Array Value}{v:Value}{ds gs:List (DataW H)}{before pa pv:List MemPlace}
  (hW:DataW.Whole enc P f.params.toList s.vars KN W args.toList ds gs before)
  (Be:∀(b:Nat) (sp:Nat->Bool) (hd:Bool),DataW.TrodAll enc P W' b sp hd f.resultTypes.toList (v.resultList f.resultTypes.size) (s.fn H (ds++gs)).results [])
  (u9:∀sp:Nat->Bool,(∀p∈before,sp p.block=true)->DataW.TrodAll enc P W' 0 sp true f.params.toList args.toList (s.fn H (ds++gs)).args pa)
  (Sk:∀sp:Nat->Bool,(∀p∈before,sp p.block=true)->DataW.TrodVars enc P W' sp s.vars (s.fn H (ds++gs)).vars pv)
  (Kp:before=pa++pv) (hx:Ext [] D W D' W')
  (Ee:∀(j:Nat) (t:TypeId) (r:Value),f.resultTypes[j]? = some t->(v.resultList f.resultTypes.size)[j]? = some r->Value.okWide P W' .any 0 t r) :
  s.post enc P f KN KM handsOn again W args v W':=by
 have Ac:∀p∈before,p.block<W.heap.size:=fun p hp=>hW.lt p hp;have hold:∀p∈before,(fun b=>decide (b<W.heap.size)) p.block=true:=fun p hp=>by simpa using Ac p hp
 refine⟨ds,gs,before,[],pa,pv,hW,Be _ _ _,u9 _ hold,Sk _ hold,World.keptBut_mono (fun p hp=>⟨hp,?_⟩) (zbb hx (·∈before)),fun _=>?_⟩
 ·rw[Kp,List.mem_append]at hp;exact Or.inr hp
 ·obtain⟨_,_,_,_,_,hz,hn⟩:=hW;refine⟨Ee,_,_,([]++pa)++pv,⟨[]++pa,pv,trodAll_append (u9 _ (fun _ _=>rfl)) (Be _ _ _),Sk _ (fun _ _=>rfl),rfl,?_,?_⟩,?_⟩
  ·intro b off hp;have Ca:MemPlace.cell b off∈before:=by rw[Kp];simpa using hp
   have h2:W'.frozen? ⟨b,off,none⟩=W.frozen? ⟨b,off,none⟩:=by
    simp only[World.frozen?,eK hx b (Ac _ Ca)]
   rw[h2];exact hz b off Ca
  ·intro ha;have:=hn ha;rw[Kp]at this
   simpa using this
  ·intro p hp _;rw[Kp]
   simpa using hp
end Go.Proofs.YtkfiobkjflmchaaGreatDoor.Lift
namespace Go.Proofs.YtkfiobkjflmchaaGreatDoor.Lift
open Go
section
section
variable {X:Ctx}{s s0:St}{k:List Item}
def SR (ml:List (Int × DV))(n:Int)(d:DV):List (Int × DV):=match WU ml n with
 | some _=>ml
 | none=>ml++[(n,d)]
theorem z0o (n:Int):∀(es:List MapEntry) (j:Nat) (r:Nat) (v:Value),(∀e∈es,∃k,e.key = .int .i64 k)->Instr.findNow (.int .i64) (.int .i64 n) es j=some (some (r,v))->∃i e,r=j+i/\es[i]? = some e/\e.key = .int .i64 n
 | [],j,r,v,_,h=>by simp[Instr.findNow]at h
 | e::es,j,r,v,hk,h=>by
  obtain⟨k,Ov⟩:=hk e sS;unfold Instr.findNow at h;simp only[Ov,Instr.sameNow,if_true]at h;by_cases Ts:n=k
  ·subst Ts;simp only[beq_self_eq_true]at h;cases h;exact⟨0,e,rfl,rfl,Ov⟩
  ·have Au:(n==k)=false:=by simpa using Ts
   rw[Au]at h;obtain⟨i,e',h1,h2,h3⟩:=z0o n es (j+1) r v (fun e he=>hk e (by simp[he])) h;exact⟨i+1,e',oO,by simpa using h2,h3⟩
theorem fR {o:Oper}{T:TypeId}{x i y:Operand}(ho:o.op = .mapUpdate T x i y)(hd:o.dst=none)(hT:pT X.P T=true){b:Nat}{n:Int}{ml:List (Int × DV)}{dv:DV}
  (hx:CS X (get s) x=some (.v (.prim (.map (some b))))) (hi:CS X (get s) i=some (.v (.prim (.int .i64 n)))) (hy:CS X (get s) y=some (.v dv)) (hm:get s (.heap b)=some (.mp ml)) (Ae:∀p∈ml,p.2=dv) (hl:(WU ml n).isSome=true):ED X s o (CM s (.heap b) (.mp ml)):=by
 intro G a w R next Q hK
 obtain⟨dv',Ct⟩:=Option.isSome_iff_exists.1 hl;have hv:=(BJ (A8 R hx)).1;have hiv:=(BJ (A8 R hi)).1;have Oj:RV G.D w dv (a.eval y):=A8 R hy;obtain⟨key,e,h1,h2⟩:=XW hT;obtain⟨es,cl,m1,m2,m3,mc,mb⟩:=R.holds _ _ hm;obtain⟨r,v,f1,-⟩:=(XX (G:=G) (w:=w) n ml es.toList 0 (by simpa using m2) fun i k d e hi he=>m3 i k d e hi (by simpa using he)).1 dv' Ct;have Ld:∀e∈es.toList,∃k,e.key = .int .i64 k:=by
  intro e he;obtain⟨i,hi,rfl⟩:=List.mem_iff_getElem.1 he;have Ac:i<ml.length:=by simp at hi;omega
  exact⟨_,(m3 i (ml[i]).1 (ml[i]).2 _ (uB Ac) sS).1⟩
 obtain⟨i0,e0,g1,g2,g3⟩:=z0o n es.toList 0 r v Ld f1;have Il:r=i0:=oO;subst Il;have g2:es[r]? = some e0:=by simpa using g2
 refine M5 (by intro c e;rw[ho]at e;cases e) ?_;have Az:(execOp a.eval o).run X.P w = .ok .skip { w with heap:=w.heap.setIfInBounds b (.map (es.modify r fun e=>{ e with key:=.int .i64 n,val:=a.eval y }) cl) }:=by
  simp[execOp,ho,hv,hiv,Instr.mapUpdate,run_underlying h1,VF m1,WV h2,Z9 h2 f1,dN _ m1,g2,g3,Instr.keyThatStays,Instr.sameBits,Result.andThen]
 rw[Az,VX,hd];have Jz:b<w.heap.size:=(Array.getElem?_eq_some_iff.1 m1).1;have Aw:∀o,¬G.D b o:=fun o=>R.data _ _ b o hm rfl rfl;have Gu:∀b',b'≠b->(w.heap.setIfInBounds b (.map (es.modify r fun e=>{ e with key:=.int .i64 n,val:=a.eval y }) cl))[b']? = w.heap[b']?:=fun b' Ai=>Array.getElem?_setIfInBounds_ne (Ne.symm Ai);have T':Trans X G a w G a { w with heap:=w.heap.setIfInBounds b (.map (es.modify r fun e=>{ e with key:=.int .i64 n,val:=a.eval y }) cl) } (fun b'=>b' = b):=by
  refine⟨rfl,fun h=>h.keep rfl fun D hD=>?_,rfl,rfl,rfl,sS,fun b' Ai hn=>Gu b' hn,fun b' Ai=>?_,fun b' o hD=>⟨hD,?_⟩,fun _ _ h k=>absurd h k,R.nil⟩
  ·refine (Gu D fun e=>?_).trans hD;subst e;rw[m1]at hD;cases hD
  ·subst Ai;exact (R.own _ _ b' hm rfl).imp id And.left
  ·have Au:b'≠b:=fun e=>by subst e;exact Aw o hD
   simp only[World.cell?];rw[Gu b' Au]
 refine hK G a _ ?_;refine R.step T' (fun l u=>l = .heap b/\u = .mp ml) (fun l u h=>?_) (fun l u h=>?_) (fun l u l' u' b' h h' _ _=>h.1.trans h'.1.symm)
 ·rw[BM]at h;by_cases Ct:Loc.heap b=l;· rw[if_pos Ct]at h;cases h;exact .inl ⟨Ct.symm,rfl⟩
  ·rw[if_neg Ct]at h;refine .inr ⟨h,fun _ _=>rfl,fun b' Ai he=>?_,fun _ _=>rfl,fun _ _=>rfl⟩;subst he;exact Ct (R.sep _ _ _ _ b' hm h rfl Ai)
 ·obtain⟨rfl,rfl⟩:=h;refine⟨⟨es.modify r fun e=>{ e with key:=.int .i64 n,val:=a.eval y },cl,?_,by simp[m2],fun i' k d e Cz he=>?_,mc,fun i' e he=>?_⟩,fun b' Ai=>?_⟩;· simp[Jz]
  ·rw[Array.getElem?_modify]at he;split at he
   ·rename_i Dz;subst Dz;obtain⟨e1,Wj,rfl⟩:=Option.map_eq_some_iff.1 he;rw[g2]at Wj;cases Wj;obtain⟨q1,-⟩:=m3 _ k d e0 Cz g2;rw[g3]at q1;have hd':d=dv:=Ae _ (uE Cz);subst hd';exact⟨q1,Oj.mono T'.grow⟩
   ·obtain⟨q1,q2⟩:=m3 i' k d e Cz he;exact⟨q1,q2.mono T'.grow⟩
  ·rw[Array.getElem?_modify]at he;split at he
   ·obtain⟨e1,Wj,rfl⟩:=Option.map_eq_some_iff.1 he;exact mb i' e1 Wj
   ·exact mb i' e he
  ·cases Ai;exact⟨.inr rfl,R.own _ _ b hm rfl,fun _ o=>Aw o⟩
theorem VI {Ab:List Nat}{ops:Array Oper}{l:List Oper}{K:St->Prop}{T ty:TypeId}{x i y:Operand}{pos:String}{af:Array Edge}{q:Option (Prop × St)}{b:Nat}{n:Int}{ml:List (Int × DV)}{dv:DV}(hT:pT X.P T=true)
  (hx:CS X (get s) x=some (.v (.prim (.map (some b))))) (hi:CS X (get s) i=some (.v (.prim (.int .i64 n)))) (hy:CS X (get s) y=some (.v dv)) (hm:get s (.heap b)=some (.mp ml)) (Ae:∀p∈ml,p.2=dv) (hq:q=none)
  (h:vc X Ab ops l (CM s (.heap b) (.mp (SR ml n dv))) K):ZR X Ab ops l K ⟨none,.mapUpdate T x i y,ty,pos,af,none⟩ s q:=by
 subst hq;cases hl:WU ml n with
 | none=>
  have e:SR ml n dv=ml++[(n,dv)]:=by unfold SR;rw[hl]
  rw[e]at h;exact fK hT hx hi hy hm hl rfl h
 | some d=>
  have e:SR ml n dv=ml:=by unfold SR;rw[hl]
  rw[e]at h;exact OA rfl (fR (o:=⟨none,.mapUpdate T x i y,ty,pos,af,none⟩) rfl rfl hT hx hi hy hm Ae (by rw[hl];rfl)) (CU h)
theorem qV {o:Oper}{T:TypeId}{x:Operand}(ho:o.op = .range T x){d:Nat}(hd:o.dst=some d)(hn:d<X.n)(hT:pT X.P T=true){b:Nat}{ml:List (Int × DV)}
  (hx:CS X (get s) x=some (.v (.prim (.map (some b))))) (hm:get s (.heap b)=some (.mp ml)) {G:Gh} {a:Act} {w:World} (R:Rel X G s a w) (next:Act->World->Prop) (Q:Exit->Act->World->Prop)
  (hK:∀r,newB r s->X.w0.heap.size<=r->∀G' a' w',Rel X G' (CM (CM s (.slot d) (.one (.v (.prim (.pointer (some ⟨r,0,none⟩)))))) (.heap r) (.ob (.it b ml.length []))) a' w'->next a' w'):o.wpIn X.F 0 X.P a w next Q:=by
 have hv:=(BJ (A8 R hx)).1;obtain⟨key,e,h1,h2⟩:=XW hT;obtain⟨es,cl,m1,m2,m3,mc,mb⟩:=R.holds _ _ hm;subst mc;refine M5 (by intro c e;rw[ho]at e;cases e) ?_;have Az:(execOp a.eval o).run X.P w = .ok (.value (.pointer (some ⟨w.heap.size,0,none⟩))) (w.alloc (.mapIter (some b) ml.length #[] ml.length)):=by
  simp[execOp,ho,hv,Instr.range,run_underlying h1,VF m1,Result.andThen]
 rw[Az,D1,hd];have hp:=FV a (some d) (.pointer (some ⟨w.heap.size,0,none⟩))
 have T':Trans X G a w G (a.put (some d) (.pointer (some ⟨w.heap.size,0,none⟩))) (w.alloc (.mapIter (some b) ml.length #[] ml.length)) (fun _=>False):=
  ⟨hp.1,fun h=>(h.heap fun b hb=>CX w _ b hb).put hp.2,rfl,rfl,rfl,sS,fun b hb _=>CX w _ b hb,fun _ h=>h.elim,fun b k hD=>⟨hD,World.cell?_alloc_lt w _ _ (R.wf.lt hD)⟩,fun b k hD Ia=>absurd hD Ia,R.nil⟩
 refine hK w.heap.size (PG R) R.ext.size G _ _ ?_;refine R.step T' (fun l u=>(l = .slot d/\u = .one (.v (.prim (.pointer (some ⟨w.heap.size,0,none⟩)))))\/(l = .heap w.heap.size/\u = .ob (.it b ml.length []))) (fun l u h=>?_) (fun l u h=>?_) (fun l u l' u' b h h' hb Ai=>?_)
 ·rw[BM,BM]at h;by_cases h1:Loc.heap w.heap.size=l;· rw[if_pos h1]at h;cases h;exact .inl (.inr ⟨h1.symm,rfl⟩)
  ·rw[if_neg h1]at h;by_cases h3:Loc.slot d=l;· rw[if_pos h3]at h;cases h;exact .inl (.inl ⟨h3.symm,rfl⟩)
   ·rw[if_neg h3]at h;exact .inr ⟨h,fun n hn=>FH _ _ _ _ (fun e=>h3 (by rw[hn,e])),fun b hb Qc=>Qc.elim,fun _ _=>rfl,fun _ _=>rfl⟩
 ·rcases h with⟨rfl,rfl⟩|⟨rfl,rfl⟩
  ·refine⟨?_,fun b hb=>by cases hb⟩;show LE G _ (.v _) _;rw[E4 _ _ _ (by rw[R.size];exact hn)];exact .prim _ tT
  ·refine⟨JP w _,fun b hb=>?_⟩;cases hb;exact⟨.inl (Nat.le_refl _),.inl R.ext.size,fun _ o hD=>absurd (R.wf.lt hD) (Nat.lt_irrefl _)⟩
 ·rcases h with⟨rfl,rfl⟩|⟨rfl,rfl⟩;· cases hb
  ·rcases h' with⟨rfl,rfl⟩|⟨rfl,rfl⟩;· cases Ai
   ·rfl
theorem yS {Ab:List Nat}{ops:Array Oper}{l:List Oper}{K:St->Prop}{d:Tmp}{T ty:TypeId}{x:Operand}{pos:String}{af:Array Edge}{q:Option (Prop × St)}{b:Nat}{ml:List (Int × DV)}(hn:d<X.n)(hT:pT X.P T=true)
  (hx:CS X (get s) x=some (.v (.prim (.map (some b))))) (hm:get s (.heap b)=some (.mp ml)) (hq:q=none)
  (h:∀r,newB r s->X.w0.heap.size<=r->vc X Ab ops l (CM (CM s (.slot d) (.one (.v (.prim (.pointer (some ⟨r,0,none⟩)))))) (.heap r) (.ob (.it b ml.length []))) K):ZR X Ab ops l K ⟨some d,.range T x,ty,pos,af,none⟩ s q:=by
 subst hq;intro m Nq G a w R0;obtain⟨p1,p3⟩:=EQ Nq;simp only[List.length_cons,List.range'_succ,wpOpsIn,p1,Region.wanted,if_true];exact qV (o:=⟨some d,.range T x,ty,pos,af,none⟩) rfl rfl hn hT hx hm R0 _ _ fun b hb hw G' a' w' R'=>CU (h b hb hw) (m+1) p3 G' a' w' R'
theorem yT {o:Oper}{it:Operand}(ho:o.op = .next it false){d:Nat}(hd:o.dst=some d)(hn:d<X.n){r b n:Nat}{seen:List Nat}{ml:List (Int × DV)}
  (hx:CS X (get s) it=some (.v (.prim (.pointer (some ⟨r,0,none⟩))))) (hr:get s (.heap r)=some (.ob (.it b n seen))) (hm:get s (.heap b)=some (.mp ml)) (Kr:n=ml.length) (Uh:∀p∈ml,D5 (.int .i64 p.1)) {G:Gh} {a:Act} {w:World} (R:Rel X G s a w) (next:Act->World->Prop) (Q:Exit->Act->World->Prop)
  (h0:(∀i,i<n->i∈seen)->∀G' a' w',Rel X G' (CM s (.slot d) (.one (.v (.tup [.prim (.bool false)])))) a' w'->next a' w')
  (h1:∀i k dv,ml[i]? = some (k,dv)->i∉seen->∀G' a' w',Rel X G' (CM (CM s (.slot d) (.one (.v (.tup [.prim (.bool true),.prim (.int .i64 k),dv])))) (.heap r) (.ob (.it b n (seen++[i])))) a' w'->next a' w'):o.wpIn X.F 0 X.P a w next Q:=by
 subst Kr;have hv:=(BJ (A8 R hx)).1;obtain⟨es,cl,m1,m2,m3,mc,mb⟩:=R.holds _ _ hm;have Bh:w.heap[r]? = some (.mapIter (some b) ml.length seen.toArray ml.length):=R.holds _ _ hr;subst mc;have Sl:∀x∈es.toList,∃i,es[i]? = some x/\x.born=i/\i<ml.length:=by
  intro x hx;obtain⟨i,hi,rfl⟩:=List.mem_iff_getElem.1 hx;have h1:es[i]? = some (es.toList[i]):=sS;exact⟨i,h1,mb i _ h1,by simp at hi;omega⟩
 refine M5 (by intro c e;rw[ho]at e;cases e) ?_;rcases run_next_at (P:=X.P) w o.type r b ml.length ml.length seen.toArray es ml.length Bh m1 (fun x hx=>by obtain⟨i,-,h2,h3⟩:=Sl x hx;omega) (Nat.le_refl _) with⟨hz,Aq⟩|⟨e,he,w1,Sw,Aq⟩
 ·have Az:(execOp a.eval o).run X.P w = .ok (.value (.tuple #[.bool false])) w:=by simp[execOp,ho,hv,Aq,Result.andThen]
  rw[Az,D1,hd];refine h0 (fun i hi=>?_) G _ w (R.setSlot (Trans.refl X G a w R.nil) rfl rfl (fun _ h=>h) hn (.tup _ _ rfl fun i c v hc hv=>?_))
  ·have Ac:i<es.size:=oO;have Pv:leftOf es seen.toArray = #[]:=Array.eq_empty_of_size_eq_zero hz;have:=mb i es[i] (uG Ac)
   false_or_by_contra
   rename_i Oz;have Co:es[i]∈leftOf es seen.toArray:=by
    unfold leftOf;simp[this,Oz]
   rw[Pv]at Co;simp at Co
  ·cases i with
   | zero=>simp at hc hv;subst hc hv;exact .prim _ tT
   | succ i=>simp at hc
 ·have Co:e∈es.toList/\e.born∉seen:=by unfold leftOf at he;simpa using he
  obtain⟨i,hi,We,Cc⟩:=Sl e Co.1;obtain⟨k0,Ov⟩:∃k0,ml[i]? = some k0:=⟨_,uB Cc⟩;obtain⟨kk,dv⟩:=k0;obtain⟨q1,q2⟩:=m3 i kk dv e Ov hi;have Az:(execOp a.eval o).run X.P w = .ok (.value (.tuple #[.bool true,e.key,e.val])) (ChangeMaps.setBlock w1 r (.mapIter (some b) ml.length (seen.toArray.push e.born) ml.length)):=by simp[execOp,ho,hv,Aq,Result.andThen]
  rw[Az,D1,hd,q1];have hp:=FV a (some d) (.tuple #[.bool true,.int .i64 kk,e.val]);have Cs:w1.heap=w.heap:=by rcases Sw with rfl|rfl <;> rfl
  have Jf:w1.heap.size=w.heap.size:=by rw[Cs]
  have Yj:r<w.heap.size:=(Array.getElem?_eq_some_iff.1 Bh).1;have Aw:∀o,¬G.D r o:=fun o=>R.data _ _ r o hr rfl rfl
  have Gu:∀b',b'≠r->(ChangeMaps.setBlock w1 r (.mapIter (some b) ml.length (seen.toArray.push e.born) ml.length)).heap[b']? = w.heap[b']?:=fun b' Ai=>by
   show (w1.heap.setIfInBounds r _)[b']? = _;rw[Array.getElem?_setIfInBounds_ne (Ne.symm Ai),Cs]
  have T':Trans X G a w G (a.put (some d) (.tuple #[.bool true,.int .i64 kk,e.val])) (ChangeMaps.setBlock w1 r (.mapIter (some b) ml.length (seen.toArray.push e.born) ml.length)) (fun b'=>b' = r):=by
   refine⟨hp.1,fun h=>h.keep hp.2 fun D hD=>?_,?_,?_,?_,?_,fun b' Ai hn=>Gu b' hn,fun b' Ai=>?_,fun b' o hD=>⟨hD,?_⟩,fun _ _ h k=>absurd h k,R.nil⟩
   ·refine (Gu D fun e=>?_).trans hD;subst e;rw[Bh]at hD;cases hD
   ·rcases Sw with rfl|rfl <;> rfl
   ·rcases Sw with rfl|rfl <;> rfl
   ·rcases Sw with rfl|rfl <;> rfl
   ·show w.heap.size<=(w1.heap.setIfInBounds r _).size;simp[Jf]
   ·subst Ai;exact (R.own _ _ b' hr rfl).imp id And.left
   ·have Au:b'≠r:=fun e=>by subst e;exact Aw o hD
    simp only[World.cell?];rw[Gu b' Au]
  refine h1 i kk dv Ov (by rw[<- We];exact Co.2) G _ _ ?_;refine R.step T' (fun l u=>(l = .slot d/\u = .one (.v (.tup [.prim (.bool true),.prim (.int .i64 kk),dv])))\/(l = .heap r/\u = .ob (.it b ml.length (seen++[i])))) (fun l u h=>?_) (fun l u h=>?_) (fun l u l' u' b' h h' hb Ai=>?_)
  ·rw[BM,BM]at h;by_cases Ct:Loc.heap r=l;· rw[if_pos Ct]at h;cases h;exact .inl (.inr ⟨Ct.symm,rfl⟩)
   ·rw[if_neg Ct]at h;by_cases h3:Loc.slot d=l;· rw[if_pos h3]at h;cases h;exact .inl (.inl ⟨h3.symm,rfl⟩)
    ·rw[if_neg h3]at h;refine .inr ⟨h,fun n hn=>FH _ _ _ _ (fun e=>h3 (by rw[hn,e])),fun b' Ai he=>?_,fun _ _=>rfl,fun _ _=>rfl⟩;subst he;exact Ct (R.sep _ _ _ _ b' hr h rfl Ai)
  ·rcases h with⟨rfl,rfl⟩|⟨rfl,rfl⟩
   ·refine⟨?_,fun b hb=>by cases hb⟩;show LE G _ (.v _) _;rw[E4 _ _ _ (by rw[R.size];exact hn)];refine .tup _ _ rfl fun j c v hc hv=>?_
    match j with
    | 0=>simp at hc hv;subst hc hv;exact .prim _ tT
    | 1=>simp at hc hv;subst hc hv;exact .prim _ (Uh _ (uE Ov))
    | 2=>simp at hc hv;subst hc hv;exact q2.mono T'.grow
    | j+3=>simp at hc
   ·refine⟨?_,fun b' Ai=>?_⟩
    ·show (w1.heap.setIfInBounds r _)[r]? = _;simp[Jf,Yj,Ob.obj,We]
    ·cases Ai;exact⟨.inr rfl,R.own _ _ r hr rfl,fun _ o=>Aw o⟩
  ·rcases h with⟨rfl,rfl⟩|⟨rfl,rfl⟩;· cases hb
   ·rcases h' with⟨rfl,rfl⟩|⟨rfl,rfl⟩;· cases Ai
    ·rfl
theorem iU {Ab:List Nat}{ops:Array Oper}{l:List Oper}{K:St->Prop}{d:Tmp}{ty:TypeId}{it:Operand}{pos:String}{af:Array Edge}{q:Option (Prop × St)}{r b n:Nat}{seen:List Nat}{ml:List (Int × DV)}(hn:d<X.n)
  (hx:CS X (get s) it=some (.v (.prim (.pointer (some ⟨r,0,none⟩))))) (hr:get s (.heap r)=some (.ob (.it b n seen))) (hm:get s (.heap b)=some (.mp ml)) (Kr:n=ml.length) (Uh:∀p∈ml,D5 (.int .i64 p.1)) (hq:q=none)
  (h0:(∀i,i<n->i∈seen)->vc X Ab ops l (CM s (.slot d) (.one (.v (.tup [.prim (.bool false)])))) K)
  (h1:∀i k dv,ml[i]? = some (k,dv)->i∉seen->vc X Ab ops l (CM (CM s (.slot d) (.one (.v (.tup [.prim (.bool true),.prim (.int .i64 k),dv])))) (.heap r) (.ob (.it b n (seen++[i])))) K):ZR X Ab ops l K ⟨some d,.next it false,ty,pos,af,none⟩ s q:=by
 subst hq;intro m Nq G a w R0;obtain⟨p1,p3⟩:=EQ Nq;simp only[List.length_cons,List.range'_succ,wpOpsIn,p1,Region.wanted,if_true];exact yT (o:=⟨some d,.next it false,ty,pos,af,none⟩) rfl rfl hn hx hr hm Kr Uh R0 _ _ (fun h G' a' w' R'=>CU (h0 h) (m+1) p3 G' a' w' R') fun i k dv hi hs G' a' w' R'=>CU (h1 i k dv hi hs) (m+1) p3 G' a' w' R'
theorem qW {o:Oper}{it:Operand}(ho:o.op = .entry it){d:Nat}(hd:o.dst=some d)(hn:d<X.n){r b n i:Nat}{seen:List Nat}{ml:List (Int × DV)}{kk:Int}{dv:DV}
  (hx:CS X (get s) it=some (.v (.prim (.pointer (some ⟨r,0,none⟩))))) (hr:get s (.heap r)=some (.ob (.it b n (seen++[i])))) (hm:get s (.heap b)=some (.mp ml)) (Kr:n=ml.length) (hi:ml[i]? = some (kk,dv)) (Uh:D5 (.int .i64 kk)) :
  ED X s o (CM s (.slot d) (.one (.v (.tup [.prim (.int .i64 kk),dv])))):=by
 intro G a w R next Q hK
 subst Kr;have hv:=(BJ (A8 R hx)).1;obtain⟨es,cl,m1,m2,m3,mc,mb⟩:=R.holds _ _ hm;have Bh:w.heap[r]? = some (.mapIter (some b) ml.length (seen++[i]).toArray ml.length):=R.holds _ _ hr;subst mc;have Cc:i<es.size:=by rw[m2];exact (uA hi).1
 have he:es[i]? = some es[i]:=uG Cc;obtain⟨q1,q2⟩:=m3 i kk dv _ hi he;have hb:=mb i _ he;have Aw:(es.toList.map (·.born)).Nodup:=by
  have e:es.toList.map (·.born)=List.range es.size:=by
   apply List.ext_getElem;· simp
   ·intro p h1 h2;have hp:p<es.size:=by simpa using h2
    simpa using mb p _ (uG hp)
  rw[e];exact List.nodup_range
 have Aq:=run_entry_at (P:=X.P) w r b ml.length seen.toArray es ml.length es[i] (by rw[Bh,hb];simp) m1 sS Aw;refine M5 (by intro c e;rw[ho]at e;cases e) ?_;have Az:(execOp a.eval o).run X.P w = .ok (.value (.tuple #[es[i].key,es[i].val])) w:=by simp[execOp,ho,hv,Aq,Result.andThen]
 rw[Az,D1,hd];refine hK G _ w (R.setSlot (Trans.refl X G a w R.nil) rfl rfl (fun _ h=>h) hn (.tup _ _ rfl fun j c v hc hv=>?_))
 match j with
 | 0=>simp at hc hv;subst hc hv;rw[q1];exact .prim _ Uh
 | 1=>simp at hc hv;subst hc hv;exact q2
 | j+2=>simp at hc
theorem eL {Ab:List Nat}{ops:Array Oper}{l:List Oper}{K:St->Prop}{d:Tmp}{ty:TypeId}{it:Operand}{pos:String}{af:Array Edge}{q:Option (Prop × St)}{r b n i:Nat}{seen:List Nat}{ml:List (Int × DV)}{kk:Int}{dv:DV}(hn:d<X.n)
  (hx:CS X (get s) it=some (.v (.prim (.pointer (some ⟨r,0,none⟩))))) (hr:get s (.heap r)=some (.ob (.it b n (seen++[i])))) (hm:get s (.heap b)=some (.mp ml)) (Kr:n=ml.length) (hi:ml[i]? = some (kk,dv)) (Uh:D5 (.int .i64 kk)) (hq:q=none)
  (h:vc X Ab ops l (CM s (.slot d) (.one (.v (.tup [.prim (.int .i64 kk),dv])))) K):ZR X Ab ops l K ⟨some d,.entry it,ty,pos,af,none⟩ s q:=by
 subst hq;exact OA rfl (qW (o:=⟨some d,.entry it,ty,pos,af,none⟩) rfl rfl hn hx hr hm Kr hi Uh) (CU h)
end
end
section
def LCM (P:Program)(gl:AB)(f:FuncId)(args:List DV)(b:Nat)(ml:List (Int × DV))(R:DV->List (Int × DV)->Prop):Prop:=
 ∀(D:Nat->Nat->Prop) (w:World) (vs:Array Value),Wf gl D w->vs.size=args.length->(∀(i:Nat) (x:DV) (v:Value),args[i]? = some x->vs[i]? = some v->RV D w x v)->mA ⟨D,fun _=>0,fun _=>(none,0)⟩ w b ml->(∀o,¬D b o) ->
  Calls P f vs w fun e w'=>∃v D' r Gd,e = .returned v/\R r Gd/\Ext [b] D w D' w'/\Wf gl D' w'/\RV D' w' r v/\mA ⟨D',fun _=>0,fun _=>(none,0)⟩ w' b Gd/\∀o,¬D' b o
def zms (P:Program)(gl:AB)(f:FuncId)(args:List DV)(b:Nat)(ml:List (Int × DV))(R:DV->List (Int × DV)->Prop):Prop:=W5 P f/\LCM P gl f args b ml R
def qX (P:Program)(gl:AB)(f:FuncId)(args:List DV)(b:Nat)(ml:List (Int × DV))(r:DV)(Gd:List (Int × DV)):Prop:=zms P gl f args b ml fun x m=>x=r/\m=Gd
theorem eM {P:Program}{gl:AB}{f:FuncId}{args:List DV}{bm:Nat}{ml:List (Int × DV)}{R:DV->List (Int × DV)->Prop}{fn:Func}{body:Code}(hf:P.funcs[f]? = some fn)
  (h:∀X:Ctx,X.P=P->X.gl=gl->X.f=f->X.fn=fn->X.n=fn.ntmps->X.md = .fm bm R->X.ids=[bm]->(∀x∈args,DV.fit x)->W X [.code body] (MH 0 args++[(.heap bm,.mp ml)]))
  (hb : fn.body = some body := by rfl) (Gi : (fn.name == "runtime.NumGoroutine") = false := by kernel_rfl) (hn : args.length <= fn.ntmps := by exact uF rfl) : zms P gl f args bm ml R := by
 refine⟨⟨fn,hf,by simp[hb],Gi⟩,?_⟩;intro D w vs Fr Bk u9 hmap Aw cs
 let X:Ctx:={ P:=P,gl:=gl,f:=f,fn:=fn,n:=fn.ntmps,ids:=[bm],D0:=D,w0:=w,R:=fun _ _=>True,md:=.fm bm R }
 have u4:∀x∈args,DV.fit x:=by
  intro x hx;obtain⟨i,hi,rfl⟩:=List.mem_iff_getElem.1 hx;exact RV.fit (u9 i _ vs[i] (uB hi) (uG oO))
 have hW:=h X rfl rfl rfl rfl rfl rfl rfl u4
 let a:Act:={ tmps:=vs++Array.replicate (fn.ntmps - vs.size) undef,defers:=[] }
 have Rl:Rel X { D:=D,ν:=fun _=>0,τ:=fun _=>(none,0) } (MH 0 args++[(.heap bm,.mp ml)]) a w:=by
  have Ay:∀l v,get (MH 0 args++[(.heap bm,.mp ml)]) l=some v->(∃i x,l = .slot i/\v = .one (.v x)/\args[i]? = some x)\/(l = .heap bm/\v = .mp ml):=by
   intro l v hl;rw[HS]at hl;rcases Option.or_eq_some_iff.1 hl with hl|⟨-,hl⟩
   ·obtain⟨i,x,h1,h2,h3⟩:=TF hl;exact .inl ⟨i,x,by simpa using h1,h2,h3⟩
   ·simp only[get]at hl;split at hl;· rename_i e;cases hl;exact .inr ⟨e.symm,rfl⟩
    ·cases hl
  refine⟨by simp[a,X];omega,⟨[],rfl,List.nodup_nil,sS⟩,Ext.refl _ _ _,Fr,rfl,fun l v hl=>?_,fun l v l' v' b hl Ct hb Ai=>?_,fun l v b hl hb=>?_,fun l v b o hl hb _=>?_⟩
  ·rcases Ay l v hl with⟨i,x,rfl,rfl,hx⟩|⟨rfl,rfl⟩
   ·have hi:i<vs.size:=by rw[Bk];exact (uA hx).1
    have hv:vs[i]? = some vs[i]:=uG hi;show RV D w x _;have:a.tmps.getD i undef=vs[i]:=by
     simp[a,Array.getElem?_append_left hi,hv]
    rw[this];exact u9 i x _ hx hv
   ·exact hmap
  ·rcases Ay l v hl with⟨i,x,rfl,rfl,hx⟩|⟨rfl,rfl⟩;· cases hb
   ·rcases Ay l' v' Ct with⟨i,x,rfl,rfl,hx⟩|⟨rfl,rfl⟩;· cases Ai
    ·rfl
  ·rcases Ay l v hl with⟨i,x,rfl,rfl,hx⟩|⟨rfl,rfl⟩;· cases hb
   ·simp only[BC,uC]at hb;subst hb;exact .inr ⟨List.mem_singleton.2 rfl,rfl⟩
  ·rcases Ay l v hl with⟨i,x,rfl,rfl,hx⟩|⟨rfl,rfl⟩;· cases hb
   ·simp only[BC,uC]at hb;subst hb;exact Aw o
 let b:Frame:={ (default:Frame) with fn:=f,kind:=.normal }
 have Ec:Frame.enter P f vs .normal=b.atR a [.code body]:=by
  simp[Frame.enter,Frame.atR,hf,hb,b,a];rfl
 obtain⟨w',fr,⟨v,D',r,Gd,k1,⟨k2,k3,k4,k5,k6⟩,h3,h4⟩,h2⟩:=hW _ a w b cs rfl rfl rfl Rl;rw[<- Ec]at h2;exact⟨.returned v,w',fr,⟨v,D',r,Gd,rfl,k1,k2,k3,k4,k5,k6⟩,h2,h3,h4⟩
section
variable {X:Ctx}{s:St}{k:List Item}
theorem z0p {bm:Nat}{Q:DV->List (Int × DV)->Prop}(Cw:X.md = .fm bm Q)(Av:X.P.funcs[X.f]? = some X.fn){r:DV}(hr:UT X (get s) X.fn.results.toList=some r){ml:List (Int × DV)}(hm:get s (.heap bm)=some (.mp ml))(hR:Q r ml){m:List Item}(Dl:z63 X m):W X m s:=by
 intro G a w b cs hf hk Hb R;obtain⟨Ds,Zc,-⟩:=R.defers;obtain⟨w',Jw,k1,R',k3,k4,k5,k6,k7⟩:=RO (cs:=cs) Ds a w { b.atR a m with mode:=.returning } Zc R rfl rfl;obtain⟨v,h1,h2⟩:=UU R' hr;refine⟨w',Jw,?_,.head (Dl a w b cs (Hb.trans (by simp[Ctx.rd,Cw]))) k1⟩;simp only[Fin,Cw];exact⟨v,G.D,r,ml,hR,⟨R'.ext,R'.wf,h2,R'.holds _ _ hm,fun o=>R'.data _ _ bm o hm rfl rfl⟩,k5.trans hf,k3,k4,k6.trans hk,X.fn,by rw[k5];exact (congrArg _ hf).trans Av,by rw[k7];exact h1⟩
theorem yU {P:Program}(hP:X.P=P){f:FuncId}{fn:Func}(hf:X.f=f)(u8:X.fn=fn){bm:Nat}{r:DV}{ml:List (Int × DV)}(Cw:X.md = .fm bm fun x m=>x=r/\m=ml){kk:List Item}
  (h:P.funcs[f]? = some fn/\UT X (get s) fn.results.toList=some r/\get s (.heap bm)=some (.mp ml)):W X (.code .ret::kk) s:=by
 subst hP hf u8;exact z0p Cw h.1 h.2.1 h.2.2 ⟨rfl,rfl⟩ W2
theorem yV {P:Program}(hP:X.P=P){f:FuncId}{fn:Func}(hf:X.f=f)(u8:X.fn=fn){bm:Nat}{r:DV}{ml:List (Int × DV)}(Cw:X.md = .fm bm fun x m=>x=r/\m=ml)
  (h:P.funcs[f]? = some fn/\UT X (get s) fn.results.toList=some r/\get s (.heap bm)=some (.mp ml)):W X [] s:=by
 subst hP hf u8;exact z0p Cw h.1 h.2.1 h.2.2 ⟨rfl,rfl⟩ RP
theorem Rel.callM {G:Gh}{a:Act}{w:World}(R:Rel X G s a w){b:Nat}{ml Gd:List (Int × DV)}(hm:get s (.heap b)=some (.mp ml)){D':Nat->Nat->Prop}{w':World}(hx:Ext [b] G.D w D' w')(Fr:Wf X.gl D' w'){r:DV}{v:Value}(hr:RV D' w' r v)
  (hh:mA ⟨D',fun _=>0,fun _=>(none,0)⟩ w' b Gd) (Aw:∀o,¬D' b o) {d:Nat} (hd:d<X.n) :
  Rel X { D:=D',ν:=G.ν,τ:=G.τ } (CM (CM s (.slot d) (.one (.v r))) (.heap b) (.mp Gd)) (a.put (some d) v) w':=by
 have hp:=FV a (some d) v;have T:Trans X G a w { D:=D',ν:=G.ν,τ:=G.τ } (a.put (some d) v) w' (fun b'=>b' = b):=by
  refine⟨hp.1,fun h=>h.keep hp.2 fun D hD=>(hx.block D (Array.getElem?_eq_some_iff.1 hD).1 fun Kj=>?_).trans hD,hx.os,hx.tape,hx.output,hx.size,fun b' hb hn=>hx.block b' hb (by simpa using hn),fun b' hb=>?_,hx.grow,fun b o hD hn=>⟨.inl (hx.new b o hD hn),Fr.there b o hD⟩,R.nil⟩
  ·obtain rfl:D=b:=by simpa using Kj
   obtain⟨es,cl,h4,_⟩:=R.holds _ _ hm;rw[hD]at h4;cases h4
  ·subst hb;exact (R.own _ _ b' hm rfl).imp id And.left
 refine R.step T (fun l u=>(l = .slot d/\u = .one (.v r))\/(l = .heap b/\u = .mp Gd)) (fun l u h=>?_) (fun l u h=>?_) (fun l u l' u' b h h' hb Ai=>?_)
 ·rw[BM,BM]at h;by_cases h1:Loc.heap b=l;· rw[if_pos h1]at h;cases h;exact .inl (.inr ⟨h1.symm,rfl⟩)
  ·rw[if_neg h1]at h;by_cases h3:Loc.slot d=l;· rw[if_pos h3]at h;cases h;exact .inl (.inl ⟨h3.symm,rfl⟩)
   ·rw[if_neg h3]at h;refine .inr ⟨h,fun n hn=>FH _ _ _ _ (fun e=>h3 (by rw[hn,e])),fun b' Ai he=>?_,fun _ _=>rfl,fun _ _=>rfl⟩;subst he;exact h1 (R.sep _ _ _ _ b' hm h rfl Ai)
 ·rcases h with⟨rfl,rfl⟩|⟨rfl,rfl⟩
  ·refine⟨?_,fun b hb=>by cases hb⟩;show RV D' w' r _;rw[E4 _ _ _ (by rw[R.size];exact hd)];exact hr
  ·refine⟨hh,fun b' Ai=>?_⟩;cases Ai;exact⟨.inr rfl,R.own _ _ b hm rfl,fun _ o=>Aw o⟩
 ·rcases h with⟨rfl,rfl⟩|⟨rfl,rfl⟩;· cases hb
  ·rcases h' with⟨rfl,rfl⟩|⟨rfl,rfl⟩;· cases Ai
   ·rfl
theorem X4 {o:Oper}{f:FuncId}{args:Array Operand}{Bo:Array TypeId}(ho:o.op = .call { callee:=.value (.func f),args:=args,argTypes:=Bo })
  {ds:List DV} (u9:GK X (get s) args.toList=some ds) {b:Nat} {ml Gd:List (Int × DV)} {r:DV} (hc:qX X.P X.gl f ds b ml r Gd) (hm:get s (.heap b)=some (.mp ml)) {d:Nat} (hd:o.dst=some d) (Ci:d<X.n) :
  ED X s o (CM (CM s (.slot d) (.one (.v r))) (.heap b) (.mp Gd)):=by
 intro G a w R0 next Q hK
 obtain⟨q1,q2⟩:=O7 R0 u9;have Yx:args.size=ds.length:=by simpa using q1
 refine M5 (by intro c e;rw[ho]at e;cases e) ?_;have Aq:(execOp a.eval o).run X.P w = .ok (.enter f (args.map a.eval)) w:=by
  simp[execOp,ho,resolve,Act.eval,Deferred.ofValue,invoke,PZ hc.1]
 rw[Aq,fU];refine (hc.2 G.D w _ R0.wf (by simp[<- q1]) (fun i x v hx hv=>q2 i x v hx (by simpa using hv)) (R0.holds _ _ hm) (fun o=>R0.data _ _ b o hm rfl rfl)).mono ?_;rintro e w' ⟨v,D',r',m',rfl,⟨rfl,rfl⟩,Lv,Fr,Uu,hh,Aw⟩;rw[hd];exact hK _ _ w' (R0.callM hm Lv Fr Uu hh Aw Ci)
theorem Y7 {Ab:List Nat}{ops:Array Oper}{l:List Oper}{K:St->Prop}{d:Tmp}{f:FuncId}{args:Array Operand}{Bo:Array TypeId}{ty:TypeId}{pos:String}{af:Array Edge}{P:Program}{gl:AB}(hP:X.P=P)(u6:X.gl=gl)
  {ds Ej:List DV} {b:Nat} {ml Gd:List (Int × DV)} {r:DV} (hc:qX P gl f Ej b ml r Gd) (u9:GK X (get s) args.toList=some ds) (Dv:ds=Ej) (hm:get s (.heap b)=some (.mp ml)) (Ci:d<X.n)
  (h:vc X Ab ops l (CM (CM s (.slot d) (.one (.v r))) (.heap b) (.mp Gd)) K) :
  ZR X Ab ops l K ⟨some d,.call { callee:=.value (.func f),args:=args,argTypes:=Bo },ty,pos,af,none⟩ s (AZ X Ab s ⟨some d,.call { callee:=.value (.func f),args:=args,argTypes:=Bo },ty,pos,af,none⟩):=by
 subst Dv;have e:AZ X Ab s ⟨some d,.call { callee:=.value (.func f),args:=args,argTypes:=Bo },ty,pos,af,none⟩=none:=by
  simp only[AZ,CY,GP,O6,HT];split <;> rfl
 rw[e];exact OA rfl (X4 (o:=⟨some d,.call { callee:=.value (.func f),args:=args,argTypes:=Bo },ty,pos,af,none⟩) rfl u9 (by rw[hP,u6];exact hc) hm rfl Ci) (CU h)
theorem QP {s0:St}{Ab:List Nat}{ops:Array Oper}{K:St->Prop}{l:List Oper}{k:St->List Ev->Prop}{ev:List Ev}{fp wr:List Loc}{d:Tmp}{f:FuncId}{args:Array Operand}{Bo:Array TypeId}{ty:TypeId}{pos:String}{af:Array Edge}{s1:St}
  (hk:∀s ev,k s ev->VD X ops s0 l s ev K) {P:Program} {gl:AB} (hP:X.P=P) (u6:X.gl=gl) {ds Ej:List DV} {b:Nat} {ml Gd:List (Int × DV)} {r:DV} (hc:qX P gl f Ej b ml r Gd) (u9:GK X (get s) args.toList=some ds) (Dv:ds=Ej) (hm:get s (.heap b)=some (.mp ml)) (Ci:d<X.n)
  (h:ZS k ev s (BQ args.toList++[.heap b]) [] [(.slot d,some (.one (.v r))),(.heap b,some (.mp Gd))]) :
  nP X ops s0 l K k ⟨some d,.call { callee:=.value (.func f),args:=args,argTypes:=Bo },ty,pos,af,none⟩ ev s fp wr (AZ X Ab s1 ⟨some d,.call { callee:=.value (.func f),args:=args,argTypes:=Bo },ty,pos,af,none⟩):=by
 subst Dv;have e:AZ X Ab s1 ⟨some d,.call { callee:=.value (.func f),args:=args,argTypes:=Bo },ty,pos,af,none⟩=none:=by
  simp only[AZ,CY,GP,O6,HT];split <;> rfl
 rw[e];show VD X ops s0 _ s ev K;refine Q4 ⟨BQ args.toList++[.heap b],[(.slot d,some (.one (.v r))),(.heap b,some (.mp Gd))],[]⟩ (fun s' hs _=>Q5 (.inl rfl) ?_) (hk _ _ (by exact h));refine (X4 (o:=⟨some d,.call { callee:=.value (.func f),args:=args,argTypes:=Bo },ty,pos,af,none⟩) rfl (OF hs (fun m hm=>UY hm) u9) (by rw[hP,u6];exact hc) (hs _ _ (G1 (List.mem_append.2 (.inr (List.mem_singleton.2 rfl))) hm)) rfl Ci).congr fun m=>?_;rfl
end
end
section
section
variable {X:Ctx}{s:St}
theorem zmt {b:Nat}{l r:List SV}{kk:List Item}(Ak:get s (.heap b)=some (.row (l++r)))(h:W X kk (CM s (.heap b) (.row l))):W X kk s:=by
 intro G a w b' cs hf Fc hr R;refine h G a w b' cs hf Fc hr ?_;have hb:LM G w b l:=by
  obtain⟨c,e,h1,h2,h3⟩:=R.holds _ _ Ak;rw[List.length_append]at h2;refine⟨c,e,h1,oO,fun i x hx=>?_⟩;have Ac:=(uA hx).1;exact h3 i x (by rw[List.getElem?_append_left Ac];exact hx)
 have key:∀l' v,get (CM s (.heap b) (.row l)) l' = some v->∃v0,get s l' = some v0/\BC G l' v=BC G l' v0:=by
  intro l' v hl;rw[BM]at hl;split at hl
  ·subst_vars;cases hl;exact⟨_,Ak,rfl⟩
  ·exact⟨v,hl,rfl⟩
 refine⟨R.size,R.defers,R.ext,R.wf,R.nil,fun l v hl=>?_,fun l v l' v' b' hl Ct Gx Et=>?_,fun l v b' hl Gx=>?_,fun l v b' o hl Gx ht=>?_⟩
 ·rw[BM]at hl;split at hl
  ·subst_vars;cases hl;exact hb
  ·exact R.holds _ _ hl
 ·obtain⟨v0,k1,k2⟩:=key _ _ hl;obtain⟨v1,k3,k4⟩:=key _ _ Ct;rw[k2]at Gx;rw[k4]at Et;exact R.sep _ _ _ _ _ k1 k3 Gx Et
 ·obtain⟨v0,k1,k2⟩:=key _ _ hl;rw[k2]at Gx;exact R.own _ _ _ k1 Gx
 ·obtain⟨v0,k1,k2⟩:=key _ _ hl;rw[k2]at Gx;exact R.data _ _ _ o k1 Gx ht
end
end
section
variable {gl:AB}
def yW (k:Int):List Int->List Int
 | []=>[k]
 | a::r=>if k<=a then k::a::r else a::yW k r
def SS:List Int->List Int
 | []=>[]
 | a::r=>yW a (SS r)
theorem iV (k:Int)(l:List Int):(yW k l).Perm (k::l):=by
 induction l with
 | nil=>exact List.Perm.refl _
 | cons a r ih=>
  unfold yW;split;· exact List.Perm.refl _
  ·exact (ih.cons a).trans (List.Perm.swap k a r)
theorem eN (l:List Int):(SS l).Perm l:=by
 induction l with
 | nil=>exact List.Perm.refl _
 | cons a r ih=>exact (iV a _).trans (ih.cons a)
theorem qY (k:Int){l:List Int}(h:l.Pairwise (·<=·)):(yW k l).Pairwise (·<=·):=by
 induction l with
 | nil=>simp[yW]
 | cons a r ih=>
  obtain⟨h1,h2⟩:=List.pairwise_cons.1 h;unfold yW;split
  ·rename_i hk;refine List.pairwise_cons.2 ⟨fun b hb=>?_,h⟩;rcases List.mem_cons.1 hb with rfl|hb;· exact hk
   ·exact Int.le_trans hk (h1 b hb)
  ·rename_i hk;refine List.pairwise_cons.2 ⟨fun b hb=>?_,ih h2⟩;rcases List.mem_cons.1 ((iV k r).mem_iff.1 hb) with rfl|hb;· omega
   ·exact h1 b hb
theorem lP (l:List Int):(SS l).Pairwise (·<=·):=by
 induction l with
 | nil=>exact List.Pairwise.nil
 | cons a r ih=>exact qY a ih
theorem zbc {l ks:List Int}(h:l.Pairwise (·<=·))(hp:l.Perm ks):l=SS ks:=
 List.Perm.eq_of_pairwise (le:=fun a b=>a<=b) (fun _ _ _ _ h1 h2=>Int.le_antisymm h1 h2) h (lP ks) (hp.trans (eN ks).symm)
theorem iW (l:List Int):(SS l).length=l.length:=(eN l).length_eq
abbrev VJ:DV:=.prim (.bool true)
def J6 (ml:List (Int × DV)):List Int->List (Int × DV)
 | []=>ml
 | n::r=>J6 (SR ml n VJ) r
theorem QQ (ml:List (Int × DV))(l:List Int)(n:Int):J6 ml (l++[n])=SR (J6 ml l) n VJ:=by
 induction l generalizing ml with
 | nil=>rfl
 | cons a r ih=>exact ih _
def PN (ml:List (Int × DV)):Prop:=(∀p∈ml,p.2=VJ)/\∀p∈ml,D5 (.int .i64 p.1)
theorem aR {ml:List (Int × DV)}{n:Int}(h:PN ml)(hn:D5 (.int .i64 n)):PN (SR ml n VJ):=by
 unfold SR;split;· exact h
 ·exact⟨fun p hp=>by rcases List.mem_append.1 hp with hp|hp;exact h.1 p hp;simp at hp;rw[hp],fun p hp=>by rcases List.mem_append.1 hp with hp|hp;exact h.2 p hp;simp at hp;rw[hp];exact hn⟩
theorem eO (ml:List (Int × DV))(n:Int):(SR ml n VJ).length<=ml.length+1:=by unfold SR;split <;> simp
theorem U1 (ml:List (Int × DV))(l:List Int):(J6 ml l).length<=ml.length+l.length:=by
 induction l generalizing ml with
 | nil=>exact Nat.le_refl _
 | cons n r ih=>have:=ih (SR ml n VJ);have:=eO ml n;simp only[J6,List.length_cons];omega
def Tm.marksN:Tm->Int->List (Int × DV)->List (Int × DV)
 | .mk k i _ a,d,ml=>markss a (d+AX k) (if k=1/\d<=i then SR ml (i - d) VJ else ml)
where
 markss:List Tm->Int->List (Int × DV)->List (Int × DV)
  | [],_,ml=>ml
  | x::r,d,ml=>markss r d (x.marksN d ml)
theorem Tm.marksN_eq (t:Tm)(d:Int)(ml:List (Int × DV)):t.marksN d ml=marksN.markss t.args (d+AX t.kind) (if t.kind=1/\d<=t.index then SR ml (t.index - d) VJ else ml):=by cases t;rfl
theorem Tm.markss_snoc (l:List Tm)(x:Tm)(d:Int)(ml:List (Int × DV)):marksN.markss (l++[x]) d ml=x.marksN d (marksN.markss l d ml):=by
 induction l generalizing ml with
 | nil=>rfl
 | cons a r ih=>exact ih _
theorem eP {n:Int}(h:0<=n)(h2:n<=1099511627776):D5 (.int .i64 n):=⟨by show (-9223372036854775808:Int)<=n;omega,by show n<=(9223372036854775807:Int);omega⟩
theorem qZ (t:Tm):∀(d:Int) (ml:List (Int × DV)),0<=d->t.idx 1099511627776->PN ml->PN (t.marksN d ml)/\(t.marksN d ml).length<=ml.length+t.count:=by
 induction t using Tm.ind with
 | h t ih=>
 intro d ml hd hi hs;have Cy:=(Tm.idx_eq t _).1 hi;have key:∀(l:List Tm) (d:Int) (ml:List (Int × DV)),0<=d->(∀x∈l,x∈t.args)->PN ml->PN (Tm.marksN.markss l d ml)/\(Tm.marksN.markss l d ml).length<=ml.length+Tm.count.counts l:=by
  intro l
  induction l with
  | nil=>intro d ml _ _ h;exact⟨h,Nat.le_refl _⟩
  | cons a r Dk=>
   intro d ml hd hl h;obtain⟨h1,h2⟩:=ih a (hl a sS) d ml hd (Cy.2 a (hl a sS)) h;obtain⟨h3,h4⟩:=Dk d (a.marksN d ml) hd (fun x hx=>hl x (by simp[hx])) h1;exact⟨h3,by simp only[Tm.marksN.markss,Tm.count.counts];omega⟩
 have hb:=K9 t.kind;rw[Tm.marksN_eq,Tm.count_eq];split
 ·rename_i h1;obtain⟨h2,h3⟩:=key t.args (d+AX t.kind) (SR ml (t.index - d) VJ) oO (fun _ h=>h) (aR hs (eP oO oO));have:=eO ml (t.index - d);exact⟨h2,oO⟩
 ·obtain⟨h2,h3⟩:=key t.args (d+AX t.kind) ml oO (fun _ h=>h) hs;exact⟨h2,oO⟩
def MB (ml:List (Int × DV)):List Int:=ml.map (·.1)
theorem zfz (t:Tm):∀(d:Int) (b:Nat) (ml:List (Int × DV)),0<=d->d+t.count<=1099511627776->t.idx 1099511627776->PN ml ->
  qX Tryz.prog gl 266 [t.dv,A0 d,.prim (.map (some b))] b ml (.tup []) (t.marksN d ml):=by
 induction t using Tm.ind with
 | h t ih=>
 intro d b ml hd hdc hi hs;have Cy:=(Tm.idx_eq t _).1 hi;have Ap:=Tm.count_eq t;have Ji:=K9 t.kind;have Jv:=Tm.marksN_eq t d ml;refine eM Tryz.func266 ?_;intro X hP u6 hf u8 hn Cw u5 u4;have hlen:=Tm.fit_len (u4 t.dv sS);simp only[MH,List.cons_append,List.nil_append];obtain⟨m0,Nj⟩:∃m0,m0=if t.kind=1/\d<=t.index then SR ml (t.index - d) VJ else ml:=⟨_,rfl⟩
 have Dt:PN m0:=by
  rw[Nj];split;· exact aR hs (eP oO oO)
  ·exact hs
 rw[<- Nj]at Jv;apply Q8 [sV 1 (A0 d),sV 2 (.prim (.map (some b))),sP 3,sL 3 [.v (A0 t.kind),.v (A0 t.index),.v (A0 t.type.kind),.v (.sl (t.type.args.map Ty.cells)),.v (.sl (t.args.map Tm.cells))],(.heap  b,.mp (m0)),sV 25 (A0 0),sV 24 (A0 t.args.length),sV 23 (.sl (t.args.map Tm.cells))]
 ·intro Aa;by_cases h1:t.kind=1
  ·by_cases h2:d<=t.index
   ·rw[if_pos ⟨h1,h2⟩]at Nj;have Vg:¬t.index<d:=oO;refine A7 (j2 @h1 @h2) ?_;refine BR ?_;refine B4 [] fun K hK=>?_;simp[go_sem,hP,u6,hn];repeat (refine⟨oO,?_⟩)
    refine VI (b:=b) (n:=t.index - d) (ml:=ml) (dv:=VJ) (by rw[hP];kernel_rfl) (by simp[go_sem]) (by simp[go_sem]) (by simp[go_sem]) (by simp[go_sem]) hs.1 (by rfl) ?_;simp[go_sem];refine hK _ ?_;clear hK K;refine A2 ?_;refine GX ?_;refine AA [] (j2 @h1 @Nj) Aa
   ·rw[if_neg fun h=>h2 h.2]at Nj;refine A7 (j2 @h1 @h2) ?_;refine GX ?_;refine AA [] (j2 @h1 @Nj) Aa
  ·rw[if_neg fun h=>h1 h.1]at Nj;refine A7 @h1 ?_;refine GX ?_;refine AA [] (j2 @h1 @Nj) Aa
 ·refine BR ?_;refine CR [] (by simp[go_sem]) (by simp[go_sem,Tm.marksN.markss] <;> omega) (by simp[go_sem]) (DC (t.args) (fun done=>PN (Tm.marksN.markss done (d+AX t.kind) m0)) (fun done rest=>[sV 1 (A0 d),sV 2 (.prim (.map (some b))),sP 3,sL 3 [.v (A0 t.kind),.v (A0 t.index),.v (A0 t.type.kind),.v (.sl (t.type.args.map Ty.cells)),.v (.sl (t.args.map Tm.cells))],(.heap  b,.mp (Tm.marksN.markss done (d+AX t.kind) m0)),sV 25 (A0 done.length),sV 24 (A0 t.args.length),sV 23 (.sl (t.args.map Tm.cells))]) (Dt) ?_ ?_)
  ·intro done x rest hL Ad hI u7;have Ac:done.length<t.args.length:=by rw[hL];simp
   have Aj:=uE Ad;have Bp:=Tm.count_mem Aj;have w:=ih x Aj (d+AX t.kind) b (Tm.marksN.markss done (d+AX t.kind) m0) oO oO (Cy.2 x Aj) hI;refine A5 ?_;refine AQ ?_;refine A7 @Ad ?_;refine BR ?_;first|refine B4 [] fun K hK=>?_|refine AU (by rw[hP];exact BK) [] fun K hK=>?_
   refine K0 ?_;refine F8 tT (S8 t) ?_;repeat (refine⟨oO,?_⟩)
   refine QP (fun _ _=>E8) hP u6 w (by simp[go_sem,hP,u6,hn]) rfl (by simp[go_sem]) (by rw[hn];exact uF rfl) ?_;simp[go_sem,hP,u6,hn];refine I7 ?_;clear hK K;refine CG (wr []) @Tm.markss_snoc tT (u7 (by rw[Tm.markss_snoc];exact (qZ x _ _ oO (Cy.2 x Aj) hI).1))
  ·intro hI;refine A5 ?_;refine B9 ?_;refine A2 ?_;refine BR ?_;first|refine yU hP hf u8 Cw ?_|refine yV hP hf u8 Cw ?_
   simp[go_sem,hP,u6,hn,Jv]
theorem ST:∀{n:Nat} {l:List Nat},l.Nodup->(∀i∈l,i<n)->l.length<=n
 | 0,l,_,hl=>by
  cases l with
  | nil=>exact Nat.le_refl _
  | cons a r=>exact absurd (hl a sS) oO
 | n+1,l,h,hl=>by
  by_cases hm:n∈l
  ·have hp:=List.perm_cons_erase hm
   have h1:=ST (n:=n) (l:=l.erase n) (h.erase n) fun i hi=>by
    have h2:=(List.Nodup.mem_erase_iff h).1 hi;have:=hl i h2.2;omega
   rw[hp.length_eq,List.length_cons];omega
  ·have:=ST (n:=n) (l:=l) h fun i hi=>by
    have h2:=hl i hi;have:i≠n:=fun e=>hm (e ▸ hi);omega
   omega
theorem yX {n:Nat}{l:List Nat}(h:l.Nodup)(hl:∀i∈l,i<n)(Ae:∀i,i<n->i∈l):l.Perm (List.range n):=
 (List.perm_ext_iff_of_nodup h List.nodup_range).2 fun a=>⟨fun ha=>List.mem_range.2 (hl a ha),fun ha=>Ae a (List.mem_range.1 ha)⟩
def ZM (ml:List (Int × DV))(i:Nat):Int:=(ml.getD i (0,VJ)).1
theorem yY (ml:List (Int × DV)):(List.range ml.length).map (ZM ml)=MB ml:=by
 apply List.ext_getElem;· simp[MB]
 ·intro i h1 h2;have hi:i<ml.length:=by simpa [MB] using h2
  simp[ZM,MB,List.getD_eq_getElem?_getD,hi]
theorem rA {ml:List (Int × DV)}{i:Nat}{k:Int}{d:DV}(h:ml[i]? = some (k,d)):ZM ml i=k:=by unfold ZM;rw[List.getD_eq_getElem?_getD,h];rfl
theorem yZ {ml:List (Int × DV)}{seen:List Nat}{L:List Int}(h:seen.Nodup)(hl:∀i∈seen,i<ml.length)(Ae:∀i,i<ml.length->i∈seen)(hs:L.Pairwise (·<=·))(hp:L.Perm (seen.map (ZM ml))):L=SS (MB ml):=
 zbc hs (hp.trans (by rw[<- yY];exact (yX h hl Ae).map _))
theorem z4 {L:List Int}{k:Int}{i:Nat}(h:L.Pairwise (·<=·))(h1:∀a∈L.drop i,k<a)(h2:∀a∈L.take i,a<=k):(L.take i++k::L.drop i).Pairwise (·<=·):=by
 have hq:(L.take i++L.drop i).Pairwise (·<=·):=by rw[List.take_append_drop];exact h
 obtain⟨q1,q2,q3⟩:=List.pairwise_append.1 hq;refine List.pairwise_append.2 ⟨q1,List.pairwise_cons.2 ⟨fun a ha=>Int.le_of_lt (h1 a ha),q2⟩,fun a ha b hb=>?_⟩;rcases List.mem_cons.1 hb with rfl|hb;· exact h2 a ha
 ·exact q3 a ha b hb
theorem zbd (L:List Int)(k:Int)(i:Nat):(L.take i++k::L.drop i).Perm (L++[k]):=by
 refine List.perm_middle.trans ?_;rw[List.take_append_drop];exact (List.perm_append_comm (l₁:=[k]) (l₂:=L))
theorem z5 {full:List (List DV)}(hE:∀e∈full,e.length=1){i:Nat}{d:DV}(h:full[i]? = some [d]):(AP full)[i]? = some (.v d):=by
 induction full generalizing i with
 | nil=>simp at h
 | cons e r ih=>
  have he:=hE e sS;obtain⟨x,rfl⟩:=List.length_eq_one_iff.1 he;have hc:AP ([x]::r) = .v x::AP r:=rfl;rw[hc];cases i with
  | zero=>simp at h;subst h;rfl
  | succ i=>simp at h ⊢;exact ih (fun e he=>hE e (by simp[he])) h
theorem rB (L:List Int)(k:Int)(rest:List (List DV)):(AH L++[[A0 k]]++rest).take (L.length+1)=AH (L++[k]):=by
 have e:AH L++[[A0 k]]=AH (L++[k]):=by simp[AH]
 rw[e];exact List.take_left' (by simp[AH])
theorem z0q {full rest:List (List DV)}{n:Nat}{k:Int}(h:∀e∈full,e.length=1)(h2:∀e∈rest,e.length=1):∀e∈full.take n++[[A0 k]]++rest,e.length=1:=by
 intro e he;rcases List.mem_append.1 he with he|he
 ·rcases List.mem_append.1 he with he|he;· exact h e (List.mem_of_mem_take he)
  ·simp at he;subst he;rfl
 ·exact h2 e he
theorem rC (L:List Int)(i:Nat)(y:Int):(AH L).set i [A0 y]=AH (L.set i y):=by simp[AH,List.map_set]
theorem z0r {L:List Int}{p:Nat}{z k:Int}(hp:p<=L.length):(L.take p++z::L.drop p).set p k=L.take p++k::L.drop p:=by
 have hl:(L.take p).length=p:=by simp;omega
 rw[List.set_append_right _ _ oO,hl,Nat.sub_self];rfl
theorem z5f {L:List Int}{p:Nat}{y z:Int}(hy:L[p]? = some y):(L.take (p+1)++z::L.drop (p+1)).set (p+1) y=L.take p++y::L.drop p:=by
 obtain⟨h1,h2⟩:=uA hy;rw[z0r oO];have e1:L.take (p+1)=L.take p++[y]:=by rw[List.take_add_one,hy];rfl
 have e2:L.drop p=y::L.drop (p+1):=by rw[List.drop_eq_getElem_cons h1,h2]
 rw[e1,e2];simp
theorem z0s {F:List (List DV)}(h:∀e∈F,e.length=1){i:Nat}(hi:i<F.length)(y:Int):put (AP F) i [.v (.prim (.int .i64 y))]=AP (F.set i [A0 y]):=by
 have:=z00 (E:=1) h (i:=i) hi (z:=[A0 y]) rfl;rw[Nat.mul_one]at this;exact this
theorem z0t {F:List (List DV)}(h:∀e∈F,e.length=1)(i:Nat)(y:Int):∀e∈F.set i [A0 y],e.length=1:=by
 intro e he;rcases List.mem_or_eq_of_mem_set he with he|rfl;· exact h e he
 ·rfl
theorem zbe {α:Type}{X:Ctx}{k kk:List Item}{s:St}(E:α->Prop)(S:α->St)(h1:(∀x,E x->W X kk (S x))->W X k s)(h2:∀x,E x->W X kk (S x)):W X k s:=h1 h2
def iX (b r:Nat)(ml:List (Int × DV)):List Nat × Option (Nat × Nat × List (List DV) × List Int)->St
 | (seen,none)=>[(.slot 2,.one (.own 0 [])),(.slot 3,.one (.own 0 [])),(.slot 7,.one (.v (DP r))),(.heap b,.mp ml),(.heap r,.ob (.it b ml.length seen))]
 | (seen,some (bk,cap,full,L))=>[(.slot 2,.one (.own 0 [])),(.slot 3,.one (.v (PF bk L.length cap))),(.slot 7,.one (.v (DP r))),(.heap b,.mp ml),(.heap r,.ob (.it b ml.length seen)),(.heap bk,.row (AP full))]
def zgn (n0 b r:Nat)(ml:List (Int × DV)):List Nat × Option (Nat × Nat × List (List DV) × List Int)->Prop
 | (seen,none)=>seen=[]
 | (seen,some (bk,cap,full,L))=>(seen.Nodup/\∀i∈seen,i<ml.length)/\full.length=cap/\(∀e∈full,e.length=1)/\full.take L.length=AH L/\L.length<=cap/\L.Pairwise (·<=·)/\L.Perm (seen.map (ZM ml))/\¬bk=b/\¬bk=r/\n0<=bk
theorem iY (b:Nat)(ml:List (Int × DV))(hs:PN ml)(Uy:ml.length<=1000000) :
  qX Tryz.prog gl 226 [.prim (.map (some b))] b ml (.sl (AH (SS (MB ml)))) ml:=by
 refine eM Tryz.func226 ?_;intro X hP u6 hf u8 hn Cw u5 u4;simp only[MH,List.cons_append,List.nil_append];refine A2 ?_;refine BR ?_;refine B4 [7] fun K hK=>?_;simp[go_sem,hP,u6,hn];refine yS (b:=b) (ml:=ml) (by rw[hn];exact uF rfl) (by rw[hP];kernel_rfl) (by simp[go_sem,hP,u6,hn]) (by simp[go_sem]) (by rfl) ?_;intro r hr hrw;simp[newB]at hr;have Bh:¬r=b:=fun e=>hr e.symm;simp[go_sem,hP,u6,hn,hr,Bh];refine I7 ?_;clear hK K;refine BR ?_;refine CR [] (by simp[go_sem]) (by simp[go_sem,hr,Bh,iX,bI]) (by simp[go_sem,iX]) (E6 (zgn X.w0.heap.size b r ml) (iX b r ml) (fun x=>ml.length - x.1.length) ([],none) rfl ?_);clear u4;rintro⟨seen,rep⟩ hI ih
 apply zbe (fun x:Nat × Int × Nat × Nat × List (List DV) × List Int=>((x.1<ml.length/\x.1∉seen)/\ZM ml x.1=x.2.1/\seen.Nodup/\∀i∈seen,i<ml.length)/\x.2.2.2.2.1.length=x.2.2.2.1/\(∀e∈x.2.2.2.2.1,e.length=1)/\x.2.2.2.2.1.take (x.2.2.2.2.2.length+1)=AH (x.2.2.2.2.2++[x.2.1])/\x.2.2.2.2.2.length+1<=x.2.2.2.1/\x.2.2.2.2.2.Pairwise (·<=·)/\x.2.2.2.2.2.Perm (seen.map (ZM ml))/\¬x.2.2.1=b/\¬x.2.2.1=r/\X.w0.heap.size<=x.2.2.1)
  (fun x=>[(.slot 2,.one (.own 0 [])),(.slot 3,.one (.v (PF x.2.2.1 (x.2.2.2.2.2.length+1) x.2.2.2.1))),(.slot 4,.one (.v (A0 x.2.1))),(.slot 5,.one (.v (A0 x.2.2.2.2.2.length))),(.slot 7,.one (.v (DP r))),(.heap b,.mp ml),(.heap r,.ob (.it b ml.length (seen++[x.1]))),(.heap x.2.2.1,.row (AP x.2.2.2.2.1))])
 ·intro Aa;rcases rep with _|⟨bk,cap,full,L⟩;simp only[zgn]at hI;subst hI;simp only[iX];refine BR ?_;refine B4 [8] fun K hK=>?_;simp[go_sem,hP,u6,hn,hr,Bh];refine iU (r:=r) (b:=b) (n:=ml.length) (seen:=[]) (ml:=ml) (by rw[hn];exact uF rfl) (by simp[go_sem,hr,Bh]) (by simp[go_sem,hr,Bh]) (by simp[go_sem,hr,Bh]) rfl hs.2 (by rfl) ?_ ?_
  ·intro Ae;simp[go_sem,hP,u6,hn,hr,Bh];refine I7 ?_;clear hK K;refine B9 ?_;refine BR ?_;have Nj:ml=[]:=by
    cases ml with
    | nil=>rfl
    | cons a l=>exact absurd (Ae 0 sS) sS
   have Fc:SS (MB ml)=[]:=by rw[Nj];rfl
   refine A2 ?_;refine BR ?_;first|refine yU hP hf u8 Cw ?_|refine yV hP hf u8 Cw ?_
   simp[go_sem,hP,u6,hn,Fc,AK]
  ·intro i k dv Qu Oz;have Pu:=rA Qu;have hkp:D5 (.int .i64 k):=hs.2 _ (uE Qu);have Cc:i<ml.length:=(uA Qu).1;simp[go_sem,hP,u6,hn,hr,Bh];refine I7 ?_;clear hK K;refine AQ ?_;refine BR ?_;refine B4 [10] fun K hK=>?_;simp[go_sem,hP,u6,hn,hr,Bh];refine eL (r:=r) (b:=b) (n:=ml.length) (i:=i) (seen:=[]) (ml:=ml) (kk:=k) (dv:=dv) (by rw[hn];exact uF rfl) (by simp[go_sem,hr,Bh]) (by simp[go_sem,hr,Bh]) (by simp[go_sem,hr,Bh]) rfl Qu hkp (by rfl) ?_;simp[go_sem,hP,u6,hn,hr,Bh];refine I7 ?_;clear hK K;refine BZ (j2 @hr @Bh) ?_;refine BR ?_;refine B4 [17] fun K hK=>?_;simp[go_sem,hP,u6,hn,hr,Bh];refine pU (E:=1) (B:=8) (zs:=[[A0 k]]) (zd:=[A0 0]) (by simp[go_sem,hr,Bh]) (by simp[go_sem,hP,hr,Bh]) (by simp[go_sem,hP]) (by rw[hP];kernel_rfl) rfl ⟨dD,dD⟩ (by rw[hP];rfl) (by rw[hn];exact uF rfl) sS (by simp[I6]) sS rfl ?_;intro bk cap hc Gy Kb;simp[newB]at Gy;have k1:¬bk=b:=fun e=>Gy.2 e.symm;have k2:¬bk=r:=fun e=>Gy.1 e.symm;simp[go_sem,hP,u6,hn,hr,Bh,k1,k2,Gy.1,Gy.2];refine I7 ?_;clear hK K;have Be:=Aa (i,k,bk,cap,[A0 k]::List.replicate (cap - 1) [A0 0],[]) ⟨⟨⟨Cc,Oz⟩,Pu,List.nodup_nil,sS⟩,by simp at hc ⊢;omega,sS,by simp[AH],hc,List.Pairwise.nil,List.Perm.refl _,k1,k2,Kb⟩;simp only at Be
   repeat (first|refine AN ?_|refine BX ?_|refine B7 ?_|refine CC rfl ?_)
   refine CR [] (by simp[go_sem]) (by simp[go_sem,hr,Bh,k1,k2,Gy.1,Gy.2,I0] <;> omega) (by simp[go_sem]) Be
  obtain⟨Wd,Iw,Zv,hI4,hI5,hI6,hI7,k1,k2,Xe⟩:=hI;have Xb:L.length<=1000000:=by
   have h1:=hI7.length_eq;have h2:=ST Wd.1 Wd.2;rw[List.length_map]at h1;omega
  have Bc:L.length<=2147483648:=oO;have Do:¬b=bk:=fun e=>k1 e.symm;have Dp:¬r=bk:=fun e=>k2 e.symm;simp only[iX];refine BR ?_;refine B4 [8] fun K hK=>?_;simp[go_sem,hP,u6,hn,hr,Bh,k1,k2,Do,Dp,Bc];refine iU (r:=r) (b:=b) (n:=ml.length) (seen:=seen) (ml:=ml) (by rw[hn];exact uF rfl) (by simp[go_sem,hr,Bh,k1,k2,Do,Dp,Bc]) (by simp[go_sem,hr,Bh,k1,k2,Do,Dp,Bc]) (by simp[go_sem,hr,Bh,k1,k2,Do,Dp,Bc]) rfl hs.2 (by rfl) ?_ ?_
  ·intro Ae;simp[go_sem,hP,u6,hn,hr,Bh,k1,k2,Do,Dp,Bc];refine I7 ?_;clear hK K;refine B9 ?_;refine BR ?_;have Fc:=yZ Wd.1 Wd.2 Ae hI6 hI7;have hFL:full=AH L++full.drop L.length:=by rw[<- hI4,List.take_append_drop]
   have hiL:(AH L).length=L.length:=by simp[AH]
   have Fv:IR bk (AH L) (.v (.prim (.slice (some ⟨bk,0,none⟩) L.length cap))) = .v (.sl (AH L)):=p5 hiL.symm hI5;refine zmt (b:=bk) (l:=AP (AH L)) (r:=AP (full.drop L.length)) (by simp[go_sem,hr,Bh,k1,k2,Do,Dp,Bc];rw[<- IZ,<- hFL]) ?_;refine oC (b:=bk) (E:=1) (ys:=AH L) (by simp[go_sem,hr,Bh,k1,k2,Do,Dp,Bc]) (by simp[AH]) (by rw[hiL];unfold I6;omega) Xe ?_;simp[go_sem,frz,gD,NI,cV,cW,cX,Z5,oY,gK,gL,gM,oZ,gN,gO,Fv,hr,Bh,k1,k2,Do,Dp,Bc];refine A2 ?_;refine BR ?_;first|refine yU hP hf u8 Cw ?_|refine yV hP hf u8 Cw ?_
   simp[go_sem,hP,u6,hn,<- Fc]
  ·intro i k dv Qu Oz;have Pu:=rA Qu;have hkp:D5 (.int .i64 k):=hs.2 _ (uE Qu);have Cc:i<ml.length:=(uA Qu).1;simp[go_sem,hP,u6,hn,hr,Bh,k1,k2,Do,Dp,Bc];refine I7 ?_;clear hK K;refine AQ ?_;refine BR ?_;refine B4 [10] fun K hK=>?_;simp[go_sem,hP,u6,hn,hr,Bh,k1,k2,Do,Dp,Bc];refine eL (r:=r) (b:=b) (n:=ml.length) (i:=i) (seen:=seen) (ml:=ml) (kk:=k) (dv:=dv) (by rw[hn];exact uF rfl) (by simp[go_sem,hr,Bh,k1,k2,Do,Dp,Bc]) (by simp[go_sem,hr,Bh,k1,k2,Do,Dp,Bc]) (by simp[go_sem,hr,Bh,k1,k2,Do,Dp,Bc]) rfl Qu hkp (by rfl) ?_;simp[go_sem,hP,u6,hn,hr,Bh,k1,k2,Do,Dp,Bc];refine I7 ?_;clear hK K;refine BZ (j7 @hr @Bh @k1 @k2 @Do @Dp @Bc) ?_;refine BR ?_;refine B4 [17] fun K hK=>?_;simp[go_sem,hP,u6,hn,hr,Bh,k1,k2,Do,Dp,Bc];refine Z4 (E:=1) (B:=8) (b:=bk) (n:=L.length) (cap:=cap) (full:=full) (zs:=[[A0 k]]) (zd:=[A0 0]) (by simp[go_sem,hr,Bh,k1,k2,Do,Dp,Bc]) (by simp[go_sem,hP,hr,Bh,k1,k2,Do,Dp,Bc]) (by simp[go_sem,hr,Bh,k1,k2,Do,Dp,Bc]) (by simp[go_sem,hP]) (by rw[hP];kernel_rfl) rfl ⟨dD,dD⟩ (by rw[hP];rfl) (by rw[hn];exact uF rfl) Iw hI5 (by simp[I6];omega) Zv sS rfl ?_ ?_
   ·intro hle;simp[go_sem,hP,u6,hn,hr,Bh,k1,k2,Do,Dp,Bc];refine I7 ?_;clear hK K;have hle':L.length+1<=cap:=hle;have Be:=Aa (i,k,bk,cap,full.take L.length++[[A0 k]]++full.drop (L.length+1),L) ⟨⟨⟨Cc,Oz⟩,Pu,Wd⟩,by simp;omega,z0q Zv fun e he=>Zv e (List.mem_of_mem_drop he),by rw[hI4];exact rB _ _ _,hle',hI6,hI7,k1,k2,Xe⟩;simp only at Be;refine GX ?_;refine AA [] (j8 @hr @Bh @k1 @k2 @Do @Dp @Bc @I0) Be
   ·intro Ac Yp Ba hc Gy Kb;simp[newB]at Gy;have k3:¬Yp=b:=fun e=>by simp[e]at Gy
    have k4:¬Yp=r:=fun e=>by simp[e]at Gy
    have Ow:¬b=Yp:=fun e=>k3 e.symm;have k4':¬r=Yp:=fun e=>k4 e.symm;simp[go_sem,hP,u6,hn,hr,Bh,k1,k2,Do,Dp,Bc,k3,k4,Ow,k4',Gy];refine I7 ?_;clear hK K;have Em:L.length+1<=Ba:=hc;have Be:=Aa (i,k,Yp,Ba,full.take L.length++[[A0 k]]++List.replicate (Ba - (L.length+1)) [A0 0],L) ⟨⟨⟨Cc,Oz⟩,Pu,Wd⟩,by simp;omega,z0q Zv fun e he=>by rw[(List.mem_replicate.1 he).2];rfl,by rw[hI4];exact rB _ _ _,Em,hI6,hI7,k3,k4,Kb⟩;simp only at Be;refine GX ?_;refine AA [] (j8 @hr @Bh @k1 @k2 @Do @Dp @Bc (j6 @k3 @k4 @Ow @k4' @Gy @I0)) Be
 ·rintro⟨i,k,bk,cap,F0,L⟩ ⟨⟨⟨q1,q2⟩,q3,q4,q5⟩,q6,q7,q8,q9,Ff,Fd,k1,k2,Fh⟩;simp only at q1 q2 q3 q6 q7 q8 q9 Ff Fd k1 k2 Fh ⊢;have Xb:L.length<=1000000:=by
   have h1:=Fd.length_eq;have h2:=ST q4 q5;rw[List.length_map]at h1;omega
  have Bc:L.length+1<=2147483648:=oO;have Do:¬b=bk:=fun e=>k1 e.symm;have Dp:¬r=bk:=fun e=>k2 e.symm;refine BR ?_
  refine CR [] (by simp[go_sem]) (by simp[go_sem,hr,Bh,k1,k2,Do,Dp,Bc,bI,I0]) (by simp[go_sem]) (E6
   (fun x:Nat × List (List DV)=>x.1<=L.length/\x.2.length=cap/\(∀e∈x.2,e.length=1)/\(∃z,x.2.take (L.length+1)=AH (L.take x.1++z::L.drop x.1))/\∀a∈L.drop x.1,k<a)
   (fun x=>[(.slot 2,.one (.own 0 [])),(.slot 3,.one (.v (PF bk (L.length+1) cap))),(.slot 4,.one (.v (A0 k))),(.slot 5,.one (.v (A0 x.1))),(.slot 7,.one (.v (DP r))),(.heap b,.mp ml),(.heap r,.ob (.it b ml.length (seen++[i]))),(.heap bk,.row (AP x.2))])
   (fun x=>x.1) (L.length,F0) ⟨Nat.le_refl _,q6,q7,⟨k,by simp[q8]⟩,sS⟩ ?_)
  rintro⟨p,F⟩ ⟨w1,w2,w3,⟨z,w4⟩,w5⟩ Cg;simp only at w1 w2 w3 w4 w5 ⊢;apply zbe (fun _:Unit=>∀a∈L.take p,a<=k) (fun _=>[(.slot 2,.one (.own 0 [])),(.slot 3,.one (.v (PF bk (L.length+1) cap))),(.slot 4,.one (.v (A0 k))),(.slot 5,.one (.v (A0 p))),(.slot 7,.one (.v (DP r))),(.heap b,.mp ml),(.heap r,.ob (.it b ml.length (seen++[i]))),(.heap bk,.row (AP F))])
  ·intro hx;rcases p with _|p
   ·refine BZ (j7 @hr @Bh @k1 @k2 @Do @Dp @Bc) ?_;refine B9 ?_;refine GX ?_;refine AA [] (j8 @hr @Bh @k1 @k2 @Do @Dp @Bc @I0) (hx () sS)
   ·have Dm:p<L.length:=oO;obtain⟨y,hy⟩:∃y,L[p]? = some y:=⟨_,uB Dm⟩;have hFy:F[p]? = some [A0 y]:=by
     have h1:(F.take (L.length+1))[p]? = some [A0 y]:=by
      rw[w4];refine IU ?_;rw[List.getElem?_append_left (by simp;omega),List.getElem?_take_of_lt oO,hy]
     rw[List.getElem?_take_of_lt oO]at h1;exact h1
    have Mp:=z5 w3 hFy;have Yj:(AP F).length=cap:=by rw[EU w3,w2,Nat.mul_one]
    have Yr:p<cap:=oO;have hpc1:p+1<cap:=oO;refine BR ?_;first|refine B4 [] fun K hK=>?_|refine AU (by rw[hP];exact BK) [] fun K hK=>?_
    refine rW (j8 @hr @Bh @k1 @k2 @Do @Dp @Bc @Mp) ?_;refine I7 ?_;clear hK K;by_cases hk:k<y
    ·refine AQ ?_;have Lg:=z0s w3 (i:=p+1) oO y;refine BR ?_;first|refine B4 [] fun K hK=>?_|refine AU (by rw[hP];exact BK) [] fun K hK=>?_
     refine rW (j8 @hr @Bh @k1 @k2 @Do @Dp @Bc (j3 @Mp @Yj @Lg)) ?_;refine I7 ?_;clear hK K;refine BZ (j7 @hr @Bh @k1 @k2 @Do @Dp @Bc) ?_;have e2:L.drop p=y::L.drop (p+1):=by
      obtain⟨h1,h2⟩:=uA hy;rw[List.drop_eq_getElem_cons h1,h2]
     have Be:=Cg (p,F.set (p+1) [A0 y]) ⟨oO,by simp[w2],z0t w3 _ _,⟨y,by rw[List.take_set,w4,rC,z5f hy]⟩,by
      intro a ha;rw[e2]at ha;rcases List.mem_cons.1 ha with rfl|ha;· exact hk
      ·exact w5 a ha⟩ sS
     simp only at Be;refine GX ?_;refine AA [] (j8 @hr @Bh @k1 @k2 @Do @Dp @Bc @I0) Be
    ·refine B9 ?_;have hle:∀a∈L.take (p+1),a<=k:=by
      intro a ha;obtain⟨q,hq,rfl⟩:=List.mem_iff_getElem.1 ha;rw[List.length_take]at hq;rw[List.getElem_take];have h1:=uA hy;obtain⟨h2,h3⟩:=h1;rcases Nat.lt_or_ge q p with h|h
      ·have:=List.pairwise_iff_getElem.1 Ff q p oO h2 h;omega
      ·have hqp:q=p:=oO;subst hqp;omega
     refine GX ?_;refine AA [] (j8 @hr @Bh @k1 @k2 @Do @Dp @Bc @I0) (hx () hle)
  ·rintro⟨⟩ hle;have Yj:(AP F).length=cap:=by rw[EU w3,w2,Nat.mul_one]
   have Yr:p<cap:=oO;have Lg:=z0s w3 (i:=p) oO k;refine BR ?_;first|refine B4 [] fun K hK=>?_|refine AU (by rw[hP];exact BK) [] fun K hK=>?_
   refine rW (j8 @hr @Bh @k1 @k2 @Do @Dp @Bc (j2 @Yj @Lg)) ?_;refine I7 ?_;clear hK K;have hLl:(L.take p++k::L.drop p).length=L.length+1:=by simp;omega
   have Aw:(seen++[i]).Nodup:=by
    rw[List.nodup_append];exact⟨q4,sS,by intro a ha c hc;simp at hc;subst hc;intro e;exact q2 (e ▸ ha)⟩
   have Ae:∀j∈seen++[i],j<ml.length:=by
    intro j hj;rcases List.mem_append.1 hj with hj|hj;· exact q5 j hj
    ·simp at hj;subst hj;exact q1
   have Ju:=ST Aw Ae;have Be:=ih (seen++[i],some (bk,cap,F.set p [A0 k],L.take p++k::L.drop p)) ⟨⟨Aw,Ae⟩,by simp[w2],z0t w3 _ _,by rw[hLl,List.take_set,w4,rC,z0r w1],by rw[hLl];exact q9,z4 Ff w5 hle,(zbd L k p).trans (by rw[List.map_append,List.map_cons,List.map_nil,q3];exact Fd.append_right [k]),k1,k2,Fh⟩ (by simp at Ju ⊢;omega);simp only[iX]at Be;rw[hLl]at Be;refine GX ?_;refine AA [] (j8 @hr @Bh @k1 @k2 @Do @Dp @Bc @I0) Be
def gT (Γ:List T):List Ty:=Γ.reverse.map T.ty
theorem JE (a:T)(Γ:List T):gT (a::Γ)=gT Γ++[a.ty]:=by simp[gT]
theorem I2 (Γ:List T):(gT Γ).length=Γ.length:=by simp[gT]
theorem zbf {Γ:List T}{t:Tm}{a:T}{F:BH Γ->a.V}(h:Dn Γ t a F):za0 t (gT Γ) a:=SE h
theorem ZN {Γ:List T}(h:∀a∈Γ,a.ok):∀x∈gT Γ,x.ok:=by
 intro x hx;obtain⟨a,ha,rfl⟩:=List.mem_map.1 hx;exact T.ok_ty (h a (List.mem_reverse.1 ha))
def CK (Γ:List T)(hs:List Fm)(v h:Nat):Prop:=Γ.length+v<=16/\hs.length+h<=16/\(∀a∈Γ,a.ok)/\∀f∈hs,FDn Γ f/\f.count<=4096
abbrev JF (hs:List Fm)(n:Int):List Fm:=hs.map fun h=>h.upN 0 n
theorem CK.below {Γ:List T}{hs:List Fm}{v h:Nat}(k:CK Γ hs (v+1) h){s:T}(Iz:s.ok):CK (s::Γ) (JF hs 1) v h:=by
 obtain⟨k1,k2,k3,k4⟩:=k;refine⟨by simp only[List.length_cons];omega,by simpa using k2,fun a ha=>?_,fun f hf=>?_⟩
 ·rcases List.mem_cons.1 ha with rfl|ha;· exact Iz
  ·exact k3 a ha
 ·obtain⟨f,Me,rfl⟩:=List.mem_map.1 hf;exact⟨zab (k4 f Me).1 [s],by rw[N4];exact (k4 f Me).2⟩
theorem CK.below2 {Γ:List T}{hs:List Fm}{v h:Nat}(k:CK Γ hs (v+2) h){s r:T}(Iz:s.ok)(hr:r.ok):CK (r::s::Γ) (JF hs 2) v h:=by
 obtain⟨k1,k2,k3,k4⟩:=k;refine⟨by simp only[List.length_cons];omega,by simpa using k2,fun a ha=>?_,fun f hf=>?_⟩
 ·rcases List.mem_cons.1 ha with rfl|ha;· exact hr
  ·rcases List.mem_cons.1 ha with rfl|ha;· exact Iz
   ·exact k3 a ha
 ·obtain⟨f,Me,rfl⟩:=List.mem_map.1 hf;exact⟨zab (k4 f Me).1 [r,s],by rw[N4];exact (k4 f Me).2⟩
theorem CK.with {Γ:List T}{hs:List Fm}{v h:Nat}(k:CK Γ hs v (h+1)){f:Fm}(hf:FDn Γ f)(hc:f.count<=4096):CK Γ (hs++[f]) v h:=by
 obtain⟨k1,k2,k3,k4⟩:=k;refine⟨k1,by simp only[List.length_append,List.length_cons,List.length_nil];omega,k3,fun x hx=>?_⟩;rcases List.mem_append.1 hx with hx|hx;· exact k4 x hx
 ·simp at hx;subst hx;exact⟨hf,hc⟩
theorem CK.less {Γ:List T}{hs:List Fm}{v h v' h':Nat}(k:CK Γ hs v h)(h1:v'<=v)(h2:h'<=h):CK Γ hs v' h':=⟨by have:=k.1;omega,by have:=k.2.1;omega,k.2.2⟩
theorem SU {Γ:List T}{hs:List Fm}{v h:Nat}(k:CK Γ hs v h){t:Tm}{a:T}{F:BH Γ->a.V}(ht:Dn Γ t a F):(t.typeE (gT Γ)=(a.ty,0)/\t.count<=4096)\/(t.typeE (gT Γ)).2=4:=by
 have hc:MP (gT Γ)=0:=by
  have:=zaa (G:=Γ.reverse) (by have:=k.1;simp;omega) fun a ha=>k.2.2.1 a (List.mem_reverse.1 ha);exact this
 unfold Tm.typeE Tm.typedE;rw[if_pos hc];by_cases h1:t.checkN=0
 ·rw[if_pos h1];have h2:=(Tm.checkN_iff t).1 h1;rcases zbf ht with h3|h3;· exact .inl ⟨h3,h2.2⟩
  ·exact .inr h3
 ·rw[if_neg h1]
  right
  unfold Tm.checkN at h1 ⊢;rw[if_pos (AJ ht)]at h1 ⊢;split at h1;· rename_i h;rw[if_pos h]
  ·exact absurd rfl h1
abbrev RB (g:List Ty)(hs:List Fm):DV:=.agg [.sl [],.sl (g.map Ty.cells),.sl (hs.map Fm.cells)]
abbrev prD (f:Fm)(u:List Int):DV:=.agg [A0 f.kind,A0 f.type.kind,.sl (f.type.args.map Ty.cells),.sl (f.terms.map Tm.cells),.sl (f.args.map Fm.cells),.sl (AH u)]
theorem rD (g:List Fm):List.take g.length (List.map Fm.cells g)=List.map Fm.cells g:=by rw[List.take_of_length_le];simp
theorem QR (l g:List Ty)(hs:List Fm)(hh:∀f∈hs,f.good 1073741824/\f.count<=4096)(hl:l.length<=16)(hg:g.length<=16)(hhl:hs.length<=16) :
  cT gl 227 [RB g hs,.sl (l.map Ty.cells)] [] (RB (g++l) (JF hs l.length)) []:=by
 refine A6 Tryz.func227 ?_;intro X hP u6 hf u8 hn hR u5 u4;have Le:g.length<=2147483647:=oO;refine A7 (j2 @IX @Ty.length_cells) ?_;refine BR ?_;refine AA [(1005,0)] tT (CD (hs) (fun done rest=>[sP 2,sL 2 [.v (.sl []),.v (.sl (g.map Ty.cells)),.v (.sl (hs.map Fm.cells))],sP 4,sL 4 [.own 0 [],.own 0 [],.own 0 []],sV 1 (.sl (l.map Ty.cells)),sP 5,sL 5 [.v (.sl []),.v (.sl ((g++l).map Ty.cells)),.own 1005 (done.map fun h=>(h.upN 0 l.length).cells)],(.tok 1005,.tk 5 done.length),sV 23 (.sl (hs.map Fm.cells)),sV 24 (A0 hs.length),sV 25 (A0 done.length)]) ?_ ?_)
 ·intro done x rest hL Ad u7;have Ac:done.length<hs.length:=by rw[hL];simp
  have Aj:=uE Ad;refine A5 ?_;refine AQ ?_;refine A7 @Ad ?_;refine A3 @Ad (XV x 0 l.length (hh x Aj).1 oO oO dD (by have:=(hh x Aj).2;omega)) ?_;refine CG (wr [(1005,36)]) (Fm.cells_eq (x.upN 0 l.length)) tT u7
 ·refine A5 ?_;refine B9 ?_;refine A2 ?_;exact AM
theorem Y8 (g:List Ty)(hs:List Fm)(f:Fm)(hhl:hs.length<=16):cT gl 183 [RB g hs,f.dv] [] (RB g (hs++[f])) []:=by
 have Ed:=Fm.cells_eq f;have Ws:hs.length<=2147483647:=oO;refine A6 Tryz.func183 ?_;intro X hP u6 hf u8 hn hR u5 u4;refine A7 (j3 @rD @Ed @Fm.length_cells) ?_;exact AC @Ed
theorem U2 (g:List Ty)(hs:List Fm)(v h:Nat)(h1:g.length+v<=16)(h2:hs.length+h<=16):cT gl 182 [RB g hs,A0 v,A0 h] [] (A0 0) []:=by
 have q1:¬(16:Int)<(g.length:Int)+v:=oO;have q2:¬(16:Int)<(hs.length:Int)+h:=oO;refine A6 Tryz.func182 ?_;intro X hP u6 hf u8 hn hR u5 u4;refine A7 (j2 @q1 @q2) ?_;exact AM
theorem SW {Γ:List T}{s0:T}{f:Fm}(hf:FDn (s0::Γ) f){s:Tm}{X:BH Γ->s0.V}(hs:Dn Γ s s0 X)(Js:Γ.length<=1000000)(cf:f.count<=1000000)(cs:s.count<=1000000) :
  cT gl 232 [f.dv,s.dv] [] (.tup [(if Jj0 f s=0 then f.inN 0 0 s else AF).dv,A0 (Jj0 f s)]) []:=by
 have w:=zfc (gl:=gl) hf hs Js cf cs;have h1:=Fm.fold f;have h2:=Tm.fold s;generalize (if Jj0 f s=0 then f.inN 0 0 s else AF)=u at *;have h3:=Fm.cells_eq u;refine A6 Tryz.func232 ?_;intro X hP u6 hf u8 hn hR u5 u4;refine A2 ?_;refine A3 (j2 @h1 @h2) w ?_;exact AC @h3
theorem VK {Γ:List T}{hs:List Fm}{v h:Nat}(k:CK Γ hs v h){t:Tm}{a:T}{F:BH Γ->a.V}(ht:Dn Γ t a F)(hc:t.count<=1000000)(kd:Int)(hk:a.ty.kind=kd) :
  ∃e,KK e/\(e=0->t.count<=4096)/\cT gl 191 [RB (gT Γ) hs,t.dv,A0 kd] [] (A0 e) []:=by
 have As:=Tm.fold t;have w:=M7 (gl:=gl) t (gT Γ) (fun x hx=>by have:=(ZN k.2.2.1 x hx).2;omega) (DS t (AJ ht)) oO;rcases SU k ht with⟨h1,h2⟩|h1
 ·rw[h1]at w;have Ap:=Ty.cells_eq a.ty;simp only at w;refine⟨0,.inl rfl,fun _=>h2,?_⟩;refine A6 Tryz.func191 ?_;intro X hP u6 hf u8 hn hR u5 u4;refine A2 ?_;refine A3 (j2 @As @Ap) w ?_;refine A7 @hk ?_;exact AM
 ·generalize t.typeE (gT Γ)=te at *;obtain⟨y,e⟩:=te;simp only at h1 w;subst h1;have Ap:=Ty.cells_eq y;refine⟨4,.inr (.inr (.inl rfl)),fun h=>by simp at h,?_⟩;refine A6 Tryz.func191 ?_;intro X hP u6 hf u8 hn hR u5 u4;refine A2 ?_;refine A3 (j2 @As @Ap) w ?_;refine A2 ?_;exact AM
def KG (gl:AB)(Γ:List T)(hs:List Fm)(p:Pf)(f:Fm)(e:Int)(n:Nat):Prop:=
 ∃(f':Fm) (u:List Int),u.length<=n/\(e=0->f' = f/\FDn Γ f/\f.count<=4096)/\cT gl 83 [RB (gT Γ) hs,p.dv] [] (.tup [prD f' u,A0 e]) []
def X5 (gl:AB)(Γ:List T)(hs:List Fm)(p:Pf)(f:Fm)(e:Int)(n:Nat):Prop:=
 ∃(f':Fm) (u:List Int),u.length<=n/\(e=0->f' = f/\FDn Γ f/\f.count<=1000000)/\cT gl 130 [RB (gT Γ) hs,p.dv] [] (.tup [f'.dv,.sl (AH u),A0 e]) []
theorem A9 {Γ:List T}{hs:List Fm}{p:Pf}{f:Fm}{e:Int}{n:Nat}(h:X5 gl Γ hs p f e n):KG gl Γ hs p f (HP e f.chk) n:=by
 obtain⟨f',u,h1,h2,w⟩:=h;have By:=Pf.fold p;have Ed:=Fm.cells_eq f';by_cases q1:e=0
 ·obtain⟨rfl,h3,h4⟩:=h2 q1;have Av:=Fm.fold f';have w1:=H6 (gl:=gl) h3 oO;have w2:=Z8 (gl:=gl) h3 oO;by_cases q2:f'.chk=0
  ·have h5:f'.count<=4096:=by unfold Fm.chk at q2;split at q2 <;> omega
   rw[show HP e f'.chk=0 by unfold HP;rw[if_pos q1,q2]];rw[q2]at w1 w2;simp only[decide_true,Bool.true_and]at w2;by_cases q3:f'.content=true
   ·refine⟨f',u,h1,fun _=>⟨rfl,h3,h5⟩,?_⟩;refine A6 Tryz.func83 ?_;intro X hP u6 hf u8 hn hR u5 u4;refine A2 ?_;refine A3 (j2 @By @Ed) w ?_;refine A7 @q1 ?_;refine A3 @Av w1 ?_;refine A2 ?_;refine A3 (j2 @Av @q3) w2 ?_;refine A2 ?_;exact AM
   ·have q3:f'.content=false:=by simpa using q3
    refine⟨f',[],Nat.zero_le _,fun _=>⟨rfl,h3,h5⟩,?_⟩;refine A6 Tryz.func83 ?_;intro X hP u6 hf u8 hn hR u5 u4;refine A2 ?_;refine A3 (j2 @By @Ed) w ?_;refine A7 @q1 ?_;refine A3 @Av w1 ?_;refine A2 ?_;refine A3 (j2 @Av @q3) w2 ?_;refine A2 ?_;exact AC @AK
  ·have q4:f'.chk=4:=by unfold Fm.chk at q2 ⊢;split at q2;rename_i hh;rw[if_pos hh];exact absurd rfl q2
   rw[show HP e f'.chk=4 by unfold HP;rw[if_pos q1,q4]];rw[q4]at w1;refine⟨AF,[],Nat.zero_le _,fun h=>by simp at h,?_⟩;refine A6 Tryz.func83 ?_;intro X hP u6 hf u8 hn hR u5 u4;refine A2 ?_;refine A3 (j2 @By @Ed) w ?_;refine A7 @q1 ?_;refine A3 @Av w1 ?_;refine A2 ?_;refine EO ?_;simp[go_sem,hP,u6,hn,AF,AK] <;> (try omega)
 ·rw[show HP e f.chk=e by unfold HP;rw[if_neg q1]];refine⟨AF,[],Nat.zero_le _,fun h=>absurd h q1,?_⟩;refine A6 Tryz.func83 ?_;intro X hP u6 hf u8 hn hR u5 u4;refine A2 ?_;refine A3 (j2 @By @Ed) w ?_;refine A7 @q1 ?_;refine EO ?_;simp[go_sem,hP,u6,hn,AF,AK] <;> (try omega)
theorem N5 {Γ:List T}{hs:List Fm}{p:Pf}{fx:Fm}{e:Int}{n:Nat}(k:CK Γ hs 0 0)(hI:KG gl Γ hs p fx e n){s:T}{f:Fm}(hf:FDn (s::Γ) f)(cf:f.count<=1000000){t:Tm}{F:BH Γ->s.V}(ht:Dn Γ t s F)(ct:t.count<=1000000) :
  ∃(e':Int) (u:List Int),u.length<=n/\(e' = 0->e=0/\Jj0 f t=0)/\(KK e->(fx=f.inN 0 0 t)->KK e')/\cT gl 233 [RB (gT Γ) hs,p.dv,f.dv,t.dv] [] (.tup [.sl (AH u),A0 e']) []:=by
 obtain⟨f',u,h1,h2,w⟩:=hI;have By:=Pf.fold p;have Av:=Fm.fold f;have As:=Tm.fold t;have wp:=SW (gl:=gl) hf ht (by have:=k.1;omega) cf ct;by_cases q1:e=0;rotate_left
 ·refine⟨e,[],Nat.zero_le _,fun h=>absurd h q1,fun h _=>h,?_⟩;refine A6 Tryz.func233 ?_;intro X hP u6 hf u8 hn hR u5 u4;refine A2 ?_;refine A3 @By w ?_;refine A7 @q1 ?_;exact AC @AK
 obtain⟨rfl,h3,h4⟩:=h2 q1;have Me:=Fm.fold f';by_cases q2:Jj0 f t=0;rotate_left
 ·rw[if_neg q2]at wp;refine⟨Jj0 f t,[],Nat.zero_le _,fun h=>absurd h q2,fun _ _=>SM ht,?_⟩;generalize Jj0 f t=pe at *;refine A6 Tryz.func233 ?_;intro X hP u6 hf u8 hn hR u5 u4;refine A2 ?_;refine A3 @By w ?_;refine A7 @q1 ?_;refine A3 (j2 @Av @As) wp ?_;refine A7 @q2 ?_;exact AC @AK
 rw[if_pos q2]at wp;obtain⟨e3,r3,wm⟩:=iE (gl:=gl) (WT ht hf) h3 (by have:=(PL hf q2).1;have:=k.1;omega) (by have:=k.1;omega);have Xj:=Fm.cells_eq (f.inN 0 0 t);have Ou:=Fm.fold (f.inN 0 0 t);refine⟨e3,u,h1,fun _=>⟨q1,q2⟩,fun _ h=>r3 h.symm,?_⟩;generalize f.inN 0 0 t=wnt at *;refine A6 Tryz.func233 ?_;intro X hP u6 hf u8 hn hR u5 u4;refine A2 ?_;refine A3 @By w ?_;refine A7 @q1 ?_;refine A3 (j4 @Av @As @q2 @Xj) wp ?_;refine A2 ?_;refine A3 (j2 @Me @Ou) wm ?_;exact AM
theorem Tm.marksN_len (t:Tm):∀(d:Int) (ml:List (Int × DV)),(t.marksN d ml).length<=ml.length+t.count:=by
 induction t using Tm.ind with
 | h t ih=>
 intro d ml;have key:∀(l:List Tm) (d:Int) (ml:List (Int × DV)),(∀x∈l,x∈t.args)->(Tm.marksN.markss l d ml).length<=ml.length+Tm.count.counts l:=by
  intro l
  induction l with
  | nil=>intro d ml _;exact Nat.le_refl _
  | cons a r Dk=>
   intro d ml hl;have h2:=ih a (hl a sS) d ml;have h4:=Dk d (a.marksN d ml) (fun x hx=>hl x (by simp[hx]));simp only[Tm.marksN.markss,Tm.count.counts];omega
 rw[Tm.marksN_eq,Tm.count_eq];split
 ·have h3:=key t.args (d+AX t.kind) (SR ml (t.index - d) VJ) (fun _ h=>h);have:=eO ml (t.index - d);omega
 ·have h3:=key t.args (d+AX t.kind) ml (fun _ h=>h);omega
def GF (t:Tm):List Int:=if t.checkN=0 then SS (MB (t.marksN 0 [])) else []
theorem H7 (t:Tm):(GF t).length<=t.count:=by
 unfold GF;split
 ·rw[iW];have:=t.marksN_len 0 [];simp[MB]at this ⊢;exact this
 ·exact Nat.zero_le _
def FE (a b:List Int):List Int:=SS (MB (J6 (J6 [] a) b))
theorem G5 (a b:List Int):(FE a b).length<=a.length+b.length:=by
 unfold FE;rw[iW];have h1:=U1 [] a;have h2:=U1 (J6 [] a) b;simp[MB]at h1 ⊢;omega
def L9 (u:List Int)(n:Int):List Int:=(u.filter fun a=>decide (n<=a)).map fun a=>a - n
theorem NY (u:List Int)(n:Int):(L9 u n).length<=u.length:=by
 unfold L9;rw[List.length_map];exact List.length_filter_le _ _
theorem z5g (u:List Int)(a n:Int):L9 (u++[a]) n=if n<=a then L9 u n++[a - n] else L9 u n:=by
 unfold L9;rw[List.filter_append,List.map_append];by_cases h:n<=a <;> simp[h]
theorem zbg (n:Int):L9 [] n=[]:=rfl
theorem iZ (ml:List (Int × DV)):J6 ml []=ml:=rfl
theorem lQ:PN []:=⟨sS,sS⟩
theorem zg0 (t:Tm)(hs:t.shape=true)(hc:t.count<=1000000)(hi:t.idx 1099511627776):cT gl 254 [t.dv] [] (.tup [.sl (AH (GF t)),A0 t.checkN]) []:=by
 have wc:=G9 (gl:=gl) t (DS t hs) oO;have As:=Tm.fold t;have Hh:GF t=if t.checkN=0 then SS (MB (t.marksN 0 [])) else []:=rfl
 refine A6 Tryz.func254 ?_;intro X hP u6 hf u8 hn hR u5 u4;refine A2 ?_;refine A3 @As wc ?_;by_cases q:t.checkN=0
 ·rw[if_pos q]at Hh;obtain⟨m1,m2⟩:=qZ t 0 [] dD hi lQ;have Uy:(t.marksN 0 []).length<=1000000:=by simp at m2;omega
  refine A7 @q ?_;refine BR ?_;refine B4 [11] fun K hK=>?_;simp[go_sem,hP,u6,hn];refine ZA (by rw[hn];exact uF rfl) (by rfl) ?_;intro b hb Kb;simp[newB]at hb;simp[go_sem,hP,u6,hn];refine I7 ?_;clear hK K;have wm:=zfz (gl:=gl) t 0 b [] dD oO hi lQ;have ws:=iY (gl:=gl) b (t.marksN 0 []) m1 Uy;refine BR ?_;first|refine B4 [] fun K hK=>?_|refine AU (by rw[hP];exact BK) [] fun K hK=>?_
  refine rW @As ?_;repeat (refine⟨oO,?_⟩)
  first|refine Y7 hP u6 wm (by simp[go_sem,hP,u6,hn]) rfl (by simp[go_sem]) (by rw[hn];exact uF rfl) ?_|refine QP (fun _ _=>E8) hP u6 wm (by simp[go_sem,hP,u6,hn]) rfl (by simp[go_sem]) (by rw[hn];exact uF rfl) ?_
  simp[go_sem,hP,u6,hn];refine I7 ?_;clear hK K;refine BR ?_;first|refine B4 [] fun K hK=>?_|refine AU (by rw[hP];exact BK) [] fun K hK=>?_
  refine K0 ?_;repeat (refine⟨oO,?_⟩)
  first|refine Y7 hP u6 ws (by simp[go_sem,hP,u6,hn]) rfl (by simp[go_sem]) (by rw[hn];exact uF rfl) ?_|refine QP (fun _ _=>E8) hP u6 ws (by simp[go_sem,hP,u6,hn]) rfl (by simp[go_sem]) (by rw[hn];exact uF rfl) ?_
  simp[go_sem,hP,u6,hn];refine I7 ?_;clear hK K;exact AC (j2 @Hh @q)
 ·rw[if_neg q]at Hh;refine A7 @q ?_;exact AC (j2 @Hh @AK)
theorem aS (t:Tm)(hs:t.shape=true)(hc:t.count<=4096)(hi:t.idx 1099511627776):cT gl 231 [t.dv] [] (.sl (AH (GF t))) []:=by
 have w:=zg0 (gl:=gl) t hs oO hi;have As:=Tm.fold t;refine A6 Tryz.func231 ?_;intro X hP u6 hf u8 hn hR u5 u4;refine A2 ?_;refine A3 @As w ?_;refine A2 ?_;exact AM
theorem M0 (a c:List Int)(h:a.length+c.length<=1000000):cT gl 181 [.sl (AH a),.sl (AH c)] [] (.sl (AH (FE a c))) []:=by
 refine A6 Tryz.func181 ?_;intro X hP u6 hf u8 hn hR u5 u4;have Vz:∀n∈a,D5 (.int .i64 n):=((WB a).1 (u4 (.sl (AH a)) sS)).2;have Yr:∀n∈c,D5 (.int .i64 n):=((WB c).1 (u4 (.sl (AH c)) sS)).2;refine A2 ?_;refine BR ?_;refine B4 [10] fun K hK=>?_;simp[go_sem,hP,u6,hn];refine ZA (by rw[hn];exact uF rfl) (by rfl) ?_;intro b hb Kb;simp[newB]at hb;simp[go_sem,hP,u6,hn];refine I7 ?_;clear hK K;refine A2 ?_;refine BR ?_;refine AA [] @iZ (DC (a) (fun done=>PN (J6 [] done)) (fun done rest=>[sV 1 (.sl (AH c)),(.slot 4,.one (.own 0 [])),sV 5 (.prim (.map (some b))),(.heap  b,.mp (J6 [] done)),sV 11 (.sl (AH a)),sV 12 (A0 a.length),sV 13 (A0 done.length)]) (lQ) ?_ ?_)
 ·intro done x rest hL Ad hI u7;have Ac:done.length<a.length:=by rw[hL];simp
  have Aj:=uE Ad;have Fp:=IU Ad;refine A5 ?_;refine AQ ?_;refine BZ @Fp ?_;refine BR ?_;first|refine B4 [] fun K hK=>?_|refine AU (by rw[hP];exact BK) [] fun K hK=>?_
  refine K0 ?_;refine VI (b:=b) (n:=x) (ml:=J6 [] done) (dv:=VJ) (by rw[hP];kernel_rfl) (by simp[go_sem]) (by simp[go_sem]) (by simp[go_sem]) (by simp[go_sem]) hI.1 (by rfl) ?_;simp[go_sem];refine I7 ?_;clear hK K;refine CG (wr []) @QQ tT (u7 (by rw[QQ];exact aR hI (Vz x Aj)))
 ·intro hI;refine A5 ?_;refine B9 ?_;refine A2 ?_;refine BR ?_;refine AA [] @iZ (DC (c) (fun done=>PN (J6 (J6 [] a) done)) (fun done rest=>[(.slot 4,.one (.own 0 [])),sV 5 (.prim (.map (some b))),(.heap  b,.mp (J6 (J6 [] a) done)),sV 20 (.sl (AH c)),sV 21 (A0 c.length),sV 22 (A0 done.length)]) (hI) ?_ ?_)
  ·intro done x rest hL Ad hI u7;have Ac:done.length<c.length:=by rw[hL];simp
   have Aj:=uE Ad;have Fp:=IU Ad;refine A5 ?_;refine AQ ?_;refine BZ @Fp ?_;refine BR ?_;first|refine B4 [] fun K hK=>?_|refine AU (by rw[hP];exact BK) [] fun K hK=>?_
   refine K0 ?_;refine VI (b:=b) (n:=x) (ml:=J6 (J6 [] a) done) (dv:=VJ) (by rw[hP];kernel_rfl) (by simp[go_sem]) (by simp[go_sem]) (by simp[go_sem]) (by simp[go_sem]) hI.1 (by rfl) ?_;simp[go_sem];refine I7 ?_;clear hK K;refine CG (wr []) @QQ tT (u7 (by rw[QQ];exact aR hI (Yr x Aj)))
  ·intro hI;have h1:=U1 [] a;have h2:=U1 (J6 [] a) c;have ws:=iY (gl:=gl) b (J6 (J6 [] a) c) hI (by simp at h1;omega);refine A5 ?_;refine B9 ?_;refine BR ?_;first|refine B4 [] fun K hK=>?_|refine AU (by rw[hP];exact BK) [] fun K hK=>?_
   refine K0 ?_;repeat (refine⟨oO,?_⟩)
   first|refine Y7 hP u6 ws (by simp[go_sem,hP,u6,hn]) rfl (by simp[go_sem]) (by rw[hn];exact uF rfl) ?_|refine QP (fun _ _=>E8) hP u6 ws (by simp[go_sem,hP,u6,hn]) rfl (by simp[go_sem]) (by rw[hn];exact uF rfl) ?_
   simp[go_sem,hP,u6,hn];refine I7 ?_;clear hK K;refine EO ?_;simp[go_sem,hP,u6,hn,FE] <;> (try omega)
theorem QS (u:List Int)(n:Nat)(h:u.length<=1000000):cT gl 229 [.sl (AH u),A0 n] [] (.sl (AH (L9 u n))) []:=by
 refine A6 Tryz.func229 ?_;intro X hP u6 hf u8 hn hR u5 u4;have hpu:∀a∈u,D5 (.int .i64 a):=((WB u).1 (u4 (.sl (AH u)) sS)).2;refine A2 ?_;refine BR ?_;refine AA [(1005,0)] (j2 @zbg @AK) (CD (u) (fun done rest=>[sV 1 (A0 n),(.slot 4,.one (.own 0 [])),(.slot 5,.one (.own 1005 (AH (L9 done n)))),(.tok 1005,.tk 1 (L9 done n).length),sV 8 (.sl (AH u)),sV 9 (A0 u.length),sV 10 (A0 done.length)]) ?_ ?_)
 ·intro done x rest hL Ad u7;have Ac:done.length<u.length:=by rw[hL];simp
  have Aj:=uE Ad;have hpx:=hpu x Aj;have hpx2:x<=9223372036854775807:=hpx.2;have Fp:=IU Ad;have hol:=NY done n;have hos:=z5g done x n;refine A5 ?_;refine AQ ?_;refine BZ @Fp ?_;by_cases q:(n:Int)<=x
  ·rw[if_pos q]at hos;rw[hos]at u7;have Gx:-9223372036854775808<=x - (n:Int):=oO;have Et:x - (n:Int)<=9223372036854775807:=oO;have hbb:(L9 done n).length<=16777215:=oO;have Ok:(L9 done n).length+1<=1000000:=oO;refine CG (wr [(1005,22)]) (j4 @YV @XP @AK @YU) @q u7
  ·rw[if_neg q]at hos;rw[hos]at u7;refine CG (wr [(1005,1005)]) tT @q u7
 ·refine A5 ?_;refine B9 ?_;refine A2 ?_;exact AM
theorem CQ:AF.dv = .agg [.prim (.int .i64 0),.prim (.int .i64 0),.sl [],.sl [],.sl []]:=rfl
def J7 (i:Int):Pf:=.mk 1 i (Ty.mk 0 []) [] [] []
def SX (a b:Pf):Pf:=.mk 3 0 (Ty.mk 0 []) [] [] [a,b]
def rE (k:Int)(a:Pf):Pf:=.mk k 0 (Ty.mk 0 []) [] [] [a]
def I3 (y:Ty)(a:Pf):Pf:=.mk 8 0 y [] [] [a]
def GH (t:Tm)(a:Pf):Pf:=.mk 9 0 (Ty.mk 0 []) [t] [] [a]
def GU (f:Fm)(t:Tm)(a:Pf):Pf:=.mk 10 0 (Ty.mk 0 []) [t] [f] [a]
def JL (a b:Pf):Pf:=.mk 11 0 (Ty.mk 0 []) [] [] [a,b]
def H2 (k:Int)(f:Fm)(t:Tm)(a b:Pf):Pf:=.mk k 0 (Ty.mk 0 []) [t] [f] [a,b]
def GI (t:Tm):Pf:=.mk 18 0 (Ty.mk 0 []) [t] [] []
def MC (f:Fm)(a b:Pf):Pf:=.mk 19 0 (Ty.mk 0 []) [] [f] [a,b]
theorem lR (i:Int):(J7 i).dv = .agg [A0 1,A0 i,A0 0,.sl [],.sl [],.sl [],.sl []]:=rfl
theorem rF (a b:Pf):(SX a b).dv = .agg [A0 3,A0 0,A0 0,.sl [],.sl [],.sl [],.sl [a.cells,b.cells]]:=rfl
theorem lS (k:Int)(a:Pf):(rE k a).dv = .agg [A0 k,A0 0,A0 0,.sl [],.sl [],.sl [],.sl [a.cells]]:=rfl
theorem X6 (y:Ty)(a:Pf):(I3 y a).dv = .agg [A0 8,A0 0,A0 y.kind,.sl (y.args.map Ty.cells),.sl [],.sl [],.sl [a.cells]]:=by
 show DV.agg _=_;rw[Pf.cells_eq];rfl
theorem M2 (t:Tm)(a:Pf):(GH t a).dv = .agg [A0 9,A0 0,A0 0,.sl [],.sl [t.cells],.sl [],.sl [a.cells]]:=rfl
theorem OR (f:Fm)(t:Tm)(a:Pf):(GU f t a).dv = .agg [A0 10,A0 0,A0 0,.sl [],.sl [t.cells],.sl [f.cells],.sl [a.cells]]:=rfl
theorem MU (a b:Pf):(JL a b).dv = .agg [A0 11,A0 0,A0 0,.sl [],.sl [],.sl [],.sl [a.cells,b.cells]]:=rfl
theorem IH (k:Int)(f:Fm)(t:Tm)(a b:Pf):(H2 k f t a b).dv = .agg [A0 k,A0 0,A0 0,.sl [],.sl [t.cells],.sl [f.cells],.sl [a.cells,b.cells]]:=rfl
theorem rG (t:Tm):(GI t).dv = .agg [A0 18,A0 0,A0 0,.sl [],.sl [t.cells],.sl [],.sl []]:=rfl
theorem MW (f:Fm)(a b:Pf):(MC f a b).dv = .agg [A0 19,A0 0,A0 0,.sl [],.sl [],.sl [f.cells],.sl [a.cells,b.cells]]:=rfl
theorem rH {Γ:List T}{t:Tm}{F:BH Γ->T.nat.V}(h:Dn Γ t .nat F):KK (t.natE (gT Γ)):=by
 unfold Tm.natE Tm.typedE;by_cases h1:t.checkN=0
 ·rw[if_pos h1];rcases zbf h with h3|h3;· rw[h3];exact .inl rfl
  ·rw[if_neg (by rw[h3];decide),h3];exact .inr (.inr (.inl rfl))
 ·rw[if_neg h1];simp only[if_neg h1];exact dL (AJ h)
theorem U3 {Γ:List T}{f:Fm}(h:FDn Γ f):KK (f.typedN (gT Γ)):=by
 induction h with
 | @eq Γ s t F G h1 h2=>
  rw[Fm.typedN_eq];show KK (if Tm.natEs [s,t] _=0 then 0 else Tm.natEs [s,t] _);have a1:=rH h1;have a2:=rH h2;simp only[Tm.natEs];by_cases q1:s.natE (gT Γ)=0
  ·by_cases q2:t.natE (gT Γ)=0;· simp only[q1,q2,if_true];exact .inl rfl
   ·simp only[q1,if_true,q2,if_false];exact a2
  ·simp only[q1,if_false];exact a1
 | @two Γ k a b hk h1 h2 Cr Cg=>
  have e0:H5 k=0:=by rcases hk with rfl|rfl <;> rfl
  rw[Fm.typedN_eq];show KK (if (0:Int)=0 then Fm.typedN.typeds [a,b] (if H5 k=1 then _ else gT Γ) else 0);rw[e0,if_pos rfl,if_neg dD];simp only[Fm.typedN.typeds];by_cases q1:a.typedN (gT Γ)=0
  ·by_cases q2:b.typedN (gT Γ)=0;· simp only[q1,q2,if_true];exact .inl rfl
   ·simp only[q1,if_true,q2,if_false];exact Cg
  ·simp only[q1,if_false];exact Cr
 | @q Γ k a f hk ha h ih=>
  have e0:H5 k=1:=if_pos hk;rw[Fm.typedN_eq];show KK (if (0:Int)=0 then Fm.typedN.typeds [f] (if H5 k=1 then gT Γ++[a.ty] else gT Γ) else 0);rw[e0,if_pos rfl,if_pos rfl,<- JE];simp only[Fm.typedN.typeds];by_cases q1:f.typedN (gT (a::Γ))=0;· simp only[q1,if_true];exact .inl rfl
  ·simp only[q1,if_false];exact ih
theorem CK.ctx {Γ:List T}{hs:List Fm}{v h:Nat}(k:CK Γ hs v h):MP (gT Γ)=0:=zaa (G:=Γ.reverse) (by have:=k.1;simp;omega) fun a ha=>k.2.2.1 a (List.mem_reverse.1 ha)
theorem LL {Γ:List T}{hs:List Fm}(k:CK Γ hs 0 0){i:Nat}{f:Fm}(hi:hs[hs.length - 1 - i]? = some f)(Ac:i<hs.length):X5 gl Γ hs (J7 i) f 0 0:=by
 have hm:=k.2.2.2 f (uE hi);refine⟨f,[],Nat.le_refl _,fun _=>⟨rfl,hm.1,oO⟩,?_⟩;have Ed:=Fm.cells_eq f;have Iu:hs[((hs.length:Int) - 1 - i).toNat]? = some f:=by
  rw[show ((hs.length:Int) - 1 - i).toNat=hs.length - 1 - i from oO,hi]
 rw[lR];refine A6 Tryz.func130 ?_;intro X hP u6 hf u8 hn hR u5 u4;have q:¬(hs.length:Int)<=i:=oO;have hl16:=k.2.1;refine A7 @q ?_;refine A7 (j3 @Iu @hi @Ed) ?_;exact AC (j2 @Ed @AK)
theorem rI {Γ:List T}{hs:List Fm}{a b:Pf}{fa fb:Fm}{ea eb:Int}{na nb:Nat}(ha:KG gl Γ hs a fa ea na)(hb:KG gl Γ hs b fb eb nb)(hn:na+nb<=1000000):X5 gl Γ hs (SX a b) (FA 2 fa fb) (HP ea eb) (na+nb):=by
 obtain⟨Zi,ua,a1,a2,wa⟩:=ha;obtain⟨Zf,ub,b1,b2,wb⟩:=hb;have l1:=Pf.length_cells a;have l2:=Pf.length_cells b;have Da:=Fm.fold Zi;have Gt:=Fm.fold Zf;by_cases q1:ea=0
 ·rw[show HP ea eb=eb by unfold HP;rw[if_pos q1]];have wt:=zfd (gl:=gl) 2 Zi Zf;have wu:=M0 (gl:=gl) ua ub oO;refine⟨FA 2 Zi Zf,FE ua ub,by have:=G5 ua ub;omega,fun h=>?_,?_⟩
  ·obtain⟨rfl,a3,a4⟩:=a2 q1;obtain⟨rfl,b3,b4⟩:=b2 h;have hc:(FA 2 Zi Zf).count=1+0+(Zi.count+(Zf.count+0)):=rfl;exact⟨rfl,.two (.inl rfl) a3 b3,oO⟩
  rw[rF];rw[TV]at wt ⊢;generalize FE ua ub=uu at *;refine A6 Tryz.func130 ?_;intro X hP u6 hf u8 hn hR u5 u4;refine A2 ?_;refine A3 tT wa ?_;refine A7 @q1 ?_;refine A3 tT wb ?_;refine A2 ?_;refine BL (j2 @Da @Gt) wt wu ?_;exact AM
 ·rw[show HP ea eb=ea by unfold HP;rw[if_neg q1]];refine⟨AF,[],Nat.zero_le _,fun h=>absurd h q1,?_⟩;rw[rF];refine A6 Tryz.func130 ?_;intro X hP u6 hf u8 hn hR u5 u4;refine A2 ?_;refine A3 tT wa ?_;refine A7 @q1 ?_;exact AC (j2 @CQ @AK)
theorem zg1 {Γ:List T}{k:Int}{a b:Fm}(h:FDn Γ (FA k a b)):FDn Γ a/\FDn Γ b:=by
 generalize hq:FA k a b=q at h;cases h with
 | eq _ _=>simp[FA,DM]at hq
 | two hk h1 h2=>simp only[FA,Fm.mk.injEq,List.cons.injEq,and_true,true_and]at hq;obtain⟨-,rfl,rfl⟩:=hq;exact⟨h1,h2⟩
 | q _ _ _=>simp[FA,qF]at hq
theorem X7 {Γ:List T}{k:Int}{s:T}{f:Fm}(h:FDn Γ (qF k s.ty f)):s.ok/\FDn (s::Γ) f:=by
 generalize hq:qF k s.ty f=q at h;cases h with
 | eq _ _=>simp[qF,DM]at hq
 | two _ _ _=>simp[FA,qF]at hq
 | q hk ha h=>
  simp only[qF,Fm.mk.injEq,List.cons.injEq,and_true,true_and]at hq;obtain⟨-,h1,rfl⟩:=hq;have:=T.ty_inj h1;subst this;exact⟨ha,h⟩
theorem zk8 {Γ:List T}{s t:Tm}(h:FDn Γ (DM s t)):∃F G,Dn Γ s .nat F/\Dn Γ t .nat G:=by
 generalize hq:DM s t=q at h;cases h with
 | eq h1 h2=>simp only[DM,Fm.mk.injEq,List.cons.injEq,and_true,true_and]at hq;obtain⟨rfl,rfl⟩:=hq;exact⟨_,_,h1,h2⟩
 | two _ _ _=>simp[FA,DM]at hq
 | q _ _ _=>simp[DM,qF]at hq
theorem lT {Γ:List T}{hs:List Fm}{a:Pf}{fa fb:Fm}{ea:Int}{na:Nat}(i:Bool)(ha:KG gl Γ hs a (FA 2 fa fb) ea na):X5 gl Γ hs (rE (if i then 5 else 4) a) (if i then fb else fa) ea na:=by
 obtain⟨f',u,a1,a2,wa⟩:=ha;have l1:=Pf.length_cells a;by_cases q1:ea=0
 ·obtain⟨rfl,a3,a4⟩:=a2 q1;have hd:=zg1 a3;have hc:(FA 2 fa fb).count=1+0+(fa.count+(fb.count+0)):=rfl;have If:=Fm.cells_eq fa;have Mz:=Fm.cells_eq fb;have wa:cT gl 83 [RB (gT Γ) hs,a.dv] [] (.tup [.agg [A0 2,A0 0,.sl [],.sl [],.sl [fa.cells,fb.cells],.sl (AH u)],A0 ea]) []:=wa;have l2:=Fm.length_cells fa;have l3:=Fm.length_cells fb;cases i
  ·refine⟨fa,u,a1,fun _=>⟨rfl,hd.1,by show fa.count<=_;omega⟩,?_⟩;rw[lS];show RC _ _ _ [_,DV.agg [A0 4,_,_,_,_,_,_]] _ _ _;refine A6 Tryz.func130 ?_;intro X hP u6 hf u8 hn hR u5 u4;refine A2 ?_;refine A3 tT wa ?_;refine A7 @q1 ?_;exact AC (j2 @If @q1)
  ·refine⟨fb,u,a1,fun _=>⟨rfl,hd.2,by show fb.count<=_;omega⟩,?_⟩;rw[lS];show RC _ _ _ [_,DV.agg [A0 5,_,_,_,_,_,_]] _ _ _;refine A6 Tryz.func130 ?_;intro X hP u6 hf u8 hn hR u5 u4;refine A2 ?_;refine A3 tT wa ?_;refine A7 @q1 ?_;exact AC (j2 @Mz @q1)
 ·refine⟨AF,[],Nat.zero_le _,fun h=>absurd h q1,?_⟩;rw[lS];cases i
  ·show RC _ _ _ [_,DV.agg [A0 4,_,_,_,_,_,_]] _ _ _;refine A6 Tryz.func130 ?_;intro X hP u6 hf u8 hn hR u5 u4;refine A2 ?_;refine A3 tT wa ?_;refine A7 @q1 ?_;exact AC (j2 @CQ @AK)
  ·show RC _ _ _ [_,DV.agg [A0 5,_,_,_,_,_,_]] _ _ _;refine A6 Tryz.func130 ?_;intro X hP u6 hf u8 hn hR u5 u4;refine A2 ?_;refine A3 tT wa ?_;refine A7 @q1 ?_;exact AC (j2 @CQ @AK)
theorem KH {Γ:List T}{hs:List Fm}(k:CK Γ hs 0 0){t:Tm}{F:BH Γ->T.nat.V}(ht:Dn Γ t .nat F)(hc:t.count<=100000):∃e,KK e/\(e=0->t.count<=4096)/\X5 gl Γ hs (GI t) (DM t t) e 0:=by
 obtain⟨e,e1,e2,w⟩:=VK (gl:=gl) k ht oO 1 rfl;refine⟨e,e1,e2,DM t t,[],Nat.le_refl _,fun h=>⟨rfl,.eq ht ht,?_⟩,?_⟩
 ·have Ir:(DM t t).count=1+(t.count+(t.count+0))+0:=rfl;omega
 have we:=zjz (gl:=gl) t t;have l1:=Tm.length_cells t;rw[VE]at we ⊢;rw[rG];refine A6 Tryz.func130 ?_;intro X hP u6 hf u8 hn hR u5 u4;refine A2 ?_;refine BL tT we w ?_;exact AC @AK
theorem SY {Γ:List T}{hs:List Fm}(k:CK Γ hs 1 0){s:T}(hso:s.ok){a:Pf}{fa:Fm}{ea:Int}{na:Nat}(ha:KG gl (s::Γ) (JF hs 1) a fa ea na)(hn:na<=1000000):X5 gl Γ hs (I3 s.ty a) (qF 4 s.ty fa) ea na:=by
 obtain⟨f',u,a1,a2,wa⟩:=ha;have l1:=Pf.length_cells a;have Cv:=Ty.fold s.ty;have Bp:=Ty.cells_eq s.ty;have Av:=Fm.fold f';have wr:=U2 (gl:=gl) (gT Γ) hs 1 0 (by have:=k.1;simp only[I2];omega) (by have:=k.2.1;omega);have wb:=QR (gl:=gl) [s.ty] (gT Γ) hs (fun f hf=>⟨HY (k.2.2.2 f hf).1 _ (by have:=k.1;have:=(k.2.2.2 f hf).2;omega),(k.2.2.2 f hf).2⟩) sS (by have:=k.1;simp only[I2];omega) (by have:=k.2.1;omega);rw[JE]at wa;have wb:cT gl 227 [RB (gT Γ) hs,.sl [s.ty.cells]] [] (RB (gT Γ++[s.ty]) (JF hs 1)) []:=wb;have wq:=zmn (gl:=gl) 4 s.ty f';have wo:=QS (gl:=gl) u 1 oO;have hl:=NY u 1;have hr:X5 gl Γ hs (I3 s.ty a) (qF 4 s.ty fa) ea na↔X5 gl Γ hs (I3 s.ty a) (qF 4 s.ty fa) ea na:=Iff.rfl;generalize gT Γ++[s.ty]=g2 at *;generalize JF hs 1=Cl at *;by_cases q1:ea=0
 ·obtain⟨rfl,a3,a4⟩:=a2 q1;have hc:(qF 4 s.ty f').count=1+0+(f'.count+0):=rfl;refine⟨qF 4 s.ty f',L9 u 1,oO,fun _=>⟨rfl,.q (.inl rfl) hso a3,oO⟩,?_⟩;generalize L9 u 1=uu at *;rw[X6];rw[MK]at wq ⊢;have w:cT gl 184 [RB (gT Γ) hs,.agg [A0 8,A0 0,A0 s.ty.kind,.sl (s.ty.args.map Ty.cells),.sl [],.sl [],.sl [a.cells]]] [] (.tup [.agg [A0 4,A0 s.ty.kind,.sl (s.ty.args.map Ty.cells),.sl [],.sl [f'.cells]],.sl (AH uu),A0 ea]) []:=by
   refine A6 Tryz.func184 ?_;intro X hP u6 hf u8 hn hR u5 u4;refine A2 ?_;refine A3 tT wr ?_;refine A2 ?_;refine BL (j2 @Cv @Bp) wb wa ?_;refine A7 @q1 ?_;refine BL (j2 @Cv @Av) wq wo ?_;exact AC @q1
  refine A6 Tryz.func130 ?_;intro X hP u6 hf u8 hn hR u5 u4;refine A2 ?_;refine A3 tT w ?_;exact AM
 ·refine⟨AF,[],Nat.zero_le _,fun h=>absurd h q1,?_⟩;rw[X6];have w:cT gl 184 [RB (gT Γ) hs,.agg [A0 8,A0 0,A0 s.ty.kind,.sl (s.ty.args.map Ty.cells),.sl [],.sl [],.sl [a.cells]]] [] (.tup [.agg [A0 0,A0 0,.sl [],.sl [],.sl []],.sl (AH []),A0 ea]) []:=by
   refine A6 Tryz.func184 ?_;intro X hP u6 hf u8 hn hR u5 u4;refine A2 ?_;refine A3 tT wr ?_;refine A2 ?_;refine BL (j2 @Cv @Bp) wb wa ?_;refine A7 @q1 ?_;exact AC @AK
  refine A6 Tryz.func130 ?_;intro X hP u6 hf u8 hn hR u5 u4;refine A2 ?_;refine A3 tT w ?_;exact AC (j2 @CQ @AK)
theorem tyw {Γ:List T}{hs:List Fm}{v h:Nat}(k:CK Γ hs v h){t:Tm}{a:T}{F:BH Γ->a.V}(ht:Dn Γ t a F)(hc:t.count<=1000000) :
  ∃(y:Ty) (e:Int),KK e/\(e=0->y=a.ty/\t.count<=4096)/\cT gl 86 [.sl ((gT Γ).map Ty.cells),t.dv] [] (.tup [y.dv,A0 e]) []:=by
 have w:=M7 (gl:=gl) t (gT Γ) (fun x hx=>by have:=(ZN k.2.2.1 x hx).2;omega) (DS t (AJ ht)) oO;refine⟨_,_,?_,fun h0=>?_,w⟩
 ·rcases SU k ht with⟨h1,h2⟩|h1;· rw[h1];exact .inl rfl
  ·rw[h1];exact .inr (.inr (.inl rfl))
 ·rcases SU k ht with⟨h1,h2⟩|h1;· exact⟨by rw[h1],h2⟩
  ·rw[h1]at h0;simp at h0
theorem rJ {Γ:List T}{hs:List Fm}(k:CK Γ hs 0 0){s:T}{t:Tm}{F:BH Γ->s.V}(ht:Dn Γ t s F)(ct:t.count<=1000000){a:Pf}{fa:Fm}{ea:Int}{na:Nat}(Wg:na<=900000)(ha:KG gl Γ hs a (qF 4 s.ty fa) ea na) :
  ∃e,(e=0->ea=0)/\(KK ea->KK e)/\X5 gl Γ hs (GH t a) (fa.inN 0 0 t) e (na+t.count):=by
 obtain⟨f',u,a1,a2,wa⟩:=ha;obtain⟨y,e1,r1,r2,w1⟩:=tyw (gl:=gl) k ht ct;have l1:=Pf.length_cells a;have l2:=Tm.length_cells t;have Dh:=Ty.cells_eq y;have As:=Tm.fold t;have hg:t.idx 1099511627776:=Tm.idx_of t _ (AJ ht) (EK ht _ (by have:=k.1;omega));by_cases q1:e1=0;rotate_left
 ·refine⟨e1,fun h=>absurd h q1,fun _=>r1,AF,[],Nat.zero_le _,fun h=>absurd h q1,?_⟩;have w:cT gl 185 [RB (gT Γ) hs,(GH t a).dv] [] (.tup [AF.dv,.sl (AH []),A0 e1]) []:=by
   rw[M2,CQ];refine A6 Tryz.func185 ?_;intro X hP u6 hf u8 hn hR u5 u4;refine A2 ?_;refine A3 @Dh w1 ?_;refine A7 @q1 ?_;exact AC @AK
  rw[M2,CQ]at w ⊢;refine A6 Tryz.func130 ?_;intro X hP u6 hf u8 hn hR u5 u4;refine A2 ?_;refine A3 tT w ?_;exact AC @AK
 obtain⟨rfl,ct2⟩:=r2 q1;by_cases q2:ea=0;rotate_left
 ·refine⟨ea,fun h=>h,fun h=>h,AF,[],Nat.zero_le _,fun h=>absurd h q2,?_⟩;have w:cT gl 185 [RB (gT Γ) hs,(GH t a).dv] [] (.tup [AF.dv,.sl (AH []),A0 ea]) []:=by
   rw[M2,CQ];refine A6 Tryz.func185 ?_;intro X hP u6 hf u8 hn hR u5 u4;refine A2 ?_;refine A3 @Dh w1 ?_;refine A7 @q1 ?_;refine A3 tT wa ?_;refine A7 @q2 ?_;exact AC @AK
  rw[M2,CQ]at w ⊢;refine A6 Tryz.func130 ?_;intro X hP u6 hf u8 hn hR u5 u4;refine A2 ?_;refine A3 tT w ?_;exact AC @AK
 obtain⟨rfl,a3,a4⟩:=a2 q2;have hd:=X7 a3;have hc:(qF 4 s.ty fa).count=1+0+(fa.count+0):=rfl;have wp:=SW (gl:=gl) hd.2 ht (by have:=k.1;omega) oO ct;have wf:=aS (gl:=gl) t (AJ ht) ct2 hg;have wu:=M0 (gl:=gl) u (GF t) (by have:=H7 t;omega);have hl:=G5 u (GF t);have Jy:=H7 t;have ws:=AV (gl:=gl) s.ty s.ty;rw[(Ty.same_iff s.ty s.ty).2 rfl]at ws;have Cv:=Ty.fold s.ty;have lfa:=Fm.length_cells fa;have wa:cT gl 83 [RB (gT Γ) hs,a.dv] [] (.tup [.agg [A0 4,A0 s.ty.kind,.sl (s.ty.args.map Ty.cells),.sl [],.sl [fa.cells],.sl (AH u)],A0 ea]) []:=by
  have:prD (qF 4 s.ty fa) u = .agg [A0 4,A0 s.ty.kind,.sl (s.ty.args.map Ty.cells),.sl [],.sl [fa.cells],.sl (AH u)]:=rfl;rw[this]at wa;exact wa
 refine⟨Jj0 fa t,fun _=>q2,fun _=>SM ht,if Jj0 fa t=0 then fa.inN 0 0 t else AF,FE u (GF t),oO,fun h=>⟨by rw[if_pos h],WT ht hd.2,by have:=(PL hd.2 h).1;omega⟩,?_⟩;generalize (if Jj0 fa t=0 then fa.inN 0 0 t else AF)=v at *;generalize Jj0 fa t=pe at *;generalize FE u (GF t)=uu at *;have Cd:=Fm.cells_eq v;have w:cT gl 185 [RB (gT Γ) hs,(GH t a).dv] [] (.tup [v.dv,.sl (AH uu),A0 pe]) []:=by
  rw[M2];refine A6 Tryz.func185 ?_;intro X hP u6 hf u8 hn hR u5 u4;refine A2 ?_;refine A3 @Dh w1 ?_;refine A7 @q1 ?_;refine A3 tT wa ?_;refine A7 @q2 ?_;refine BL @As wf wu ?_;refine A2 ?_;refine A3 @Cv ws ?_;refine A2 ?_;refine A3 (j2 @As @Cd) wp ?_;refine A7 @Cd ?_;exact AC (j2 @Cd @AK)
 rw[M2]at w ⊢;refine A6 Tryz.func130 ?_;intro X hP u6 hf u8 hn hR u5 u4;refine A2 ?_;refine A3 @Cd w ?_;exact AC (j2 @Cd @AK)
theorem MX {Γ:List T}{hs:List Fm}(k:CK Γ hs 0 0){s:T}{f:Fm}(hf:FDn Γ (qF 5 s.ty f))(cf:f.count<=900000){t:Tm}{F:BH Γ->s.V}(ht:Dn Γ t s F)(ct:t.count<=1000000){a:Pf}{fa:Fm}{ea:Int}{na:Nat}(Wg:na<=900000)(ha:KG gl Γ hs a fa ea na) :
  ∃e,(e=0->ea=0/\(qF 5 s.ty f).chk=0/\(qF 5 s.ty f).typedN (gT Γ)=0)/\(KK ea->fa=f.inN 0 0 t->KK e)/\X5 gl Γ hs (GU (qF 5 s.ty f) t a) (qF 5 s.ty f) e (na+t.count):=by
 have hd:=X7 hf;obtain⟨y,e1,r1,r2,w1⟩:=tyw (gl:=gl) k ht ct;obtain⟨e2,u,p1,p2,p3,wp⟩:=N5 (gl:=gl) k ha hd.2 oO ht ct;have hc:(qF 5 s.ty f).count=1+0+(f.count+0):=rfl;have wt:=iF (gl:=gl) hf (gT Γ) (ZN k.2.2.1) (by have:=k.1;simp only[I2];omega) (by have:=k.1;omega);rw[show HP (MP (gT Γ)) (HP (qF 5 s.ty f).chk ((qF 5 s.ty f).typedN (gT Γ)))=HP (qF 5 s.ty f).chk ((qF 5 s.ty f).typedN (gT Γ)) by unfold HP;rw[if_pos k.ctx]]at wt;have Ac:KK (HP (qF 5 s.ty f).chk ((qF 5 s.ty f).typedN (gT Γ))):=NR (LK _) (U3 hf);have hz:HP (qF 5 s.ty f).chk ((qF 5 s.ty f).typedN (gT Γ))=0->(qF 5 s.ty f).chk=0/\(qF 5 s.ty f).typedN (gT Γ)=0:=DI;generalize HP (qF 5 s.ty f).chk ((qF 5 s.ty f).typedN (gT Γ))=e0 at *;have l1:=Pf.length_cells a;have l2:=Tm.length_cells t;have l3:=Fm.length_cells f;have Dh:=Ty.cells_eq y;have Fg:=Ty.fold y;have As:=Tm.fold t;have Cv:=Ty.fold s.ty;have Ed:(qF 5 s.ty f).cells=[A0 5,A0 s.ty.kind,.sl (s.ty.args.map Ty.cells),.sl [],.sl [f.cells]]:=by rw[Fm.cells_eq];rfl
 have hg:t.idx 1099511627776:=Tm.idx_of t _ (AJ ht) (EK ht _ (by have:=k.1;omega));rw[MK]at wt;by_cases q0:e0=0;rotate_left
 ·refine⟨e0,fun h=>absurd h q0,fun _ _=>Ac,AF,[],Nat.zero_le _,fun h=>absurd h q0,?_⟩;have w:cT gl 186 [RB (gT Γ) hs,(GU (qF 5 s.ty f) t a).dv] [] (.tup [AF.dv,.sl (AH []),A0 e0]) []:=by
   rw[OR,CQ,Ed];refine A6 Tryz.func186 ?_;intro X hP u6 hf u8 hn hR u5 u4;refine A2 ?_;refine A3 tT wt ?_;refine A7 @q0 ?_;exact AC @AK
  rw[OR,CQ]at w ⊢;refine A6 Tryz.func130 ?_;intro X hP u6 hf u8 hn hR u5 u4;refine A2 ?_;refine A3 tT w ?_;exact AC @AK
 by_cases q1:e1=0;rotate_left
 ·refine⟨e1,fun h=>absurd h q1,fun _ _=>r1,AF,[],Nat.zero_le _,fun h=>absurd h q1,?_⟩;have w:cT gl 186 [RB (gT Γ) hs,(GU (qF 5 s.ty f) t a).dv] [] (.tup [AF.dv,.sl (AH []),A0 e1]) []:=by
   rw[OR,CQ,Ed];refine A6 Tryz.func186 ?_;intro X hP u6 hf u8 hn hR u5 u4;refine A2 ?_;refine A3 tT wt ?_;refine A7 @q0 ?_;refine A3 @Dh w1 ?_;refine A7 @q1 ?_;exact AC @AK
  rw[OR,CQ]at w ⊢;refine A6 Tryz.func130 ?_;intro X hP u6 hf u8 hn hR u5 u4;refine A2 ?_;refine A3 tT w ?_;exact AC @AK
 obtain⟨rfl,ct2⟩:=r2 q1;have ws:=AV (gl:=gl) s.ty s.ty;rw[(Ty.same_iff s.ty s.ty).2 rfl]at ws;have wf:=aS (gl:=gl) t (AJ ht) ct2 hg;have wu:=M0 (gl:=gl) u (GF t) (by have:=H7 t;omega);have hl:=G5 u (GF t);have Jy:=H7 t;refine⟨e2,fun h=>⟨(p2 h).1,hz q0⟩,p3,qF 5 s.ty f,FE u (GF t),oO,fun h=>⟨rfl,hf,oO⟩,?_⟩;generalize FE u (GF t)=uu at *;have w:cT gl 186 [RB (gT Γ) hs,(GU (qF 5 s.ty f) t a).dv] [] (.tup [(qF 5 s.ty f).dv,.sl (AH uu),A0 e2]) []:=by
  rw[OR,MK,Ed];refine A6 Tryz.func186 ?_;intro X hP u6 hf u8 hn hR u5 u4;refine A2 ?_;refine A3 tT wt ?_;refine A7 @q0 ?_;refine A3 @Dh w1 ?_;refine A7 @q1 ?_;refine A3 @Cv ws ?_;refine A2 ?_;refine A3 tT wp ?_;refine A2 ?_;refine BL @As wf wu ?_;refine A2 ?_;exact AC @AK
 rw[OR,MK]at w ⊢;refine A6 Tryz.func130 ?_;intro X hP u6 hf u8 hn hR u5 u4;refine A2 ?_;refine A3 tT w ?_;exact AC @AK
theorem z0u (t:Tm):∀p:Int,0<=p->(t.upN p 1).timesN p=0/\(t.upN p 1).upN (p+1) (-1)=t:=by
 induction t using Tm.ind with
 | h t ih=>
 intro p hp;have hb:=K9 t.kind;have e1:∀l:List Tm,(∀a∈l,a∈t.args)->Tm.timesN.timess (l.map fun x=>x.upN (p+AX t.kind) 1) (p+AX t.kind)=0:=by
  intro l
  induction l with
  | nil=>intro _;rfl
  | cons a r Dk=>
   intro h;have h1:=(ih a (h a sS) (p+AX t.kind) oO).1;have h2:=Dk fun b hb=>h b (by simp[hb]);simp only[List.map_cons,Tm.timesN.timess,h1,h2];try rfl
 have e2:(t.args.map fun x=>(x.upN (p+AX t.kind) 1).upN (p+1+AX t.kind) (-1))=t.args:=by
  conv=>rhs;rw[<- List.map_id t.args]
  refine List.map_congr_left fun x hx=>?_;rw[show p+1+AX t.kind=p+AX t.kind+1 from oO];exact (ih x hx _ oO).2
 constructor
 ·rw[Tm.upN_eq,Tm.timesN_eq,Tm.kind_mk,Tm.index_mk,Tm.args_mk,e1 _ fun _ h=>h];by_cases h1:t.kind=1
  ·by_cases h2:p<=t.index
   ·have e5:(if t.kind=1/\p<=t.index then t.index+1 else t.index)=t.index+1:=if_pos ⟨h1,h2⟩;rw[e5,if_neg fun h=>by have:=h.2;omega];try rfl
   ·have e5:(if t.kind=1/\p<=t.index then t.index+1 else t.index)=t.index:=if_neg fun h=>h2 h.2;rw[e5,if_neg fun h=>by have:=h.2;omega];try rfl
  ·rw[if_neg fun h=>h1 h.1];try rfl
 ·rw[Tm.upN_eq (t.upN p 1),Tm.upN_eq t,Tm.kind_mk,Tm.index_mk,Tm.type_mk,Tm.args_mk,List.map_map];have e3:((fun x:Tm=>x.upN (p+1+AX t.kind) (-1)) ∘ fun x:Tm=>x.upN (p+AX t.kind) 1)=fun x:Tm=>(x.upN (p+AX t.kind) 1).upN (p+1+AX t.kind) (-1):=rfl;rw[e3,e2];have e4:(if t.kind=1/\p+1<=(if t.kind=1/\p<=t.index then t.index+1 else t.index) then (if t.kind=1/\p<=t.index then t.index+1 else t.index)+-1 else (if t.kind=1/\p<=t.index then t.index+1 else t.index))=t.index:=by
   by_cases h1:t.kind=1
   ·by_cases h2:p<=t.index;· simp only[h1,h2,and_self,true_and,if_true];rw[if_pos oO];omega
    ·simp only[h1,h2,and_false,true_and,if_false];rw[if_neg oO]
   ·simp[h1]
  rw[e4];exact Tm.eta t
theorem zbh (t:Fm):∀p:Int,0<=p->(t.upN p 1).timesN p=0/\(t.upN p 1).upN (p+1) (-1)=t:=by
 induction t using Fm.ind with
 | h t ih=>
 intro p hp;have hb:=SJ t.kind;have e0:∀l:List Tm,Tm.timesN.timess (l.map fun x=>x.upN p 1) p=0:=by
  intro l
  induction l with
  | nil=>rfl
  | cons a r Dk=>
   have h1:=(z0u a p hp).1;simp only[List.map_cons,Tm.timesN.timess,h1,Dk];try rfl
 have e1:∀l:List Fm,(∀a∈l,a∈t.args)->Fm.timesN.timess (l.map fun x=>x.upN (p+H5 t.kind) 1) (p+H5 t.kind)=0:=by
  intro l
  induction l with
  | nil=>intro _;rfl
  | cons a r Dk=>
   intro h;have h1:=(ih a (h a sS) (p+H5 t.kind) oO).1;have h2:=Dk fun b hb=>h b (by simp[hb]);simp only[List.map_cons,Fm.timesN.timess,h1,h2];try rfl
 have e2:(t.args.map fun x=>(x.upN (p+H5 t.kind) 1).upN (p+1+H5 t.kind) (-1))=t.args:=by
  conv=>rhs;rw[<- List.map_id t.args]
  refine List.map_congr_left fun x hx=>?_;rw[show p+1+H5 t.kind=p+H5 t.kind+1 from oO];exact (ih x hx _ oO).2
 have e3:(t.terms.map fun x=>(x.upN p 1).upN (p+1) (-1))=t.terms:=by
  conv=>rhs;rw[<- List.map_id t.terms]
  exact List.map_congr_left fun x hx=>(z0u x p hp).2
 constructor;· rw[Fm.upN_eq,Fm.timesN_eq,Fm.kind_mk,Fm.terms_mk,Fm.args_mk,e0,e1 _ fun _ h=>h]
 ·rw[Fm.upN_eq (t.upN p 1),Fm.upN_eq t,Fm.kind_mk,Fm.type_mk,Fm.terms_mk,Fm.args_mk,List.map_map,List.map_map];have e4:((fun x:Fm=>x.upN (p+1+H5 t.kind) (-1)) ∘ fun x:Fm=>x.upN (p+H5 t.kind) 1)=fun x:Fm=>(x.upN (p+H5 t.kind) 1).upN (p+1+H5 t.kind) (-1):=rfl;have e5:((fun x:Tm=>x.upN (p+1) (-1)) ∘ fun x:Tm=>x.upN p 1)=fun x:Tm=>(x.upN p 1).upN (p+1) (-1):=rfl;rw[e4,e2,e5,e3];exact Fm.eta t
theorem U4 {Γ:List T}{hs:List Fm}(k:CK Γ hs 1 1){s:T}{a b:Pf}{fa fo:Fm}{ea eb:Int}{na nb:Nat}(hn:na+nb<=1000000)(ha:KG gl Γ hs a (qF 5 s.ty fa) ea na)
  (hb:ea=0->KG gl (s::Γ) (JF hs 1++[fa]) b (fo.upN 0 1) eb nb) (Di:FDn Γ fo):X5 gl Γ hs (JL a b) fo (HP ea eb) (na+nb):=by
 obtain⟨f',u,a1,a2,wa⟩:=ha;have l1:=Pf.length_cells a;have l2:=Pf.length_cells b;by_cases q1:ea=0;rotate_left
 ·rw[show HP ea eb=ea by unfold HP;rw[if_neg q1]];refine⟨AF,[],Nat.zero_le _,fun h=>absurd h q1,?_⟩;have w:cT gl 187 [RB (gT Γ) hs,(JL a b).dv] [] (.tup [AF.dv,.sl (AH []),A0 ea]) []:=by
   rw[MU,CQ];refine A6 Tryz.func187 ?_;intro X hP u6 hf u8 hn hR u5 u4;refine A2 ?_;refine A3 tT wa ?_;refine A7 @q1 ?_;exact AC @AK
  rw[MU,CQ]at w ⊢;refine A6 Tryz.func130 ?_;intro X hP u6 hf u8 hn hR u5 u4;refine A2 ?_;refine A3 tT w ?_;exact AC @AK
 rw[show HP ea eb=eb by unfold HP;rw[if_pos q1]];obtain⟨rfl,a3,a4⟩:=a2 q1;have hd:=X7 a3;have hc:(qF 5 s.ty fa).count=1+0+(fa.count+0):=rfl;obtain⟨g',v,b1,b2,wb⟩:=hb q1;have wa:cT gl 83 [RB (gT Γ) hs,a.dv] [] (.tup [.agg [A0 5,A0 s.ty.kind,.sl (s.ty.args.map Ty.cells),.sl [],.sl [fa.cells],.sl (AH u)],A0 ea]) []:=by
  have:prD (qF 5 s.ty fa) u = .agg [A0 5,A0 s.ty.kind,.sl (s.ty.args.map Ty.cells),.sl [],.sl [fa.cells],.sl (AH u)]:=rfl;rw[this]at wa;exact wa
 have wr:=U2 (gl:=gl) (gT Γ) hs 1 1 (by have:=k.1;simp only[I2];omega) (by have:=k.2.1;omega);have Mf:=QR (gl:=gl) [s.ty] (gT Γ) hs (fun f hf=>⟨HY (k.2.2.2 f hf).1 _ (by have:=k.1;have:=(k.2.2.2 f hf).2;omega),(k.2.2.2 f hf).2⟩) sS (by have:=k.1;simp only[I2];omega) (by have:=k.2.1;omega);have Mf:cT gl 227 [RB (gT Γ) hs,.sl [s.ty.cells]] [] (RB (gT Γ++[s.ty]) (JF hs 1)) []:=Mf;have ww:=Y8 (gl:=gl) (gT Γ++[s.ty]) (JF hs 1) fa (by have:=k.2.1;simp;omega);rw[JE]at wb;have Cv:=Ty.fold s.ty;have Bp:=Ty.cells_eq s.ty;have lfa:=Fm.length_cells fa;generalize Le:gT Γ++[s.ty]=g2 at *;generalize Ws:JF hs 1++[fa]=Fu at *;generalize JF hs 1=Cl at *;by_cases q2:eb=0;rotate_left
 ·refine⟨AF,[],Nat.zero_le _,fun h=>absurd h q2,?_⟩;have w:cT gl 187 [RB (gT Γ) hs,(JL a b).dv] [] (.tup [AF.dv,.sl (AH []),A0 eb]) []:=by
   rw[MU,CQ];refine A6 Tryz.func187 ?_;intro X hP u6 hf u8 hn hR u5 u4;refine A2 ?_;refine A3 tT wa ?_;refine A7 @q1 ?_;refine A3 tT wr ?_;refine A2 ?_;refine F9 (j2 @Cv @Bp) Mf ww wb ?_;refine A7 @q2 ?_;exact AC @AK
  rw[MU,CQ]at w ⊢;refine A6 Tryz.func130 ?_;intro X hP u6 hf u8 hn hR u5 u4;refine A2 ?_;refine A3 tT w ?_;exact AC @AK
 obtain⟨rfl,b3,b4⟩:=b2 q2;have hud:=zbh fo 0 dD;have hoc:=N4 fo 0 1;have wh:=zfb (gl:=gl) (fo.upN 0 1) 0 oO dD oO;rw[hud.1]at wh;have wh:cT gl 234 [(fo.upN 0 1).dv,A0 0] [] (AR false) []:=wh;have Wm:=XV (gl:=gl) (fo.upN 0 1) 1 (-1) (HY b3 _ (by have:=k.1;simp only[List.length_cons];omega)) dD dD dD oO;have h9:(fo.upN 0 1).upN 1 (-1)=fo:=hud.2;rw[h9]at Wm;have wo:=QS (gl:=gl) v 1 oO;have ho:=NY v 1;have wu:=M0 (gl:=gl) u (L9 v 1) oO;have hu:=G5 u (L9 v 1);refine⟨fo,FE u (L9 v 1),oO,fun _=>⟨rfl,Di,oO⟩,?_⟩;have Av:=Fm.fold (fo.upN 0 1);have Ed:=Fm.cells_eq (fo.upN 0 1);have hco:=Fm.cells_eq fo;generalize fo.upN 0 1=f1 at *;generalize FE u (L9 v 1)=uu at *;generalize L9 v 1=ov at *;have w:cT gl 187 [RB (gT Γ) hs,(JL a b).dv] [] (.tup [fo.dv,.sl (AH uu),A0 eb]) []:=by
  rw[MU];refine A6 Tryz.func187 ?_;intro X hP u6 hf u8 hn hR u5 u4;refine A2 ?_;refine A3 tT wa ?_;refine A7 @q1 ?_;refine A3 tT wr ?_;refine A2 ?_;refine F9 (j2 @Cv @Bp) Mf ww wb ?_;refine A7 @q2 ?_;refine A3 @Av wh ?_;refine A2 ?_;refine F9 @Av Wm wo wu ?_;exact AC (j3 @q2 @hco @AK)
 rw[MU]at w ⊢;refine A6 Tryz.func130 ?_;intro X hP u6 hf u8 hn hR u5 u4;refine A2 ?_;refine A3 @hco w ?_;exact AC (j2 @hco @AK)
end
end Go.Proofs.YtkfiobkjflmchaaGreatDoor.Lift
