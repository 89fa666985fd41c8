import Derived.Test.YtoamlfmdkbmmpaaGreatDoorQl7
import Derived.Test.YtoamlfmdkbmmpaaGreatDoorRows
import Derived.ProofKit
import Derived.OpenShut
import Derived.JoinedCond
import Derived.ChangeSlices
import Derived.ChangeArms
import Derived.ChangeOld
import Derived.ChangeSame
import Derived.Laws.MakeOwn
namespace Go.Proofs.YtoamlfmdkbmmpaaGreatDoor.Lift
set_option linter.unusedSimpArgs false
set_option linter.unusedVariables false
set_option linter.unnecessarySimpa false
open Go Go.ChangeShapes Go.WideShapes Go.ChangeAt Go.RowKit
def tiled (P:Program):List Field→Nat→Nat→Bool
 | [],o,n=>o == n
 | f::r,o,n=>f.offset == o && tiled P r (o+P.cellsOf f.type) n
def tyOK (P:Program)(TS:List TypeId)(t:TypeId):Bool:=
 match P.underlying t with
 | some .bool=>P.cellsOf t == 1
 | some (.int _)=>P.cellsOf t == 1
 | some (.slice e)=>P.cellsOf t == 1 && decide (0<P.cellsOf e) && TS.contains e
 | some (.struct fs)=>tiled P fs.toList 0 (P.cellsOf t) && fs.toList.all fun f=>TS.contains f.type
 | _=>false
def tysOK (P:Program)(TS:List TypeId):Bool:=TS.all (tyOK P TS)
mutual
def cellsR {H:Type}:DataW H→List DV
 | .lit (.bool b)=>[dbool b]
 | .lit (.int k n)=>[.prim (.int k n)]
 | .nil=>[.sl []]
 | .slice elems _=>[.sl (cellsRs elems)]
 | .agg parts=>cellsRa parts
 | _=>[]
def cellsRs {H:Type}:List (DataW H)→List (List DV)
 | []=>[]
 | d::r=>cellsR d::cellsRs r
def cellsRa {H:Type}:List (DataW H)→List DV
 | []=>[]
 | d::r=>cellsR d++cellsRa r
end
theorem zl3 {H:Type}(l:List (DataW H)):cellsRs l=l.map cellsR:=by
 induction l with
 | nil=>rfl
 | cons a r ih=>simp [cellsRs,ih]
theorem z1ca {H:Type}(l:List (DataW H)):cellsRa l=l.flatMap cellsR:=by
 induction l with
 | nil=>rfl
 | cons a r ih=>simp [cellsRa,ih]
def Old (w:World):Nat→Nat→Prop:=fun b o=>∃ v,w.cell? ⟨b,o,none⟩=some v
def CellsOK (w:World)(ds:List DV)(cs:List Value):Prop:=
 ds.length=cs.length∧∀ (i:Nat) (c:DV) (v:Value),ds[i]? = some c→cs[i]? = some v→c.isCell=true∧RV (Old w) w c v
theorem CellsOK.nil (w:World):CellsOK w [] []:=⟨rfl,by simp⟩
theorem CellsOK.one {w:World}{c:DV}{v:Value}(h1:c.isCell=true)(h2:RV (Old w) w c v):CellsOK w [c] [v]:=by
 refine ⟨rfl,fun i x u hx hu=>?_⟩
 cases i with
 | zero=>simp at hx hu;subst hx hu;exact ⟨h1,h2⟩
 | succ i=>simp at hx
theorem CellsOK.append {w:World}{ds es:List DV}{cs us:List Value}(h1:CellsOK w ds cs)(h2:CellsOK w es us):CellsOK w (ds++es) (cs++us):=by
 refine ⟨by simp [h1.1,h2.1],fun i c v hc hv=>?_⟩
 by_cases hi:i<ds.length
 ·rw [List.getElem?_append_left hi] at hc
  rw [List.getElem?_append_left (by rw [← h1.1];exact hi)] at hv
  exact h1.2 i c v hc hv
 ·rw [List.getElem?_append_right (by omega)] at hc
  rw [List.getElem?_append_right (by rw [← h1.1];omega),← h1.1] at hv
  exact h2.2 _ c v hc hv
theorem zl4 {H:Type}{d:DataW H}{l:List (DataW H)}(h:d ∈ l):Rows.uptoBulk d≤Rows.uptoBulkAll l:=by
 induction l with
 | nil=>cases h
 | cons x r ih=>
  simp only [Rows.uptoBulkAll]
  cases List.mem_cons.1 h with
  | inl e=>subst e;omega
  | inr e=>have:=ih e;omega
theorem z1cb {H:Type}(d:DataW H):1≤Rows.uptoBulk d:=by
 cases d with
 | lit l=>cases l <;> simp [Rows.uptoBulk]
 | _=>simp [Rows.uptoBulk]
theorem zl5 {H:Type}(l:List (DataW H)):l.length≤Rows.uptoBulkAll l:=by
 induction l with
 | nil=>simp [Rows.uptoBulkAll]
 | cons x r ih=>have:=z1cb x;simp only [Rows.uptoBulkAll,List.length_cons];omega
section
variable {H:Type}{enc:TypeId × Value→H}{P:Program}{w w':World}
theorem zl6 {TS:List TypeId}(h:tysOK P TS=true){t:TypeId}(ht:t ∈ TS):tyOK P TS t=true:=List.all_eq_true.1 h t ht
theorem z1cc {TS:List TypeId}(hT:tysOK P TS=true):∀ (fuel:Nat) (t:TypeId),t ∈ TS→∀ (cs:List Value) (x:DataW H × List MemPlace),DataW.trod enc P w 0 (fun _=>true) true fuel t cs=some x→Rows.uptoBulk x.1≤1048576 →
  cs.length=P.cellsOf t∧CellsOK w (cellsR x.1) cs:=by
 intro fuel
 induction fuel with
 | zero=>intro t _ cs x h;simp [DataW.trod] at h
 | succ fuel ih=>
  intro t ht cs x h hb
  have hk:=zl6 hT ht
  unfold tyOK at hk
  split at hk
  ·rename_i hu
   obtain ⟨b,rfl,rfl⟩:=DataW.trod_bool hu h
   exact ⟨by simpa using (beq_iff_eq.1 hk).symm,.one rfl (.prim _ trivial)⟩
  ·rename_i k hu
   obtain ⟨n,rfl,rfl,hw⟩:=DataW.trod_int hu h
   exact ⟨by simpa using (beq_iff_eq.1 hk).symm,.one rfl (.prim _ (by simpa [Lit.wf,primOK] using hw))⟩
  ·rename_i e hu
   simp only [Bool.and_eq_true,beq_iff_eq,decide_eq_true_eq,List.contains_iff_mem] at hk
   obtain ⟨⟨hk1,hk2⟩,hk3⟩:=hk
   rcases DataW.trod_slice hu h with ⟨rfl,rfl⟩|⟨a,len,cap,elems,rest,n,hn,rfl,rfl,-,hl,hm,hlen,hel,hsp,-⟩
   ·exact ⟨by simp [hk1],.one rfl (.sl0 _ _)⟩
   ·obtain rfl:fuel=n:=by omega
    refine ⟨by simp [hk1],.one rfl ?_⟩
    simp only [cellsR,zl3,List.map_map]
    simp only [Rows.uptoBulk] at hb
    have hbl:=zl5 (elems.map (·.1))
    simp only [List.length_map] at hbl
    have hbe:∀ y ∈ elems,Rows.uptoBulk y.1≤1048576:=fun y hy=>by
     have:=zl4 (List.mem_map_of_mem (f:=(·.1)) hy)
     omega
    have each:∀ i y,elems[i]? = some y→∃ us,w.cells? 0 (a.add (i * P.cellsOf e)) (P.cellsOf e)=some us∧us.length=P.cellsOf e∧CellsOK w (cellsR y.1) us:=by
     intro i y hy
     have hi:i<len:=by rw [← hlen];exact (List.getElem?_eq_some_iff.1 hy).1
     have h1:=hel i hi
     rw [hy,Option.bind_eq_some_iff] at h1
     obtain ⟨us,h2,h3⟩:=h1
     exact ⟨us,h2,ih e hk3 us y h3 (hbe y (List.mem_of_getElem? hy))⟩
    cases hq:elems with
    | nil=>
     rw [hq] at hlen
     simp only [List.length_nil] at hlen
     subst hlen
     exact .sl0 _ _
    | cons y0 r0=>
     have hpos:0<len:=by rw [← hlen,hq];simp
     rw [← hq]
     have hcell:∀ i y,elems[i]? = some y→∀ j,j<P.cellsOf e→∃ us,us.length=P.cellsOf e∧CellsOK w (cellsR y.1) us∧w.cell? ((a.add (i * P.cellsOf e)).add j)=us[j]?:=by
      intro i y hy j hj
      obtain ⟨us,h1,h2,h3⟩:=each i y hy
      exact ⟨us,h2,h3,(World.cells?_some h1).2.2 j hj⟩
     have hspot:a.spot=none:=by
      obtain ⟨us,h1,-,h3⟩:=hcell 0 y0 (by rw [hq];rfl) 0 hk2
      rw [Nat.zero_mul] at h3
      cases hs:a.spot with
      | none=>rfl
      | some q=>
       have hlt:0<us.length:=by omega
       rw [List.getElem?_eq_getElem hlt] at h3
       have:(a.add 0).add 0=a:=by simp [Addr.add]
       rw [this] at h3
       unfold World.cell? at h3
       simp [hs] at h3
       split at h3 <;> cases h3
     obtain ⟨ab,ao,asp⟩:=a
     simp only at hspot
     subst hspot
     have hadd:∀ i j,((⟨ab,ao,none⟩:Addr).add (i * P.cellsOf e)).add j=⟨ab,ao+(i * P.cellsOf e+j),none⟩:=by
      intro i j
      rw [z27,z27,Nat.add_assoc]
     have hval:∀ i j,i<elems.length→j<P.cellsOf e→w.cell? ⟨ab,ao+(i * P.cellsOf e+j),none⟩=some ((w.cell? ⟨ab,ao+(i * P.cellsOf e+j),none⟩).getD undef):=by
      intro i j hi hj
      obtain ⟨us,h1,-,h3⟩:=hcell i _ (List.getElem?_eq_getElem hi) j hj
      rw [hadd] at h3
      rw [h3,List.getElem?_eq_getElem (by omega)]
      rfl
     have key:=RV.sl (D:=Old w) (w:=w) (elems.map (fun y=>cellsR y.1)) ab ao cap (P.cellsOf e) (fun i j=>(w.cell? ⟨ab,ao+(i * P.cellsOf e+j),none⟩).getD undef) (by simp [BIG];omega) (by simp;omega)
      (by
       intro q hq'
       obtain ⟨y,hy,rfl⟩:=List.mem_map.1 hq'
       obtain ⟨i,hi⟩:=List.getElem?_of_mem hy
       obtain ⟨us,-,h2,h3⟩:=each i y hi
       rw [h3.1,h2])
      (by
       intro q hq' c hc
       obtain ⟨y,hy,rfl⟩:=List.mem_map.1 hq'
       obtain ⟨i,hi⟩:=List.getElem?_of_mem hy
       obtain ⟨us,-,h2,h3⟩:=each i y hi
       obtain ⟨j,hj⟩:=List.getElem?_of_mem hc
       have hjl:=(List.getElem?_eq_some_iff.1 hj).1
       exact (h3.2 j c (us[j]'(by rw [← h3.1];exact hjl)) hj (List.getElem?_eq_getElem (by rw [← h3.1];exact hjl))).1)
      (fun i j hi hj=>hval i j (by simpa using hi) hj) (fun i j hi hj=>⟨_,hval i j (by simpa using hi) hj⟩)
      (by
       intro i j q c hi hj
       rw [List.getElem?_map] at hi
       cases hy:elems[i]? with
       | none=>simp [hy] at hi
       | some y=>
        simp [hy] at hi
        subst hi
        obtain ⟨us0,-,g2,g3⟩:=each i y hy
        have hjl:j<P.cellsOf e:=by rw [← g2,← g3.1];exact (List.getElem?_eq_some_iff.1 hj).1
        obtain ⟨us,h1,h2,h3⟩:=hcell i y hy j hjl
        rw [hadd] at h3
        have hu:us[j]? = some us[j]:=List.getElem?_eq_getElem (by omega)
        rw [h3,hu]
        exact (h2.2 j c us[j] hj hu).2)
     simp only [List.length_map,hlen] at key
     exact key
  ·rename_i fs hu
   simp only [Bool.and_eq_true,List.all_eq_true,List.contains_iff_mem] at hk
   obtain ⟨hk1,hk2⟩:=hk
   obtain ⟨xs,n,hn,rfl,hcl,hxl,hx⟩:=DataW.trod_struct hu h
   obtain rfl:fuel=n:=by omega
   refine ⟨hcl,?_⟩
   simp only [cellsR,z1ca]
   simp only [Rows.uptoBulk] at hb
   have hbe:∀ y ∈ xs,Rows.uptoBulk y.1≤1048576:=fun y hy=>by
    have:=zl4 (List.mem_map_of_mem (f:=(·.1)) hy)
    omega
   have main:∀ (gs:List Field) (ys:List (DataW H × List MemPlace)) (o:Nat),(∀ f ∈ gs,f.type ∈ TS)→(∀ y ∈ ys,Rows.uptoBulk y.1≤1048576)→tiled P gs o (P.cellsOf t)=true→gs.length=ys.length →
     (∀ (i:Nat) (f:Field),gs[i]? = some f→DataW.trod enc P w 0 (fun _=>true) true fuel f.type ((cs.drop f.offset).take (P.cellsOf f.type))=ys[i]?)→CellsOK w ((ys.map (·.1)).flatMap cellsR) (cs.drop o):=by
    intro gs
    induction gs with
    | nil=>
     intro ys o _ _ ht hl _
     obtain rfl:ys=[]:=List.eq_nil_of_length_eq_zero (by simpa using hl.symm)
     simp only [tiled,beq_iff_eq] at ht
     rw [ht,← hcl,List.drop_length]
     exact .nil w
    | cons f r ihr=>
     intro ys o hm hby ht hl hrd
     cases ys with
     | nil=>simp at hl
     | cons y ys=>
      simp only [tiled,Bool.and_eq_true,beq_iff_eq] at ht
      have h0:=hrd 0 f rfl
      rw [ht.1] at h0
      obtain ⟨q1,q2⟩:=ih f.type (hm f (by simp)) _ y h0 (hby y (by simp))
      have hrest:=ihr ys (o+P.cellsOf f.type) (fun g hg=>hm g (by simp [hg])) (fun z hz=>hby z (by simp [hz])) ht.2 (by simpa using hl) (fun i g hg=>by simpa using hrd (i+1) g (by simpa using hg))
      have e:cs.drop o=(cs.drop o).take (P.cellsOf f.type)++cs.drop (o+P.cellsOf f.type):=by
       rw [← List.drop_drop,List.take_append_drop]
      rw [e]
      simp only [List.map_cons,List.flatMap_cons]
      exact q2.append hrest
   have:=main fs.toList xs 0 (fun f hf=>hk2 f hf) hbe hk1 (by simp [hxl]) (fun i f hf=>hx i f (by simpa using hf))
   simpa using this
  ·cases hk
theorem z1cd {TS:List TypeId}(hT:tysOK P TS=true){sp:Nat→Bool}{held:Bool}{base:Nat}:∀ (fuel:Nat) (t:TypeId),t ∈ TS→∀ (cs:List Value) (x:DataW H × List MemPlace),DataW.trod enc P w base (fun _=>true) held fuel t cs=some x→(∀ p ∈ x.2,sp p.block=true) →
  DataW.trod enc P w base sp held fuel t cs=some x:=by
 intro fuel
 induction fuel with
 | zero=>intro t _ cs x h;simp [DataW.trod] at h
 | succ fuel ih=>
  intro t ht cs x h hs
  have hk:=zl6 hT ht
  unfold tyOK at hk
  split at hk
  ·rename_i hu
   obtain ⟨b,rfl,rfl⟩:=DataW.trod_bool hu h
   simp [DataW.trod,hu]
  ·rename_i k hu
   obtain ⟨n,rfl,rfl,hw⟩:=DataW.trod_int hu h
   simp [DataW.trod,hu,hw]
  ·rename_i e hu
   simp only [Bool.and_eq_true,beq_iff_eq,decide_eq_true_eq,List.contains_iff_mem] at hk
   obtain ⟨⟨hk1,hk2⟩,hk3⟩:=hk
   have hshape:cs=[.slice none 0 0]∨∃ a len cap,cs=[.slice (some a) len cap]:=by
    rcases DataW.trod_slice hu h with ⟨rfl,-⟩|⟨a,len,cap,_,_,_,_,rfl,-⟩
    ·exact .inl rfl
    ·exact .inr ⟨a,len,cap,rfl⟩
   rcases hshape with rfl|⟨a,len,cap,rfl⟩
   ·simp only [DataW.trod,hu] at h ⊢
    exact h
   ·simp only [DataW.trod,hu] at h ⊢
    split at h
    ·rename_i hcond
     rw [if_pos hcond]
     simp only [if_true,Option.bind_eq_some_iff,Option.map_eq_some_iff] at h
     obtain ⟨elems,h1,rest,h2,rfl⟩:=h
     have hmem:∀ y ∈ elems++rest,∀ p ∈ y.2,sp p.block=true:=fun y hy p hp=>hs p (List.mem_append.2 (.inr (List.mem_flatMap.2 ⟨y,hy,hp⟩)))
     have step:∀ (i:Nat) (y:DataW H × List MemPlace),y ∈ elems++rest→(w.cells? base (a.add (i * P.cellsOf e)) (P.cellsOf e)).bind (DataW.trod enc P w base (fun _=>true) held fuel e)=some y→(w.cells? base (a.add (i * P.cellsOf e)) (P.cellsOf e)).bind (DataW.trod enc P w base sp held fuel e)=some y:=by
      intro i y hy h
      rw [Option.bind_eq_some_iff] at h ⊢
      obtain ⟨us,q1,q2⟩:=h
      exact ⟨us,q1,ih e hk3 us y q2 (hmem y hy)⟩
     have e1:=mapM_carry (g:=fun i=>(w.cells? base (a.add (i * P.cellsOf e)) (P.cellsOf e)).bind (DataW.trod enc P w base sp held fuel e)) h1 (fun i y _ hy hi=>step i y (List.mem_append.2 (.inl hy)) hi)
     rw [e1]
     simp only [Option.bind_some]
     have e2:=mapM_carry (g:=fun j=>(w.cells? base (a.add ((len+j) * P.cellsOf e)) (P.cellsOf e)).bind (DataW.trod enc P w base sp held fuel e)) h2 (fun i y _ hy hi=>step _ y (List.mem_append.2 (.inr hy)) hi)
     by_cases hz:elems.length+rest.length=0
     ·have hr0:rest=[]:=List.eq_nil_of_length_eq_zero (by omega)
      have hlen:rest.length=cap - len:=by simpa using mapM_some_length h2
      have hc0:cap - len=0:=by rw [← hlen,hr0];rfl
      subst hr0
      rw [hc0]
      split <;> simp
     ·have hsp:sp a.block=true:=by
       have hn:0<(elems.length+rest.length) * P.cellsOf e:=Nat.mul_pos (by omega) hk2
       exact hs (.cell a.block (a.off+0)) (List.mem_append.2 (.inl (MemPlace.mem_row.2 ⟨0,hn,rfl⟩)))
      rw [if_pos hsp,e2]
      rfl
    ·cases h
  ·rename_i fs hu
   simp only [Bool.and_eq_true,List.all_eq_true,List.contains_iff_mem] at hk
   obtain ⟨hk1,hk2⟩:=hk
   obtain ⟨xs,n,hn,rfl,hcl,hxl,hx⟩:=DataW.trod_struct hu h
   obtain rfl:fuel=n:=by omega
   unfold DataW.trod at h ⊢
   rw [hu] at h ⊢
   simp only [hcl,if_true,Option.map_eq_some_iff] at h ⊢
   obtain ⟨ys,h1,h2⟩:=h
   have hy:∀ y ∈ ys,∀ p ∈ y.2,sp p.block=true:=fun y hy p hp=>hs p (by
    have:xs.flatMap (·.2)=ys.flatMap (·.2):=(congrArg Prod.snd h2).symm
    rw [this]
    exact List.mem_flatMap.2 ⟨y,hy,hp⟩)
   exact ⟨ys,mapM_carry h1 (fun f y hf hy' hr=>ih f.type (hk2 f hf) _ y hr (hy y hy')),h2⟩
  ·cases hk
theorem z1ce {TS:List TypeId}(hT:tysOK P TS=true)(hw:∀ b,b<w.heap.size→w'.heap[b]? = w.heap[b]?){sp:Nat→Bool}{held:Bool}{base:Nat}{t:TypeId}(ht:t ∈ TS){v:Value}{d:DataW H}{ps:List MemPlace}(h:DataW.Trod enc P w base (fun _=>true) held t v d ps)
  (hs:∀ p ∈ ps,sp p.block=true):DataW.Trod enc P w' base sp held t v d ps:=by
 obtain ⟨fuel,h⟩:=h
 refine ⟨fuel,DataW.trod_carry _ _ _ _ (z1cd hT fuel t ht _ _ h hs) fun p hp=>?_⟩
 have hlt:=DataW.trod_lt fuel t _ _ h p hp
 cases p with
 | cell b o=>simp only [World.sameAt,World.cell?];rw [hw b hlt]
 | map b=>exact hw b hlt
end
theorem z1cf {H:Type}{enc:TypeId × Value→H}{P:Program}{w:World}{t e:TypeId}(ht:P.underlying t=some (.slice e))(he:P.underlying e=some (.int .i64))(hT:tysOK P [t,e]=true){v:Value}{d:DataW H}{ps:List MemPlace}(h:DataW.Trod enc P w 0 (fun _=>true) true t v d ps)(hcell:v.cells = #[v])
  (hb:Rows.uptoBulk d≤1048576):∃ l:List Int,RV (Old w) w (.sl (l.map fun n=>[dint n])) v∧l.length≤1048576:=by
 obtain ⟨fuel,h⟩:=h
 rw [hcell] at h
 have key:∃ l:List Int,cellsR d=[.sl (l.map fun n=>[dint n])]∧l.length≤1048576:=by
  rcases DataW.trod_slice ht h with ⟨-,hx⟩|⟨a,len,cap,elems,rest,n,hn,-,hx,-,hl,hm,hlen,hel,hsp,-⟩
  ·cases hx;exact ⟨[],rfl,by simp⟩
  ·cases hx
   simp only [Rows.uptoBulk] at hb
   have hbl:=zl5 (elems.map (·.1))
   simp only [List.length_map] at hbl
   have each:∀ y ∈ elems,∃ m:Int,cellsR y.1=[dint m]:=by
    intro y hy
    obtain ⟨i,hi⟩:=List.getElem?_of_mem hy
    have hil:i<len:=by rw [← hlen];exact (List.getElem?_eq_some_iff.1 hi).1
    have h1:=hel i hil
    rw [hi,Option.bind_eq_some_iff] at h1
    obtain ⟨us,-,h3⟩:=h1
    obtain ⟨m,-,rfl,-⟩:=DataW.trod_int he h3
    exact ⟨m,rfl⟩
   have:∃ l:List Int,elems.map (fun y=>cellsR y.1)=l.map fun n=>[dint n]:=by
    clear hel hlen hbl h hb hsp
    induction elems with
    | nil=>exact ⟨[],rfl⟩
    | cons y r ih=>
     obtain ⟨m,hm⟩:=each y (by simp)
     obtain ⟨l,hl⟩:=ih fun z hz=>each z (by simp [hz])
     exact ⟨m::l,by simp [hm,hl]⟩
   obtain ⟨l,hl⟩:=this
   have hll:l.length=elems.length:=by simpa using (congrArg List.length hl).symm
   refine ⟨l,?_,by omega⟩
   simp only [cellsR,zl3,List.map_map]
   exact congrArg (fun q=>[DV.sl q]) hl
 obtain ⟨l,h1,h2⟩:=key
 obtain ⟨-,h3⟩:=z1cc hT fuel t (by simp) _ _ h hb
 rw [h1] at h3
 exact ⟨l,(h3.2 0 _ v rfl rfl).2,h2⟩
theorem z1cg {P:Program}{w:World}{r:Reach}{base:Nat}{t e:TypeId}(ht:P.underlying t=some (.slice e)){v:Value}(h:Value.okWide P w r base t v):v.cells = #[v]:=by
 cases v <;> first|rfl|(simp [Value.okWide,Cell.okWide,Cell.ok,ht] at h)
theorem zek {w w':World}{D D':Nat→Nat→Prop}(h:Ext [] D w D' w'):∀ b,b<w.heap.size→w'.heap[b]? = w.heap[b]?:=fun b hb=>h.block b hb (by simp)
theorem z1ch {w w':World}{D D':Nat→Nat→Prop}(h:Ext [] D w D' w')(may:MemPlace→Prop):w.keptBut w' may:=by
 refine ⟨h.os,h.output,fun i hi=>?_⟩
 rw [zek h i hi]
 cases hq:w.heap[i]? with
 | none=>rfl
 | some o=>cases o <;> first|rfl|exact ⟨rfl,rfl,rfl,fun _ _=>rfl⟩|exact .inr ⟨rfl,rfl⟩
theorem z1ci {H:Type}{enc:TypeId × Value→H}{P:Program}{f:Func}{s:ChangeSpec}{apart fresh handsOn again:Bool}{W W':World}{D D':Nat→Nat→Prop}{args:Array Value}{v:Value}{ds gs:List (DataW H)}{before pa pv:List MemPlace}
  (hW:DataW.Whole enc P f.params.toList s.vars apart W args.toList ds gs before)
  (hres:∀ (b:Nat) (sp:Nat→Bool) (hd:Bool),DataW.TrodAll enc P W' b sp hd f.resultTypes.toList (v.resultList f.resultTypes.size) (s.fn H (ds++gs)).results [])
  (hargs:∀ sp:Nat→Bool,(∀ p ∈ before,sp p.block=true)→DataW.TrodAll enc P W' 0 sp true f.params.toList args.toList (s.fn H (ds++gs)).args pa)
  (hvars:∀ sp:Nat→Bool,(∀ p ∈ before,sp p.block=true)→DataW.TrodVars enc P W' sp s.vars (s.fn H (ds++gs)).vars pv)
  (hps:before=pa++pv) (hx:Ext [] D W D' W')
  (hok:∀ (j:Nat) (t:TypeId) (r:Value),f.resultTypes[j]? = some t→(v.resultList f.resultTypes.size)[j]? = some r→Value.okWide P W' .any 0 t r) :
  s.post enc P f apart fresh handsOn again W args v W':=by
 have hlt:∀ p ∈ before,p.block<W.heap.size:=fun p hp=>hW.lt p hp
 have hold:∀ p ∈ before,(fun b=>decide (b<W.heap.size)) p.block=true:=fun p hp=>by simpa using hlt p hp
 refine ⟨ds,gs,before,[],pa,pv,hW,hres _ _ _,hargs _ hold,hvars _ hold,World.keptBut_mono (fun p hp=>⟨hp,?_⟩) (z1ch hx (· ∈ before)),fun _=>?_⟩
 ·rw [hps,List.mem_append] at hp
  exact Or.inr hp
 ·obtain ⟨_,_,_,_,_,hz,hn⟩:=hW
  refine ⟨hok,_,_,([]++pa)++pv,⟨[]++pa,pv,trodAll_append (hargs _ (fun _ _=>rfl)) (hres _ _ _),hvars _ (fun _ _=>rfl),rfl,?_,?_⟩,?_⟩
  ·intro b off hp
   have hin:MemPlace.cell b off ∈ before:=by rw [hps];simpa using hp
   have h2:W'.frozen? ⟨b,off,none⟩=W.frozen? ⟨b,off,none⟩:=by
    simp only [World.frozen?,zek hx b (hlt _ hin)]
   rw [h2]
   exact hz b off hin
  ·intro ha
   have:=hn ha
   rw [hps] at this
   simpa using this
  ·intro p hp _
   rw [hps]
   simpa using hp
end Go.Proofs.YtoamlfmdkbmmpaaGreatDoor.Lift
namespace Go.Proofs.YtoamlfmdkbmmpaaGreatDoor.Lift
set_option linter.unusedSimpArgs false
set_option linter.unusedVariables false
set_option linter.unnecessarySimpa false
open Go
section
section
variable {X:Ctx}{s:St}
theorem z1cj {o:Oper}{x y:Operand}{T:TypeId}(ho:o.op = .makeSlice T x y){d:Nat}(hd:o.dst=some d)(hn:d<X.n)
  {E B:Nat} (he:elemZ X.P T=some (E,B)) (hB:0<B∧B≤1024) {n:Nat} {kl kc:IntKind} {nl nc:Int} {zd:List DV} (hx:evl X (get s) x=some (.v (.prim (.int kl nl)))) (hy:evl X (get s) y=some (.v (.prim (.int kc nc)))) (hnl:nl=(n:Int)) (hnc:nc=(n:Int))
  (hbig:n≤BIG) (hz:zeroE X.P T=some zd) (hzc:cellB zd=true)
  {G:Gh} {a:Act} {w:World} (R:Rel X G s a w) (next:Act→World→Prop) (Q:Exit→Act→World→Prop)
  (hK:∀ b,newB b s→X.w0.heap.size≤b→zd.length=E→∀ G' a' w',Rel X G' (upd (upd s (.slot d) (.one (.v (rawS b n n)))) (.heap b) (.row (arrRow (List.replicate n zd)))) a' w'→next a' w') :
  o.wpIn X.F 0 X.P a w next Q:=by
 have hvx:=(z0o (z0d R hx)).1
 have hvy:=(z0o (z0d R hy)).1
 subst hnl hnc
 obtain ⟨e,i,z,hu,hi,hzv,hzs,his,hib⟩:=z6c he
 have hzz:∃ cs,zeroS z.cells.toList=some cs∧toDs cs=some zd:=by
  simp only [zeroE,hu,zeroT,hi,hzv] at hz
  exact Option.bind_eq_some_iff.1 hz
 obtain ⟨zcs,hz1,hz2⟩:=hzz
 have hrow:RowOf G w zcs z.cells.toList.toArray:=z69 R.nil hz1
 have hzl:zd.length=E:=by
  have:=(z7h hrow hz2).1
  rw [← this]
  simpa using hzs
 unfold BIG at hbig
 have hnb:i.bytes * n≤1024 * n:=Nat.mul_le_mul_right _ (by omega)
 have hbytes:(i.bytes:Int) * (n:Int)≤281474976710656:=by
  have h:((i.bytes * n:Nat):Int)≤281474976710656:=by omega
  rwa [Int.natCast_mul] at h
 have hr:=run_make (P:=X.P) w T e i z hu hi hzv kl kc n n (by omega) (Int.le_refl _) hbytes (by omega)
 simp only [Int.toNat_natCast] at hr
 have hexec:(execOp a.eval o).run X.P w = .ok (.value (.slice (some ⟨w.heap.size,0,none⟩) n n)) (w.alloc (.cells (madeCells z.cells (n * i.size)) e)):=by
  simp [execOp,ho,hvx,hvy,hr]
 refine opIn (by intro c e;rw [ho] at e;cases e) ?_
 rw [hexec,z1y,hd]
 have hp:=z3k a (some d) (.slice (some ⟨w.heap.size,0,none⟩) n n)
 have T':Trans X G a w G (a.put (some d) (.slice (some ⟨w.heap.size,0,none⟩) n n)) (w.alloc (.cells (madeCells z.cells (n * i.size)) e)) (fun _=>False):=by
  refine ⟨hp.1,fun h=>(h.heap fun b hb=>z1t w _ b hb).put hp.2,rfl,rfl,rfl,by simp,fun b hb _=>z1t w _ b hb,fun _ h=>h.elim,fun b k hD=>⟨hD,World.cell?_alloc_lt w _ _ (R.wf.lt hD)⟩,fun b k hD hnD=>absurd hD hnD,R.nil⟩
 refine hK w.heap.size (zaq R) R.ext.size hzl G _ _ (R.newArr hn (w1:=w) rfl T' (E:=E) ?_ ?_ ?_ ?_)
 ·intro e he
  rw [(List.mem_replicate.1 he).2];exact hzl
 ·intro e he d hd
  rw [(List.mem_replicate.1 he).2] at hd
  exact (z6a zd).1 hzc d hd
 ·rw [size_madeCells,List.length_replicate,his];exact Nat.le_refl _
 ·intro i' j e' dd hi' hj
  have hlt:=(List.getElem?_eq_some_iff.1 hi').1
  rw [List.length_replicate] at hlt
  have hm:=(List.mem_replicate.1 (List.mem_of_getElem? hi')).2
  subst hm
  have hjE:j<E:=by rw [← hzl];exact (List.getElem?_eq_some_iff.1 hj).1
  have h1:i' * E+j<n * E:=z2u hlt hjE
  have hr:=(z7h hrow hz2).2 j dd
  simp only [Array.toArray_toList] at hr
  have hjz:j<z.cells.size:=by omega
  refine ⟨z.cells[j],?_,hr _ hj (Array.getElem?_eq_getElem hjz)⟩
  simp only [madeCells]
  rw [Array.getElem?_map,Array.getElem?_range,if_pos (by rw [his];exact h1)]
  simp only [Option.map_some,hzs,zh9 hjE]
  rw [getElem!_pos z.cells j hjz]
theorem zbl {esc:List Nat}{ops:Array Oper}{l:List Oper}{K:St→Prop}{d:Tmp}{x y:Operand}{T ty:TypeId}{pos:String}{af:Array Edge}{q:Option (Prop × St)}
  {E B:Nat} {n:Nat} {kl kc:IntKind} {nl nc:Int} {zd:List DV} (hx:evl X (get s) x=some (.v (.prim (.int kl nl)))) (hy:evl X (get s) y=some (.v (.prim (.int kc nc)))) (hnl:nl=(n:Int)) (hnc:nc=(n:Int))
  (he:elemZ X.P T=some (E,B)) (hz:zeroE X.P T=some zd) (hzc:cellB zd=true) (hB:0<B∧B≤1024) (hn:d<X.n) (hbig:n≤BIG) (hq:q=none)
  (h:∀ b,newB b s→X.w0.heap.size≤b→zd.length=E→vc X esc ops l (upd (upd s (.slot d) (.one (.v (rawS b n n)))) (.heap b) (.row (arrRow (List.replicate n zd)))) K) :
  vcK X esc ops l K ⟨some d,.makeSlice T x y,ty,pos,af,none⟩ s q:=by
 subst hq
 intro m hm G a w R0
 obtain ⟨p1,p3⟩:=z2g hm
 simp only [List.length_cons,List.range'_succ,wpOpsIn,p1,Region.wanted,if_true]
 refine z1cj (o:=⟨some d,.makeSlice T x y,ty,pos,af,none⟩) rfl rfl hn he hB hx hy hnl hnc hbig hz hzc R0 _ _ fun b hb hw hzl G' a' w' R'=>?_
 exact z1c (h b hb hw hzl) (m+1) p3 G' a' w' R'
theorem z1ck {b:Nat}{l r:List SV}{kk:List Item}(hrow:get s (.heap b)=some (.row (l++r)))(h:W X kk (upd s (.heap b) (.row l))):W X kk s:=by
 intro G a w b' cs hf hkk hr R
 refine h G a w b' cs hf hkk hr ?_
 have hb:BlkAt G w b l:=by
  obtain ⟨c,e,h1,h2,h3⟩:=R.holds _ _ hrow
  rw [List.length_append] at h2
  refine ⟨c,e,h1,by omega,fun i x hx=>?_⟩
  have hlt:=(List.getElem?_eq_some_iff.1 hx).1
  exact h3 i x (by rw [List.getElem?_append_left hlt];exact hx)
 have key:∀ l' v,get (upd s (.heap b) (.row l)) l' = some v→∃ v0,get s l' = some v0∧blkOf G l' v=blkOf G l' v0:=by
  intro l' v hl
  rw [z0h] at hl
  split at hl
  ·subst_vars;cases hl;exact ⟨_,hrow,rfl⟩
  ·exact ⟨v,hl,rfl⟩
 refine ⟨R.size,R.defers,R.ext,R.wf,R.nil,fun l v hl=>?_,fun l v l' v' b' hl hl' hb1 hb2=>?_,fun l v b' hl hb1=>?_,fun l v b' o hl hb1 ht=>?_⟩
 ·rw [z0h] at hl
  split at hl
  ·subst_vars;cases hl;exact hb
  ·exact R.holds _ _ hl
 ·obtain ⟨v0,k1,k2⟩:=key _ _ hl
  obtain ⟨v1,k3,k4⟩:=key _ _ hl'
  rw [k2] at hb1
  rw [k4] at hb2
  exact R.sep _ _ _ _ _ k1 k3 hb1 hb2
 ·obtain ⟨v0,k1,k2⟩:=key _ _ hl
  rw [k2] at hb1
  exact R.own _ _ _ k1 hb1
 ·obtain ⟨v0,k1,k2⟩:=key _ _ hl
  rw [k2] at hb1
  exact R.data _ _ _ o k1 hb1 ht
end
end
section
variable {gl:Globs}
theorem z9g:Con1 Tryz.prog gl 78 [] [] (T.ty .list).dv []:=by
 refine t_in Tryz.func78 ?_
 intro X hP hgl hf hfn hn hR hids hfit
 refine t_g0 ?_
 refine t_r ?_
 simp [go_sem,hP,hgl,hn,T.ty] <;> (try omega)
 all_goals exact t_f
theorem z1cl (t:Ty)(hc:t.count≤1073741824):Con1 Tryz.prog gl 153 [t.dv] [] (dint t.count) []:=by
 induction t using Ty.ind with
 | h t ih=>
 refine t_in Tryz.func153 ?_
 intro X hP hgl hf hfn hn hR hids hfit
 have hl1:=Ty.fit_len (hfit t.dv (by simp))
 have hcv:=Ty.count_eq t
 refine t_g0 ?_
 refine t_a ?_
 refine z0c [] (by simp [go_sem]) (by simp [go_sem,Ty.count.counts] <;> omega) (by simp [go_sem]) (z1z (t.args) (fun done rest=>[(.slot 9,.one (.v (dint done.length))),(.slot 8,.one (.v (dint t.args.length))),(.slot 7,.one (.v (.sl (t.args.map Ty.cells)))),(.slot 3,.one (.v (dint (1+Ty.count.counts done:Nat)))),(.slot 2,.one (.v (dint 0)))]) ?_ ?_)
 ·intro done x rest hL hg0 hnext
  have hlt:done.length<t.args.length:=by rw [hL];simp
  have hxm:=List.mem_of_getElem? hg0
  have hca:=Ty.counts_append done (x::rest)
  have hcs:=Ty.counts_append done [x]
  rw [← hL] at hca
  simp only [Ty.count.counts] at hca hcs
  refine z00 ?_
  refine z07 ?_
  refine t_g @hg0 ?_
  refine t_c1 @hg0 (ih x hxm (by omega)) ?_
  refine t_gt (wr []) @hcs trivial hnext
 ·refine z00 ?_
  refine t_no ?_
  refine t_g0 ?_
  refine t_r ?_
  simp [go_sem,hP,hgl,hn,hcv] <;> (try omega)
def joinE (k:Int)(a b:Ty):Ty × Int:=if 64<(Ty.mk k [a,b]).count then (zeroTy,4) else (Ty.mk k [a,b],0)
theorem zl7 (k:Int)(a b:Ty)(hc:(Ty.mk k [a,b]).count≤1073741824):Con1 Tryz.prog gl 123 [dint k,a.dv,b.dv] [] (.tup [(joinE k a b).1.dv,dint (joinE k a b).2]) []:=by
 refine t_in Tryz.func123 ?_
 intro X hP hgl hf hfn hn hR hids hfit
 have ha:=Ty.fold a
 have hb:=Ty.fold b
 have hab:=Ty.fold (Ty.mk k [a,b])
 have hcc:(Ty.mk k [a,b]).dv = .agg [dint k,.sl [a.cells,b.cells]]:=rfl
 refine t_g0 ?_
 refine t_c1 (j2 @ha (j2 @hb (j2 @hab @hcc))) (z1cl (Ty.mk k [a,b]) hc) ?_
 by_cases h:64<(Ty.mk k [a,b]).count
 ·refine t_g @h ?_
  refine t_r ?_
  simp [go_sem,hP,hgl,hn,joinE,h,zeroTy] <;> (try omega)
  all_goals exact t_f
 ·refine t_g @h ?_
  refine t_r ?_
  simp [go_sem,hP,hgl,hn,joinE,h] <;> (try omega)
  all_goals exact t_f
theorem z7g (a b:Ty)(hc:(Ty.mk 4 [a,b]).count≤1073741824):Con1 Tryz.prog gl 80 [a.dv,b.dv] [] (.tup [(joinE 4 a b).1.dv,dint (joinE 4 a b).2]) []:=by
 refine t_in Tryz.func80 ?_
 intro X hP hgl hf hfn hn hR hids hfit
 have ha:=Ty.fold a
 have hb:=Ty.fold b
 refine t_g0 ?_
 refine t_c1 (j2 @ha @hb) (zl7 4 a b hc) ?_
 refine t_r ?_
 simp [go_sem,hP,hgl,hn] <;> (try omega)
theorem zl8 (a b:Ty)(hc:(Ty.mk 3 [a,b]).count≤1073741824):Con1 Tryz.prog gl 95 [a.dv,b.dv] [] (.tup [(joinE 3 a b).1.dv,dint (joinE 3 a b).2]) []:=by
 refine t_in Tryz.func95 ?_
 intro X hP hgl hf hfn hn hR hids hfit
 have ha:=Ty.fold a
 have hb:=Ty.fold b
 refine t_g0 ?_
 refine t_c1 (j2 @ha @hb) (zl7 3 a b hc) ?_
 refine t_r ?_
 simp [go_sem,hP,hgl,hn] <;> (try omega)
theorem zl9 (y:Ty):joinE 3 natY y=(pairY y,pairErr y):=by
 unfold joinE pairY pairErr
 have:(Ty.mk 3 [natY,y]).count=y.count+2:=by show 1+(1+(y.count+0))=_;omega
 rw [this]
 split
 ·rw [if_neg (by omega),if_neg (by omega)]
 ·rw [if_pos (by omega),if_pos (by omega)]
end
section
variable {gl:Globs}
def CntOK (gl:Globs)(a:T):Prop:=Con1 Tryz.prog gl 51 [a.ty.dv] [] (.tup [(cntY a).dv,dint (cntErr a)]) []
theorem zel (t:Ty)(ha:t.args=[])(h4:¬ t.kind=4)(h0:t.checkN=0):Con1 Tryz.prog gl 51 [t.dv] [] (.tup [t.dv,dint 0]) []:=by
 have hc:=z74 (gl:=gl) t (by rw [Ty.count_eq,ha];decide)
 rw [h0] at hc
 have hfd:=Ty.fold t
 rw [ha] at hfd
 simp only [List.map_nil] at hfd
 refine t_in Tryz.func51 ?_
 intro X hP hgl hf hfn hn hR hids hfit
 refine t_g @ha ?_
 refine z0n ?_
 refine t_rg @ha ?_
 refine t_no ?_
 refine t_g @h4 ?_
 refine t_c1 (j2 @h4 (j2 @hfd @ha)) hc ?_
 refine t_g0 ?_
 refine t_r ?_
 simp [go_sem,hP,hgl,hn] <;> (try omega)
theorem z1cm (x y Xa Ya:Ty)(e1 e2:Int)(hx:Con1 Tryz.prog gl 51 [x.dv] [] (.tup [Xa.dv,dint e1]) [])(hy:Con1 Tryz.prog gl 51 [y.dv] [] (.tup [Ya.dv,dint e2]) [])(hc:(Ty.mk 3 [Xa,Ya]).count≤1000000) :
  Con1 Tryz.prog gl 51 [(Ty.mk 3 [x,y]).dv] [] (if e1=0 then if e2=0 then if (Ty.mk 3 [Xa,Ya]).checkN=0 then .tup [(Ty.mk 3 [Xa,Ya]).dv,dint 0] else .tup [zeroTy.dv,dint (Ty.mk 3 [Xa,Ya]).checkN] else .tup [zeroTy.dv,dint e2] else .tup [zeroTy.dv,dint e1]) []:=by
 have hck:=z74 (gl:=gl) (Ty.mk 3 [Xa,Ya]) (by omega)
 have hfx:=Ty.fold x
 have hfy:=Ty.fold y
 have hd:(Ty.mk 3 [x,y]).dv = .agg [dint 3,.sl [x.cells,y.cells]]:=rfl
 have hD:(Ty.mk 3 [Xa,Ya]).dv = .agg [dint 3,.sl [Xa.cells,Ya.cells]]:=rfl
 have hcx:=Ty.cells_eq x
 have hcy:=Ty.cells_eq y
 have hcX:=Ty.cells_eq Xa
 have hcY:=Ty.cells_eq Ya
 have hz:zeroTy.dv = .agg [dint 0,.sl []]:=rfl
 rw [hd]
 refine t_in Tryz.func51 ?_
 intro X hP hgl hf hfn hn hR hids hfit
 refine t_g0 ?_
 refine z0n ?_
 refine z00 ?_
 refine z07 ?_
 refine t_g @hcx ?_
 refine t_c1 @hfx hx ?_
 by_cases h1:e1=0
 ·rw [if_pos h1] at hR
  refine t_g @h1 ?_
  refine z0c [(1035,35)] (s':=[(.slot 16,.one (.v (.sl [x.cells,y.cells]))),(.slot 17,.one (.v (dint 2))),(.slot 18,.one (.v (dint 1))),(.slot 1,.one (.loc 1 0)),(.loc 1,.row ([.v (dint 3),.v (.sl [x.cells,y.cells])])),(.slot 2,.one (.loc 2 0)),(.loc 2,.row ([.v (dint 0),.own 0 []])),(.slot 4,.one (.loc 4 0)),(.loc 4,.row ([.v (dint 3),.own 1035 [[dint Xa.kind,.sl (Xa.args.map Ty.cells)]]])),(.tok 1035,.tk 2 1)]) (by simp [go_sem]) (by simp [go_sem,hcx,hcy]) (by simp [go_sem]) ?_
  refine z0j ?_
  refine z00 ?_
  refine z07 ?_
  refine t_g @hcy ?_
  refine t_c1 @hfy hy ?_
  by_cases h2:e2=0
  ·rw [if_pos h2] at hR
   refine t_g @h2 ?_
   refine z0j ?_
   refine z00 ?_
   refine t_no ?_
   refine t_g0 ?_
   refine t_c1 (j2 @hD (j2 @hcX @hcY)) hck ?_
   by_cases h3:(Ty.mk 3 [Xa,Ya]).checkN=0
   ·rw [if_pos h3,hD] at hR
    refine t_g @h3 ?_
    refine t_r ?_
    simp [go_sem,hP,hgl,hn,hcX,hcY] <;> (try omega)
   ·rw [if_neg h3] at hR
    refine t_g @h3 ?_
    refine t_r ?_
    simp [go_sem,hP,hgl,hn,hz] <;> (try omega)
  ·rw [if_neg h2] at hR
   refine t_g @h2 ?_
   refine t_r ?_
   simp [go_sem,hP,hgl,hn,hz] <;> (try omega)
 ·rw [if_neg h1] at hR
  refine t_g @h1 ?_
  refine t_r ?_
  simp [go_sem,hP,hgl,hn,hz] <;> (try omega)
set_option maxHeartbeats 1000000 in
set_option maxRecDepth 100000 in
theorem z1cn (x y Xa Ya:Ty)(e1 e2:Int)(hx:Con1 Tryz.prog gl 51 [x.dv] [] (.tup [Xa.dv,dint e1]) [])(hy:Con1 Tryz.prog gl 51 [y.dv] [] (.tup [Ya.dv,dint e2]) [])(hXa:Xa.count≤1000000)(hY:Ya.count≤1000000) :
  Con1 Tryz.prog gl 51 [(Ty.mk 4 [x,y]).dv] [] (if e1=0 then if e2=0 then if pairErr Ya=0 then if (Ty.mk 4 [Xa,pairY Ya]).checkN=0 then .tup [(Ty.mk 4 [Xa,pairY Ya]).dv,dint 0] else .tup [zeroTy.dv,dint (Ty.mk 4 [Xa,pairY Ya]).checkN] else .tup [zeroTy.dv,dint (pairErr Ya)] else .tup [zeroTy.dv,dint e2] else .tup [zeroTy.dv,dint e1]) []:=by
 have wp:=zl8 (gl:=gl) natY Ya (by show 1+(1+(Ya.count+0))≤_;omega)
 rw [zl9] at wp
 have hWc:(pairY Ya).count≤1000002:=by
  unfold pairY
  split
  ·show 1+(1+(Ya.count+0))≤_;omega
  ·show 1+0≤1000002;omega
 have hck:=z74 (gl:=gl) (Ty.mk 4 [Xa,pairY Ya]) (by show 1+(Xa.count+((pairY Ya).count+0))≤_;omega)
 have hfx:=Ty.fold x
 have hfy:=Ty.fold y
 have hfY:=Ty.fold Ya
 have hd:(Ty.mk 4 [x,y]).dv = .agg [dint 4,.sl [x.cells,y.cells]]:=rfl
 have hD:(Ty.mk 4 [Xa,pairY Ya]).dv = .agg [dint 4,.sl [Xa.cells,(pairY Ya).cells]]:=rfl
 have hcx:=Ty.cells_eq x
 have hcy:=Ty.cells_eq y
 have hcX:=Ty.cells_eq Xa
 have hcY:=Ty.cells_eq Ya
 have hcW:=Ty.cells_eq (pairY Ya)
 have hz:zeroTy.dv = .agg [dint 0,.sl []]:=rfl
 rw [hd]
 refine t_in Tryz.func51 ?_
 intro X hP hgl hf hfn hn hR hids hfit
 refine t_g0 ?_
 refine z0n ?_
 refine z00 ?_
 refine z07 ?_
 refine t_g @hcx ?_
 refine t_c1 @hfx hx ?_
 by_cases h1:e1=0
 rotate_left
 ·rw [if_neg h1] at hR
  refine t_g @h1 ?_
  refine t_r ?_
  simp [go_sem,hP,hgl,hn,hz] <;> (try omega)
 rw [if_pos h1] at hR
 refine t_rg @h1 ?_
 refine t_n @h1 ?_
 repeat (first|refine z0a ?_|refine z01 ?_|refine z0b ?_|refine z03 ?_|refine z02 ?_|refine z04 rfl ?_)
 refine z05 [35] fun K hK=>?_
 simp [go_sem,hP,hgl,hn]
 refine z16e (E:=2) (B:=32) (zs:=[[dint Xa.kind,.sl (Xa.args.map Ty.cells)]]) (zd:=[dint 0,.sl []]) (by simp [go_sem]) (by simp [go_sem]) (by simp [go_sem,hP]) (by rw [hP];kernel_rfl) rfl (by decide) (by rw [hP];rfl) (by rw [hn];exact Nat.le_of_ble_eq_true rfl) (by simp) (by simp;unfold BIG;omega) (by simp) rfl ?_
 intro b cap hcap hnb hbs
 have hcap1:1≤cap:=hcap
 obtain ⟨full,hfu⟩:∃ full,full=[[dint Xa.kind,.sl (Xa.args.map Ty.cells)]]++List.replicate (cap - 1) [dint 0,DV.sl []]:=⟨_,rfl⟩
 have hfl:full.length=cap:=by rw [hfu];simp;omega
 have hfw:∀ e ∈ full,e.length=2:=by
  intro e he
  rw [hfu] at he
  rcases List.mem_append.1 he with he|he
  ·rw [List.mem_singleton.1 he];rfl
  ·rw [(List.mem_replicate.1 he).2];rfl
 have hft:full.take 1=[[dint Xa.kind,.sl (Xa.args.map Ty.cells)]]:=by rw [hfu];rfl
 simp only [List.length_singleton]
 rw [← hfu]
 clear hfu
 simp [go_sem,hP,hgl,hn]
 refine t_e ?_
 clear hK K
 refine z00 ?_
 refine z0c [] (s':=[(.slot 16,.one (.v (.sl [x.cells,y.cells]))),(.slot 17,.one (.v (dint 2))),(.slot 18,.one (.v (dint 1))),(.slot 1,.one (.loc 1 0)),(.loc 1,.row ([.v (dint 4),.v (.sl [x.cells,y.cells])])),(.slot 2,.one (.loc 2 0)),(.loc 2,.row ([.v (dint 0),.own 0 []])),(.slot 4,.one (.loc 4 0)),(.loc 4,.row ([.v (dint 4),.v (rawS b 1 cap)])),(.heap  b,.row (arrRow full))]) (by simp [go_sem]) (by simp [go_sem,hcx,hcy,z16l]) (by simp [go_sem]) ?_
 refine z0j ?_
 refine z00 ?_
 refine z07 ?_
 refine t_g @hcy ?_
 refine t_c1 @hfy hy ?_
 by_cases h2:e2=0
 rotate_left
 ·rw [if_neg h2] at hR
  refine t_g @h2 ?_
  refine t_r ?_
  simp [go_sem,hP,hgl,hn,hz] <;> (try omega)
 rw [if_pos h2] at hR
 refine t_rg @h2 ?_
 refine t_n @h2 ?_
 repeat (first|refine z0a ?_|refine z01 ?_|refine z0b ?_|refine z03 ?_|refine z02 ?_|refine z04 rfl ?_)
 refine z05 [35] fun K hK=>?_
 simp [go_sem,hP,hgl,hn]
 refine z16f rfl (zhy (q:=some b) (E:=2) (B:=32) (n:=1) (cap:=cap) (full:=full) (zs:=[[dint Ya.kind,.sl (Ya.args.map Ty.cells)]]) (zd:=[dint 0,.sl []]) rfl rfl (by rw [hn];exact Nat.le_of_ble_eq_true rfl) (by simp [go_sem,hP]) (by decide) (by rw [hP];rfl) (by simp [go_sem,hP,hgl,hn]) (by simp [go_sem,hP,hgl,hn]) (fun b' hb'=>by cases hb';simp [go_sem]) (fun h=>by cases h) hfl hcap1 (by simp) (by simp;unfold BIG;omega) hfw (by simp) (by rw [hP];kernel_rfl) rfl) rfl ?_
 rintro q b2 cs ⟨cap2,full2,rfl,rfl,f1,f2,f3,f4,f9⟩ hnb2
 simp only [List.length_singleton] at f3 f4
 have f5:full2.take 2=[[dint Xa.kind,.sl (Xa.args.map Ty.cells)],[dint Ya.kind,.sl (Ya.args.map Ty.cells)]]:=by rw [f4,hft];rfl
 have f6:full2[1]? = some [dint Ya.kind,.sl (Ya.args.map Ty.cells)]:=by
  have:=congrArg (fun l=>l[1]?) f5
  simpa [List.getElem?_take] using this
 have f7:full2[0]? = some [dint Xa.kind,.sl (Xa.args.map Ty.cells)]:=by
  have:=congrArg (fun l=>l[0]?) f5
  simpa [List.getElem?_take] using this
 have hrd:toDs (List.take 2 (List.drop 2 (arrRow full2)))=some [dint Ya.kind,.sl (Ya.args.map Ty.cells)]:=by simpa using z16n f2 f6
 have hput:=zgo (ys:=full2) (E:=2) f2 (i:=1) (by omega) (z:=[dint (pairY Ya).kind,.sl ((pairY Ya).args.map Ty.cells)]) rfl
 have f8:arrRow full2=[.v (dint Xa.kind),.v (.sl (Xa.args.map Ty.cells)),.v (dint Ya.kind),.v (.sl (Ya.args.map Ty.cells))]++arrRow (full2.drop 2):=by
  conv=>lhs;rw [← List.take_append_drop 2 full2,z6r,f5]
  rfl
 simp [effO,delO,go_sem,hP,hgl,hn]
 refine t_e ?_
 clear hK K
 refine z1ck (b:=b2) (by rw [← f8];simp [go_sem]) ?_
 simp [go_sem]
 refine z00 ?_
 refine z0j ?_
 refine z00 ?_
 refine t_no ?_
 refine t_g0 ?_
 refine t_c2 @hfY z50 wp ?_
 by_cases h3:pairErr Ya=0
 rotate_left
 ·rw [if_neg h3] at hR
  refine t_g @h3 ?_
  refine t_r ?_
  simp [go_sem,hP,hgl,hn,hz] <;> (try omega)
 rw [if_pos h3] at hR
 refine t_rg @h3 ?_
 refine t_n @h3 ?_
 refine z00 ?_
 refine z7v (b:=b2) (E:=2) (ys:=[[dint Xa.kind,.sl (Xa.args.map Ty.cells)],[dint (pairY Ya).kind,.sl ((pairY Ya).args.map Ty.cells)]]) (by simp [go_sem];rfl) (by simp) (by simp;unfold BIG;omega) (by rcases f9 with h|h;(cases h;exact hbs);exact h.1) ?_
 have hfz:frzSV b2 [[dint Xa.kind,.sl (Xa.args.map Ty.cells)],[dint (pairY Ya).kind,.sl ((pairY Ya).args.map Ty.cells)]] (.v (.prim (.slice (some ⟨b2,0,none⟩) 2 cap2))) = .v (.sl [[dint Xa.kind,.sl (Xa.args.map Ty.cells)],[dint (pairY Ya).kind,.sl ((pairY Ya).args.map Ty.cells)]]):=z8j rfl f3
 simp [go_sem,frz,frzLV,frzRow,z87,z88,z89,z8a,z8b,z8c,z8d,z8e,z8f,z8g,z8h,z8i,hfz]
 refine t_g0 ?_
 refine t_c1 (j2 @hD (j2 @hcX @hcW)) hck ?_
 by_cases h4:(Ty.mk 4 [Xa,pairY Ya]).checkN=0
 ·rw [if_pos h4,hD] at hR
  refine t_g @h4 ?_
  refine t_r ?_
  simp [go_sem,hP,hgl,hn,hcX,hcW] <;> (try omega)
 ·rw [if_neg h4] at hR
  refine t_g @h4 ?_
  refine t_r ?_
  simp [go_sem,hP,hgl,hn,hz] <;> (try omega)
theorem z1a (a:T):CntOK gl a:=by
 have cz:(zeroTy).count≤64:=by decide
 have cc:∀ a:T,(cntY a).count≤64:=fun a=>by
  unfold cntY
  split
  ·rw [T.ty_count];assumption
  ·exact cz
 have chk:∀ a:T,(a.ty).checkN=if a.size≤64 then 0 else 4:=fun a=>by
  unfold Ty.checkN
  rw [if_pos a.ty_shape,T.ty_count]
  split <;> split <;> first|rfl|omega
 induction a with
 | nat=>exact zel (Ty.mk 1 []) rfl (by decide) rfl
 | list=>exact zel (Ty.mk 2 []) rfl (by decide) rfl
 | unit=>exact zel (Ty.mk 5 []) rfl (by decide) rfl
 | pair a b iha ihb=>
  have c1:=cc a
  have c2:=cc b
  have w:=z1cm (gl:=gl) a.ty b.ty (cntY a) (cntY b) (cntErr a) (cntErr b) iha ihb (by show 1+((cntY a).count+((cntY b).count+0))≤_;omega)
  have hsz:(T.pair a b).tk.size=1+a.tk.size+b.tk.size:=rfl
  have hpa:=chk (T.pair a b).tk
  unfold CntOK
  have e:(if cntErr a=0 then if cntErr b=0 then if (Ty.mk 3 [cntY a,cntY b]).checkN=0 then DV.tup [(Ty.mk 3 [cntY a,cntY b]).dv,dint 0] else .tup [zeroTy.dv,dint (Ty.mk 3 [cntY a,cntY b]).checkN] else .tup [zeroTy.dv,dint (cntErr b)] else .tup [zeroTy.dv,dint (cntErr a)]) = .tup [(cntY (.pair a b)).dv,dint (cntErr (.pair a b))]:=by
   unfold cntErr cntY
   rw [hsz] at *
   by_cases h1:a.tk.size≤64
   ·by_cases h2:b.tk.size≤64
    ·simp only [h1,h2,if_true]
     have:(Ty.mk 3 [a.tk.ty,b.tk.ty]).checkN=if 1+a.tk.size+b.tk.size≤64 then 0 else 4:=hpa
     rw [this]
     by_cases h3:1+a.tk.size+b.tk.size≤64
     ·simp only [h3,if_true];rfl
     ·simp only [h3,if_false];rfl
    ·rw [if_neg (show ¬ 1+a.tk.size+b.tk.size≤64 by omega),if_neg (show ¬ 1+a.tk.size+b.tk.size≤64 by omega)]
     simp only [h1,h2,if_true,if_false];rfl
   ·rw [if_neg (show ¬ 1+a.tk.size+b.tk.size≤64 by omega),if_neg (show ¬ 1+a.tk.size+b.tk.size≤64 by omega)]
    simp only [h1,if_false];rfl
  rw [← e]
  exact w
 | fn a b iha ihb=>
  have c1:=cc a
  have c2:=cc b
  have w:=z1cn (gl:=gl) a.ty b.ty (cntY a) (cntY b) (cntErr a) (cntErr b) iha ihb (by omega) (by omega)
  have hsz:(T.fn a b).tk.size=1+a.tk.size+(1+1+b.tk.size):=rfl
  have hpa:=chk (T.fn a b).tk
  unfold CntOK
  have e:(if cntErr a=0 then if cntErr b=0 then if pairErr (cntY b)=0 then if (Ty.mk 4 [cntY a,pairY (cntY b)]).checkN=0 then DV.tup [(Ty.mk 4 [cntY a,pairY (cntY b)]).dv,dint 0] else .tup [zeroTy.dv,dint (Ty.mk 4 [cntY a,pairY (cntY b)]).checkN] else .tup [zeroTy.dv,dint (pairErr (cntY b))] else .tup [zeroTy.dv,dint (cntErr b)] else .tup [zeroTy.dv,dint (cntErr a)]) = .tup [(cntY (.fn a b)).dv,dint (cntErr (.fn a b))]:=by
   unfold cntErr cntY
   rw [hsz] at *
   by_cases h1:a.tk.size≤64
   ·by_cases h2:b.tk.size≤64
    ·simp only [h1,h2,if_true]
     unfold pairErr pairY
     rw [T.ty_count]
     by_cases h3:b.tk.size+2≤64
     ·simp only [h3,if_true]
      have:(Ty.mk 4 [a.tk.ty,Ty.mk 3 [natY,b.tk.ty]]).checkN=if 1+a.tk.size+(1+1+b.tk.size)≤64 then 0 else 4:=hpa
      rw [this]
      by_cases h4:1+a.tk.size+(1+1+b.tk.size)≤64
      ·simp only [h4,if_true];rfl
      ·simp only [h4,if_false];rfl
     ·rw [if_neg (show ¬ 1+a.tk.size+(1+1+b.tk.size)≤64 by omega),if_neg (show ¬ 1+a.tk.size+(1+1+b.tk.size)≤64 by omega)]
      simp only [h3,if_false];rfl
    ·rw [if_neg (show ¬ 1+a.tk.size+(1+1+b.tk.size)≤64 by omega),if_neg (show ¬ 1+a.tk.size+(1+1+b.tk.size)≤64 by omega)]
     simp only [h1,h2,if_true,if_false];rfl
   ·rw [if_neg (show ¬ 1+a.tk.size+(1+1+b.tk.size)≤64 by omega),if_neg (show ¬ 1+a.tk.size+(1+1+b.tk.size)≤64 by omega)]
    simp only [h1,if_false];rfl
  rw [← e]
  exact w
end
section
variable {gl:Globs}
theorem z62 (b:Nat)(e f:Int):Con1 Tryz.prog gl 79 [ptr b,dint f] [(b,mk1 e)] (.tup []) [(b,mk1 (failE e f))]:=by
 refine t_in Tryz.func79 ?_
 intro X hP hgl hf hfn hn hR hids hfit
 by_cases h:e=0
 ·refine t_g @h ?_
  repeat (first|refine z0a ?_|refine z01 ?_|refine z0b ?_|refine z03 ?_|refine z02 ?_|refine z04 rfl ?_)
  first|refine z0k hP hf hfn _ ([(b,mk1 (failE e f))]) (by first|(simp [go_sem,hP,hgl,hn,failE,h];done)|(simp [go_sem,hP,hgl,hn,failE,h];rfl)) (by simp [go_sem,hP,hgl,hn,failE,h]) (by simp) ?_ hR.2|refine z0m hP hf hfn _ ([(b,mk1 (failE e f))]) (by first|(simp [go_sem,hP,hgl,hn,failE,h];done)|(simp [go_sem,hP,hgl,hn,failE,h];rfl)) (by simp [go_sem,hP,hgl,hn,failE,h]) (by simp) ?_ hR.2
  rw [hR.1]
  refine ⟨?_,by simp [failE,h]⟩
  try simp [failE,h]
  try all_goals (simp [Ty.dv,Ty.cells_eq,Ty.kind_mk,Ty.args_mk,Tm.dv,Tm.cells_eq,Tm.kind_mk,Tm.index_mk,Tm.type_mk,Tm.args_mk,Val.dv,Val.cells_eq,Val.kind_mk,Val.num_mk,Val.list_mk,Val.args_mk,ints])
 ·refine t_g @h ?_
  repeat (first|refine z0a ?_|refine z01 ?_|refine z0b ?_|refine z03 ?_|refine z02 ?_|refine z04 rfl ?_)
  first|refine z0k hP hf hfn _ ([(b,mk1 (failE e f))]) (by first|(simp [go_sem,hP,hgl,hn,failE,h];done)|(simp [go_sem,hP,hgl,hn,failE,h];rfl)) (by simp [go_sem,hP,hgl,hn,failE,h]) (by simp) ?_ hR.2|refine z0m hP hf hfn _ ([(b,mk1 (failE e f))]) (by first|(simp [go_sem,hP,hgl,hn,failE,h];done)|(simp [go_sem,hP,hgl,hn,failE,h];rfl)) (by simp [go_sem,hP,hgl,hn,failE,h]) (by simp) ?_ hR.2
  rw [hR.1]
  refine ⟨?_,by simp [failE,h]⟩
  try simp [failE,h]
  try all_goals (simp [Ty.dv,Ty.cells_eq,Ty.kind_mk,Ty.args_mk,Tm.dv,Tm.cells_eq,Tm.kind_mk,Tm.index_mk,Tm.type_mk,Tm.args_mk,Val.dv,Val.cells_eq,Val.kind_mk,Val.num_mk,Val.list_mk,Val.args_mk,ints])
theorem z44 (b:Nat)(e k:Int)(s:Ty)(l:List Tm)(hc:(Tm.mk k 0 s l).count≤1073741824) :
  Con1 Tryz.prog gl 81 [ptr b,dint k,s.dv,.sl (l.map Tm.cells)] [(b,mk1 e)] (nodeE e k s l).1.dv [(b,mk1 (nodeE e k s l).2)]:=by
 refine t_in Tryz.func81 ?_
 intro X hP hgl hf hfn hn hR hids hfit
 by_cases h:e=0
 ·have hne:nodeE e k s l=buildN k s l:=by unfold nodeE;rw [if_pos h]
  have w:=z62 (gl:=gl) b 0 (buildN k s l).2
  have hz:failE 0 (buildN k s l).2=(buildN k s l).2:=rfl
  rw [hz] at w
  rw [hne] at hR
  refine t_g @h ?_
  refine t_c1 @h (z172 k s l hc) ?_
  refine t_c1 @h w ?_
  refine t_g0 ?_
  refine t_ro [(b,mk1 (buildN k s l).2)] trivial ?_
  try simp
  try all_goals exact t_f
 ·have hne:nodeE e k s l=(zeroTm,e):=by unfold nodeE;rw [if_neg h]
  rw [hne] at hR
  refine t_g @h ?_
  repeat (first|refine z0a ?_|refine z01 ?_|refine z0b ?_|refine z03 ?_|refine z02 ?_|refine z04 rfl ?_)
  first|refine z0k hP hf hfn _ ([(b,mk1 e)]) (by first|(simp [go_sem,hP,hgl,hn,zeroTm];done)|(simp [go_sem,hP,hgl,hn,zeroTm];rfl)) (by simp [go_sem,hP,hgl,hn,zeroTm]) (by simp) ?_ hR.2|refine z0m hP hf hfn _ ([(b,mk1 e)]) (by first|(simp [go_sem,hP,hgl,hn,zeroTm];done)|(simp [go_sem,hP,hgl,hn,zeroTm];rfl)) (by simp [go_sem,hP,hgl,hn,zeroTm]) (by simp) ?_ hR.2
  rw [hR.1]
  refine ⟨?_,by simp [zeroTm]⟩
  try simp [zeroTm]
  try all_goals (simp [Ty.dv,Ty.cells_eq,Ty.kind_mk,Ty.args_mk,Tm.dv,Tm.cells_eq,Tm.kind_mk,Tm.index_mk,Tm.type_mk,Tm.args_mk,Val.dv,Val.cells_eq,Val.kind_mk,Val.num_mk,Val.list_mk,Val.args_mk,ints])
theorem z1r (b:Nat)(e k:Int)(l:List Tm)(hc:(Tm.mk k 0 zY l).count≤1073741824) :
  Con1 Tryz.prog gl 85 [ptr b,dint k,.sl (l.map Tm.cells)] [(b,mk1 e)] (nodeE e k zY l).1.dv [(b,mk1 (nodeE e k zY l).2)]:=by
 refine t_in Tryz.func85 ?_
 intro X hP hgl hf hfn hn hR hids hfit
 have hz0:DV.agg [dint 0,DV.sl []]=zY.dv:=rfl
 refine t_g0 ?_
 refine t_c1 @hz0 (z44 b e k zY l hc) ?_
 refine t_ro [(b,mk1 (nodeE e k zY l).2)] trivial ?_
 try simp
 try all_goals exact t_f
theorem cnt1 (k:Int)(s:Ty)(x:Tm):(Tm.mk k 0 s [x]).count=1+(x.count+0):=rfl
theorem cnt2 (k:Int)(s:Ty)(x y:Tm):(Tm.mk k 0 s [x,y]).count=1+(x.count+(y.count+0)):=rfl
theorem cnt3 (k:Int)(s:Ty)(x y z:Tm):(Tm.mk k 0 s [x,y,z]).count=1+(x.count+(y.count+(z.count+0))):=rfl
theorem z1b (b:Nat)(e i:Int):Con1 Tryz.prog gl 84 [ptr b,dint i] [(b,mk1 e)] (fstE e i).1.dv [(b,mk1 (fstE e i).2)]:=by
 refine t_in Tryz.func84 ?_
 intro X hP hgl hf hfn hn hR hids hfit
 unfold fstE at hR
 have hfx:=Tm.fold (vT i)
 refine t_g0 ?_
 refine t_c2 @hfx (z5p i) (z1r b e 11 [vT i] (by rw [cnt1];show 1+(1+0+0)≤_;omega)) ?_
 refine t_ro [(b,mk1 (nodeE e 11 zY [vT i]).2)] trivial ?_
 try simp
 try all_goals exact t_f
theorem z0x (b:Nat)(e i:Int):Con1 Tryz.prog gl 86 [ptr b,dint i] [(b,mk1 e)] (sndE e i).1.dv [(b,mk1 (sndE e i).2)]:=by
 refine t_in Tryz.func86 ?_
 intro X hP hgl hf hfn hn hR hids hfit
 unfold sndE at hR
 have hfx:=Tm.fold (vT i)
 refine t_g0 ?_
 refine t_c2 @hfx (z5p i) (z1r b e 12 [vT i] (by rw [cnt1];show 1+(1+0+0)≤_;omega)) ?_
 refine t_ro [(b,mk1 (nodeE e 12 zY [vT i]).2)] trivial ?_
 try simp
 try all_goals exact t_f
theorem z2f (b:Nat)(e:Int)(x y:Tm)(hx:x.count≤268435456)(hy:y.count≤268435456) :
  Con1 Tryz.prog gl 76 [ptr b,x.dv,y.dv] [(b,mk1 e)] (nodeE e 10 zY [x,y]).1.dv [(b,mk1 (nodeE e 10 zY [x,y]).2)]:=by
 refine t_in Tryz.func76 ?_
 intro X hP hgl hf hfn hn hR hids hfit
 have hfx:=Tm.fold x
 have hfy:=Tm.fold y
 refine t_g0 ?_
 refine t_c1 (j2 @hfx @hfy) (z1r b e 10 [x,y] (by rw [cnt2];omega)) ?_
 refine t_ro [(b,mk1 (nodeE e 10 zY [x,y]).2)] trivial ?_
 try simp
 try all_goals exact t_f
theorem z1i (b:Nat)(e:Int)(s:Ty)(x y:Tm)(hx:x.count≤268435456)(hy:y.count≤268435456) :
  Con1 Tryz.prog gl 82 [ptr b,s.dv,x.dv,y.dv] [(b,mk1 e)] (letE e s x y).1.dv [(b,mk1 (letE e s x y).2)]:=by
 have c1:=z06 e 2 s [y]
 have w1:=z44 (gl:=gl) b e 2 s [y] (by rw [cnt1];omega)
 refine t_in Tryz.func82 ?_
 intro X hP hgl hf hfn hn hR hids hfit
 unfold letE at hR
 have hfx:=Tm.fold x
 have hfy:=Tm.fold y
 have hfs:=Ty.fold s
 generalize nodeE e 2 s [y]=r1 at *
 obtain ⟨f1,e1⟩:=r1
 simp only at hR w1 c1
 have hf1:=Tm.fold f1
 refine t_g0 ?_
 refine t_c2 (j2 @hfx (j2 @hfy (j2 @hfs @hf1))) w1 (z1r b e1 3 [f1,x] (by rw [cnt2];omega)) ?_
 refine t_ro [(b,mk1 (nodeE e1 3 zY [f1,x]).2)] trivial ?_
 try simp
 try all_goals exact t_f
theorem z63 (t:Tm)(n:Int)(hs:t.shape=true)(hi:t.idx 549755813888)(hb1:0≤n)(hb2:n≤1048576)(hfc:t.count≤549755813888):Con1 Tryz.prog gl 88 [t.dv,dint n] [] (t.upN 0 n).dv []:=by
 have w:=z173 (gl:=gl) t 0 n hs hi hb1 hb2 (by decide) (by omega)
 refine t_in Tryz.func88 ?_
 intro X hP hgl hf hfn hn hR hids hfit
 have hft:=Tm.fold t
 refine t_g0 ?_
 refine t_c1 @hft w ?_
 refine t_r ?_
 simp [go_sem,hP,hgl,hn] <;> (try omega)
theorem z1j (b:Nat)(e:Int)(a:T)(hc:CntOK gl a):Con1 Tryz.prog gl 83 [ptr b,a.ty.dv] [(b,mk1 e)] (withE e a).1.dv [(b,mk1 (withE e a).2)]:=by
 refine t_in Tryz.func83 ?_
 intro X hP hgl hf hfn hn hR hids hfit
 have hcc:(cntY a).count≤64:=by
  unfold cntY
  split
  ·rw [T.ty_count];assumption
  ·show 1+0≤64;omega
 have hfa:=Ty.fold a.ty
 have hfc:=Ty.fold (cntY a)
 have w1:=zl8 (gl:=gl) natY (cntY a) (by show 1+(1+((cntY a).count+0))≤_;omega)
 rw [zl9] at w1
 have w2:=z62 (gl:=gl) b e (cntErr a)
 have w3:=z62 (gl:=gl) b (failE e (cntErr a)) (pairErr (cntY a))
 unfold CntOK at hc
 unfold withE at hR
 generalize a.ty=ta at *
 refine t_g0 ?_
 refine t_c1 (j2 @hfa @hfc) hc ?_
 refine t_c1 (j2 @hfa @hfc) w2 ?_
 refine t_c2 (j2 @hfa @hfc) z50 w1 ?_
 refine t_c1 (j2 @hfa @hfc) w3 ?_
 refine t_g0 ?_
 refine t_ro [(b,mk1 (failE (failE e (cntErr a)) (pairErr (cntY a))))] trivial ?_
 try simp
 try all_goals exact t_f
end
section
variable {gl:Globs}
theorem zbm (b:Nat)(ys:List (List DV))(t:Ty):frzSV b ys (.v t.dv) = .v t.dv:=rfl
theorem z1co (l:List Tm)(x:Tm):∀ (e:Int) (o:Tm),sumE e o (l++[x])=plusE (sumE e o l).2 (sumE e o l).1 x:=by
 induction l with
 | nil=>intro e o;rfl
 | cons a r ih=>intro e o;simp only [List.cons_append,sumE,ih]
theorem z56 (l:List Tm):∀ (e:Int) (o:Tm),o.count≤268435456→(sumE e o l).1.count≤268435456:=by
 induction l with
 | nil=>intro e o h;exact h
 | cons a r ih=>
  intro e o h
  have:=z06 (nodeE e 3 zY [plusT,o]).2 3 zY [(nodeE e 3 zY [plusT,o]).1,a]
  exact ih _ _ (Nat.le_trans this (by decide))
theorem z64 (b:Nat)(e:Int)(o:Tm)(l:List Tm)(ho:o.count≤268435456)(hl:∀ x ∈ l,x.count≤268435456)(hln:l.length≤1000) :
  Con1 Tryz.prog gl 87 [ptr b,.sl (o.cells::l.map Tm.cells)] [(b,mk1 e)] (sumE e o l).1.dv [(b,mk1 (sumE e o l).2)]:=by
 have ht:List.take l.length (l.map Tm.cells)=l.map Tm.cells:=List.take_of_length_le (by simp)
 have hco:=Tm.cells_eq o
 refine t_in Tryz.func87 ?_
 intro X hP hgl hf hfn hn hR hids hfit
 have hwid:∀ e ∈ (o.cells::l.map Tm.cells),e.length=5:=by
  intro e he
  rcases List.mem_cons.1 he with rfl|he
  ·exact Tm.length_cells o
  ·obtain ⟨q,_,rfl⟩:=List.mem_map.1 he;exact Tm.length_cells q
 refine t_g (j2 @ht @hco) ?_
 refine t_a ?_
 refine z0c [] (by simp [go_sem]) (by simp [go_sem,sumE] <;> omega) (by simp [go_sem]) (z1z (l) (fun done rest=>[(.slot 14,.one (.v (dint done.length))),(.slot 13,.one (.v (dint l.length))),(.slot 12,.one (.v (.sl (l.map Tm.cells)))),(.slot 0,.one (.v (ptr b))),(.slot 4,.one (.loc 4 0)),(.loc 4,.row ([.v (dint 0),.v (dint 0),.v (dint 0),.own 0 [],.own 0 []])),(.slot 5,.one (.loc 5 0)),(.loc 5,.row ([.v (dint (sumE e o done).1.kind),.v (dint (sumE e o done).1.index),.v (dint (sumE e o done).1.type.kind),.v (.sl ((sumE e o done).1.type.args.map Ty.cells)),.v (.sl ((sumE e o done).1.args.map Tm.cells))])),(.heap  b,.row ([.v (dint (sumE e o done).2)]))]) ?_ ?_)
 ·intro done x rest hL hg0 hnext
  have hlt:done.length<l.length:=by rw [hL];simp
  have hxc:=hl x (List.mem_of_getElem? hg0)
  have hoc:=z56 done e o ho
  have hsn:=z1co done x e o
  generalize hg:sumE e o done=g at *
  obtain ⟨g1,e1⟩:=g
  simp only at hoc hsn
  have hfx:=Tm.fold x
  have hfg:=Tm.fold g1
  have hfp:=Tm.fold plusT
  have hpc:plusT.count≤100:=by decide
  have w1:=z1r (gl:=gl) b e1 3 [plusT,g1] (by rw [cnt2];omega)
  have c1:=z06 e1 3 zY [plusT,g1]
  unfold plusE at hsn
  generalize nodeE e1 3 zY [plusT,g1]=r1 at *
  obtain ⟨f1,e2⟩:=r1
  simp only at w1 c1 hsn
  have w2:=z1r (gl:=gl) b e2 3 [f1,x] (by rw [cnt2];omega)
  have hf1:=Tm.fold f1
  refine z00 ?_
  refine z07 ?_
  refine t_g @hg0 ?_
  refine t_c3 (j2 @hg0 (j2 @hfx (j2 @hfg (j2 @hfp @hf1)))) z145 w1 w2 ?_
  refine t_gt (wr []) @hsn trivial hnext
 ·refine z00 ?_
  refine t_no ?_
  refine t_g0 ?_
  refine t_ro [(b,mk1 (sumE e o l).2)] trivial ?_
  try simp
  try all_goals exact t_f
theorem z1cp (g:List Ty)(t:Ty)(hg:g.length≤1000000):Con1 Tryz.prog gl 75 [.sl (g.map Ty.cells),t.dv] [] (.sl ((g++[t]).map Ty.cells)) []:=by
 refine t_in Tryz.func75 ?_
 intro X hP hgl hf hfn hn hR hids hfit
 have hct:=Ty.cells_eq t
 have hft:=Ty.fold t
 have htk:List.take g.length (g.map Ty.cells)=g.map Ty.cells:=List.take_of_length_le (by simp)
 have hwid:∀ e ∈ g.map Ty.cells,e.length=2:=by
  intro e he
  obtain ⟨q,_,rfl⟩:=List.mem_map.1 he;exact Ty.length_cells q
 refine t_g (j2 @htk @hct) ?_
 refine t_r ?_
 simp [go_sem,hP,hgl,hn] <;> (try omega)
end
section
variable {gl:Globs}
set_option maxHeartbeats 8000000 in
set_option maxRecDepth 100000 in
theorem z1cq (b:Nat)(e:Int)(a:T)(ho:(T.fn .nat (.fn a a)).ok):Con1 Tryz.prog gl 128 [ptr b,a.ty.dv,.sl [natY.cells],dint 3] [(b,mk1 e)] (stepRE e a).1.dv [(b,mk1 (stepRE e a).2)]:=by
 obtain ⟨p0,c0,p1,q1,a1,c1,g2,g1,g0,s,u,z,o,w1,m1,w0,z0,z1,z2,z3,z4,z5,z6,z7,z8,z9,z10,z11,z12,z13,z14,z15,z16⟩:=zd1 e a
 obtain ⟨r,hr⟩:∃ r,r=stepRE e a:=⟨_,rfl⟩
 rw [← hr]
 rw [← hr] at z16
 clear hr
 have hv1:(vT 1).count≤4096:=by decide
 have hv2:(vT 2).count≤4096:=by decide
 have hfv1:=Tm.fold (vT 1)
 have hfv2:=Tm.fold (vT 2)
 have kp0:=z0x (gl:=gl) b e 3
 rw [← z0] at kp0
 have np0:p0.1.count≤4096:=by rw [z0];exact z06 _ _ _ _
 have tp0:=Tm.fold p0.1
 have kc0:=z1r (gl:=gl) b p0.2 3 [p0.1,vT 1] (by rw [cnt2];omega)
 rw [← z1] at kc0
 have nc0:c0.1.count≤4096:=by rw [z1];exact z06 _ _ _ _
 have tc0:=Tm.fold c0.1
 have kp1:=z0x (gl:=gl) b c0.2 3
 rw [← z2] at kp1
 have np1:p1.1.count≤4096:=by rw [z2];exact z06 _ _ _ _
 have tp1:=Tm.fold p1.1
 have kq1:=z0x (gl:=gl) b p1.2 0
 rw [← z3] at kq1
 have nq1:q1.1.count≤4096:=by rw [z3];exact z06 _ _ _ _
 have tq1:=Tm.fold q1.1
 have ka1:=z0x (gl:=gl) b q1.2 1
 rw [← z4] at ka1
 have na1:a1.1.count≤4096:=by rw [z4];exact z06 _ _ _ _
 have ta1:=Tm.fold a1.1
 have kc1:=z1r (gl:=gl) b a1.2 3 [q1.1,a1.1] (by rw [cnt2];omega)
 rw [← z5] at kc1
 have nc1:c1.1.count≤4096:=by rw [z5];exact z06 _ _ _ _
 have tc1:=Tm.fold c1.1
 have kg2:=z1b (gl:=gl) b c1.2 2
 rw [← z6] at kg2
 have ng2:g2.1.count≤4096:=by rw [z6];exact z06 _ _ _ _
 have tg2:=Tm.fold g2.1
 have kg1:=z1b (gl:=gl) b g2.2 1
 rw [← z7] at kg1
 have ng1:g1.1.count≤4096:=by rw [z7];exact z06 _ _ _ _
 have tg1:=Tm.fold g1.1
 have kg0:=z1b (gl:=gl) b g1.2 0
 rw [← z8] at kg0
 have ng0:g0.1.count≤4096:=by rw [z8];exact z06 _ _ _ _
 have tg0:=Tm.fold g0.1
 have ks:=z64 (gl:=gl) b g0.2 g2.1 [g1.1,g0.1] (by omega) (by intro x hx;simp only [List.mem_cons,List.not_mem_nil,or_false] at hx;rcases hx with rfl|rfl <;> omega) (by simp)
 rw [← z9] at ks
 have ns:s.1.count≤268435456:=by rw [z9];exact z56 _ _ _ (by omega)
 have ts:=Tm.fold s.1
 have ku:=z1r (gl:=gl) b s.2 5 [s.1] (by rw [cnt1];omega)
 rw [← z10] at ku
 have nu:u.1.count≤4096:=by rw [z10];exact z06 _ _ _ _
 have tu:=Tm.fold u.1
 have kz:=z0x (gl:=gl) b u.2 0
 rw [← z11] at kz
 have nz:z.1.count≤4096:=by rw [z11];exact z06 _ _ _ _
 have tz:=Tm.fold z.1
 have ko:=z2f (gl:=gl) b z.2 u.1 z.1 (by omega) (by omega)
 rw [← z12] at ko
 have no:o.1.count≤4096:=by rw [z12];exact z06 _ _ _ _
 have to:=Tm.fold o.1
 have kw1:=z1j (gl:=gl) b o.2 a (z1a a)
 rw [← z13] at kw1
 have km1:=z1i (gl:=gl) b w1.2 w1.1 c1.1 o.1 (by omega) (by omega)
 rw [← z14] at km1
 have nm1:m1.1.count≤4096:=by rw [z14];exact z06 _ _ _ _
 have tm1:=Tm.fold m1.1
 have kw0:=z1j (gl:=gl) b m1.2 (T.fn a a) (z1a (T.fn a a))
 rw [← z15] at kw0
 have kr:=z1i (gl:=gl) b w0.2 w0.1 c0.1 m1.1 (by omega) (by omega)
 rw [← z16] at kr
 have hsz:1+1+(1+a.size+a.size)≤64:=ho
 have hca:a.ty.count=a.size:=T.ty_count a
 have wf1:=z7g (gl:=gl) a.ty a.ty (by show 1+(a.ty.count+(a.ty.count+0))≤_;omega)
 have j1:joinE 4 a.ty a.ty=((T.fn a a).ty,0):=by unfold joinE;rw [if_neg (by show ¬ 64<1+(a.ty.count+(a.ty.count+0));omega)];rfl
 rw [j1] at wf1
 have hc1:(T.fn a a).ty.count=1+a.size+a.size:=T.ty_count _
 have wf2:=z7g (gl:=gl) natY (T.fn a a).ty (by show 1+(1+((T.fn a a).ty.count+0))≤_;omega)
 have j2:joinE 4 natY (T.fn a a).ty=((T.fn .nat (.fn a a)).ty,0):=by unfold joinE;rw [if_neg (by show ¬ 64<1+(1+((T.fn a a).ty.count+0));omega)];rfl
 rw [j2] at wf2
 have hfl:failE e 0=e:=by unfold failE;split;(rename_i h;exact h.symm);rfl
 have wl:=z62 (gl:=gl) b e 0
 rw [hfl] at wl
 have hnc:natY.cells=[dint 1,.sl []]:=rfl
 have hnd:DV.agg [dint 1,.sl []]=natY.dv:=rfl
 rw [hnc]
 generalize (T.fn .nat (.fn a a)).ty=y0 at *
 generalize (T.fn a a).ty=y1 at *
 generalize a.ty=ya at *
 have fy0:=Ty.fold y0
 have fy1:=Ty.fold y1
 have fya:=Ty.fold ya
 clear j1 j2
 refine t_in Tryz.func128 ?_
 intro X hP hgl hf hfn hn hR hids hfit
 refine t_g0 ?_
 repeat (first|refine z0a ?_|refine z01 ?_|refine z0b ?_|refine z03 ?_|refine z02 ?_|refine z04 rfl ?_)
 refine z05 [26] fun K hK=>?_
 simp [go_sem,hP,hgl,hn]
 refine zbl (E:=2) (B:=32) (n:=2) (kl:=.i64) (kc:=.i64) (nl:=2) (nc:=2) (zd:=[dint 0,.sl []]) (by simp [go_sem,hP,hgl,hn]) (by simp [go_sem,hP,hgl,hn]) (by decide) (by decide) (by simp [go_sem,hP]) (by rw [hP];kernel_rfl) rfl (by decide) (by rw [hn];exact Nat.le_of_ble_eq_true rfl) (by decide) rfl ?_
 intro b1 hb1 hbs1 _
 have hr1:arrRow (List.replicate 2 [dint 0,DV.sl []])=[.v (dint 0),.v (.sl []),.v (dint 0),.v (.sl [])]:=rfl
 rw [hr1]
 simp [newB] at hb1
 have hb1':¬ b1=b:=fun h=>hb1 h.symm
 simp [go_sem,hP,hgl,hn,hb1,hb1']
 refine t_e ?_
 clear hK K
 refine t_g (j2 @hb1 (j2 @hb1' (j2 @fy0 (j2 @fy1 (j2 @fya @hnd))))) ?_
 refine t_a ?_
 first|refine z05 [] fun K hK=>?_|refine z09 (by rw [hP];exact z08) [] fun K hK=>?_
 refine t_s (j2 @hb1 (j2 @hb1' (j2 @fy0 (j2 @fy1 (j2 @fya @hnd))))) ?_
 refine t_cb (j2 @hb1 (j2 @hb1' (j2 @fy0 (j2 @fy1 (j2 @fya @hnd))))) (wf1) ?_
 refine t_e ?_
 clear hK K
 refine t_a ?_
 first|refine z05 [] fun K hK=>?_|refine z09 (by rw [hP];exact z08) [] fun K hK=>?_
 refine t_s (j2 @hb1 (j2 @hb1' (j2 @fy0 (j2 @fy1 (j2 @fya @hnd))))) ?_
 refine t_cb (j2 @hb1 (j2 @hb1' (j2 @fy0 (j2 @fy1 (j2 @fya @hnd))))) (wl) ?_
 refine t_e ?_
 clear hK K
 refine t_g (j2 @hb1 (j2 @hb1' (j2 @fy0 (j2 @fy1 (j2 @fya @hnd))))) ?_
 refine z0n ?_
 refine z00 ?_
 refine z07 ?_
 refine t_rg (j2 @hb1 (j2 @hb1' (j2 @fy0 (j2 @fy1 (j2 @fya @hnd))))) ?_
 refine t_a ?_
 first|refine z05 [] fun K hK=>?_|refine z09 (by rw [hP];exact z08) [] fun K hK=>?_
 refine t_s (j2 @hb1 (j2 @hb1' (j2 @fy0 (j2 @fy1 (j2 @fya @hnd))))) ?_
 refine t_cb (j2 @hb1 (j2 @hb1' (j2 @fy0 (j2 @fy1 (j2 @fya @hnd))))) (wf2) ?_
 refine t_e ?_
 clear hK K
 refine t_g (j2 @hb1 (j2 @hb1' (j2 @fy0 (j2 @fy1 (j2 @fya @hnd))))) ?_
 refine z0j ?_
 refine z00 ?_
 refine t_no ?_
 refine z7v (b:=b1) (E:=2) (ys:=[[dint y1.kind,.sl (y1.args.map Ty.cells)],[dint ya.kind,.sl (ya.args.map Ty.cells)]]) (by simp [go_sem,hb1,hb1'];rfl) (by simp) (by simp [BIG]) hbs1 ?_
 have hz1:frzSV b1 [[dint y1.kind,.sl (y1.args.map Ty.cells)],[dint ya.kind,.sl (ya.args.map Ty.cells)]] (.v (.prim (.slice (some ⟨b1,0,none⟩) 2 2))) = .v (.sl [[dint y1.kind,.sl (y1.args.map Ty.cells)],[dint ya.kind,.sl (ya.args.map Ty.cells)]]):=z8j rfl (Nat.le_refl _)
 simp [go_sem,frz,frzLV,frzRow,z87,z88,z89,z8a,z8b,z8c,z8d,z8e,zbm,z8f,z8g,z8h,z8i,hz1,hb1,hb1']
 repeat (first|refine z0a ?_|refine z01 ?_|refine z0b ?_|refine z03 ?_|refine z02 ?_|refine z04 rfl ?_)
 refine z05 [66] fun K hK=>?_
 simp [go_sem,hP,hgl,hn]
 refine zbl (E:=5) (B:=72) (n:=2) (kl:=.i64) (kc:=.i64) (nl:=2) (nc:=2) (zd:=[dint 0,dint 0,dint 0,.sl [],.sl []]) (by simp [go_sem,hP,hgl,hn]) (by simp [go_sem,hP,hgl,hn]) (by decide) (by decide) (by simp [go_sem,hP]) (by rw [hP];kernel_rfl) rfl (by decide) (by rw [hn];exact Nat.le_of_ble_eq_true rfl) (by decide) rfl ?_
 intro b2 hb2 hbs2 _
 have hr2:arrRow (List.replicate 2 [dint 0,dint 0,dint 0,.sl [],.sl []])=[.v (dint 0),.v (dint 0),.v (dint 0),.v (.sl []),.v (.sl []),.v (dint 0),.v (dint 0),.v (dint 0),.v (.sl []),.v (.sl [])]:=rfl
 rw [hr2]
 simp [newB,hb1,hb1'] at hb2
 have hb2':¬ b2=b:=fun h=>hb2 h.symm
 simp [go_sem,hP,hgl,hn,hb2,hb2']
 refine t_e ?_
 clear hK K
 refine t_g (j2 @hb2 @hb2') ?_
 refine z0n ?_
 refine z00 ?_
 refine z07 ?_
 refine t_g (j2 @hb2 @hb2') ?_
 refine t_a ?_
 first|refine z05 [] fun K hK=>?_|refine z09 (by rw [hP];exact z08) [] fun K hK=>?_
 refine t_s (j2 @hb2 (j2 @hb2' @tp0)) ?_
 refine t_cb (j2 @hb2 (j2 @hb2' @tp0)) (kp0) ?_
 refine t_e ?_
 clear hK K
 refine t_g (j2 @hb2 (j2 @hb2' @tp0)) ?_
 refine t_a ?_
 first|refine z05 [] fun K hK=>?_|refine z09 (by rw [hP];exact z08) [] fun K hK=>?_
 refine t_s (j2 @hb2 @hb2') ?_
 refine t_cb (j2 @hb2 @hb2') (z5p 1) ?_
 refine t_e ?_
 clear hK K
 refine t_g (j2 @hb2 @hb2') ?_
 refine t_a ?_
 first|refine z05 [] fun K hK=>?_|refine z09 (by rw [hP];exact z08) [] fun K hK=>?_
 refine t_s (j2 @hb2 (j2 @hb2' (j2 @tp0 (j2 @hfv1 @tc0)))) ?_
 refine t_cb (j2 @hb2 (j2 @hb2' (j2 @tp0 (j2 @hfv1 @tc0)))) (kc0) ?_
 refine t_e ?_
 clear hK K
 refine t_g (j2 @hb2 @hb2') ?_
 refine z0c [] (s':=[(.slot 0,.one (.v (ptr b))),(.slot 3,.one (.v (dint 3))),(.slot 8,.one (.loc 8 0)),(.loc 8,.row ([.v (dint 0),.v (dint 0),.v (dint 0),.own 0 [],.own 0 []])),(.slot 9,.one (.v (dint 1))),(.slot 10,.one (.v (.sl [[dint y1.kind,.sl (y1.args.map Ty.cells)],[dint ya.kind,.sl (ya.args.map Ty.cells)]]))),(.slot 14,.one (.v (rawS b2 2 2))),(.slot 68,.one (.v (dint 2))),(.slot 69,.one (.v (dint 1))),(.heap  b2,.row ([.v (dint c0.1.kind),.v (dint c0.1.index),.v (dint c0.1.type.kind),.v (.sl (c0.1.type.args.map Ty.cells)),.v (.sl (c0.1.args.map Tm.cells)),.v (dint 0),.v (dint 0),.v (dint 0),.v (.sl []),.v (.sl [])])),(.heap  b,.row ([.v (dint c0.2)]))]) (by simp [go_sem]) (by simp [go_sem,hb2,hb2']) (by simp [go_sem]) ?_
 refine z0j ?_
 refine z00 ?_
 refine z07 ?_
 refine t_g (j2 @hb2 @hb2') ?_
 refine t_a ?_
 first|refine z05 [] fun K hK=>?_|refine z09 (by rw [hP];exact z08) [] fun K hK=>?_
 refine t_s (j2 @hb2 (j2 @hb2' @tp1)) ?_
 refine t_cb (j2 @hb2 (j2 @hb2' @tp1)) (kp1) ?_
 refine t_e ?_
 clear hK K
 refine t_g (j2 @hb2 (j2 @hb2' @tp1)) ?_
 refine t_a ?_
 first|refine z05 [] fun K hK=>?_|refine z09 (by rw [hP];exact z08) [] fun K hK=>?_
 refine t_s (j2 @hb2 (j2 @hb2' @tq1)) ?_
 refine t_cb (j2 @hb2 (j2 @hb2' @tq1)) (kq1) ?_
 refine t_e ?_
 clear hK K
 refine t_a ?_
 first|refine z05 [] fun K hK=>?_|refine z09 (by rw [hP];exact z08) [] fun K hK=>?_
 refine t_s (j2 @hb2 @hb2') ?_
 refine t_cb (j2 @hb2 @hb2') (z5p 1) ?_
 refine t_e ?_
 clear hK K
 refine t_g (j2 @hb2 @hb2') ?_
 refine t_a ?_
 first|refine z05 [] fun K hK=>?_|refine z09 (by rw [hP];exact z08) [] fun K hK=>?_
 refine t_s (j2 @hb2 (j2 @hb2' @ta1)) ?_
 refine t_cb (j2 @hb2 (j2 @hb2' @ta1)) (ka1) ?_
 refine t_e ?_
 clear hK K
 refine t_a ?_
 first|refine z05 [] fun K hK=>?_|refine z09 (by rw [hP];exact z08) [] fun K hK=>?_
 refine t_s (j2 @hb2 (j2 @hb2' (j2 @tq1 (j2 @ta1 @tc1)))) ?_
 refine t_cb (j2 @hb2 (j2 @hb2' (j2 @tq1 (j2 @ta1 @tc1)))) (kc1) ?_
 refine t_e ?_
 clear hK K
 refine t_g (j2 @hb2 @hb2') ?_
 refine z0j ?_
 refine z00 ?_
 refine t_no ?_
 refine z7v (b:=b2) (E:=5) (ys:=[[dint c0.1.kind,dint c0.1.index,dint c0.1.type.kind,.sl (c0.1.type.args.map Ty.cells),.sl (c0.1.args.map Tm.cells)],[dint c1.1.kind,dint c1.1.index,dint c1.1.type.kind,.sl (c1.1.type.args.map Ty.cells),.sl (c1.1.args.map Tm.cells)]]) (by simp [go_sem,hb2,hb2'];rfl) (by simp) (by simp [BIG]) hbs2 ?_
 have hz2:frzSV b2 [[dint c0.1.kind,dint c0.1.index,dint c0.1.type.kind,.sl (c0.1.type.args.map Ty.cells),.sl (c0.1.args.map Tm.cells)],[dint c1.1.kind,dint c1.1.index,dint c1.1.type.kind,.sl (c1.1.type.args.map Ty.cells),.sl (c1.1.args.map Tm.cells)]] (.v (.prim (.slice (some ⟨b2,0,none⟩) 2 2))) = .v (.sl [[dint c0.1.kind,dint c0.1.index,dint c0.1.type.kind,.sl (c0.1.type.args.map Ty.cells),.sl (c0.1.args.map Tm.cells)],[dint c1.1.kind,dint c1.1.index,dint c1.1.type.kind,.sl (c1.1.type.args.map Ty.cells),.sl (c1.1.args.map Tm.cells)]]):=z8j rfl (Nat.le_refl _)
 simp [go_sem,frz,frzLV,frzRow,z87,z88,z89,z8a,z8b,z8c,z8d,z8e,zbm,z8f,z8g,z8h,z8i,hz2,hb2,hb2']
 refine t_a ?_
 refine z05 [100] fun K hK=>?_
 simp [go_sem,hP,hgl,hn]
 refine t_c trivial (kg2) ?_
 refine zi8 (E:=5) (els:=[[dint g2.1.kind,dint g2.1.index,dint g2.1.type.kind,.sl (g2.1.type.args.map Ty.cells),.sl (g2.1.args.map Tm.cells)]]) (by simp [go_sem,hP];rfl) (by simp [go_sem,hP,hgl,hn]) ⟨rfl,by decide,by decide⟩ (by rw [hn];exact Nat.le_of_ble_eq_true rfl) (by decide) (by rfl) (by rfl) ?_
 simp [go_sem,hP,hgl,hn]
 refine t_e ?_
 clear hK K
 refine t_g0 ?_
 refine z0c [(1100,100)] (s':=[(.slot 0,.one (.v (ptr b))),(.slot 8,.one (.loc 8 0)),(.loc 8,.row ([.v (dint 0),.v (dint 0),.v (dint 0),.own 0 [],.own 0 []])),(.slot 9,.one (.v (dint 1))),(.slot 10,.one (.v (.sl [[dint y1.kind,.sl (y1.args.map Ty.cells)],[dint ya.kind,.sl (ya.args.map Ty.cells)]]))),(.slot 14,.one (.v (.sl [[dint c0.1.kind,dint c0.1.index,dint c0.1.type.kind,.sl (c0.1.type.args.map Ty.cells),.sl (c0.1.args.map Tm.cells)],[dint c1.1.kind,dint c1.1.index,dint c1.1.type.kind,.sl (c1.1.type.args.map Ty.cells),.sl (c1.1.args.map Tm.cells)]]))),(.slot 18,.one (.own 1100 [[dint g2.1.kind,dint g2.1.index,dint g2.1.type.kind,.sl (g2.1.type.args.map Ty.cells),.sl (g2.1.args.map Tm.cells)]])),(.tok 1100,.tk 5 1),(.slot 19,.one (.v (dint 1))),(.heap  b,.row ([.v (dint g2.2)]))]) (by simp [go_sem]) (by simp [go_sem]) (by simp [go_sem]) ?_
 refine z0n ?_
 refine z00 ?_
 refine z07 ?_
 refine t_c1 trivial kg1 ?_
 refine t_g0 ?_
 refine z0c [(1111,111)] (s':=[(.slot 0,.one (.v (ptr b))),(.slot 8,.one (.loc 8 0)),(.loc 8,.row ([.v (dint 0),.v (dint 0),.v (dint 0),.own 0 [],.own 0 []])),(.slot 9,.one (.v (dint 1))),(.slot 10,.one (.v (.sl [[dint y1.kind,.sl (y1.args.map Ty.cells)],[dint ya.kind,.sl (ya.args.map Ty.cells)]]))),(.slot 14,.one (.v (.sl [[dint c0.1.kind,dint c0.1.index,dint c0.1.type.kind,.sl (c0.1.type.args.map Ty.cells),.sl (c0.1.args.map Tm.cells)],[dint c1.1.kind,dint c1.1.index,dint c1.1.type.kind,.sl (c1.1.type.args.map Ty.cells),.sl (c1.1.args.map Tm.cells)]]))),(.slot 18,.one (.own 1111 [[dint g2.1.kind,dint g2.1.index,dint g2.1.type.kind,.sl (g2.1.type.args.map Ty.cells),.sl (g2.1.args.map Tm.cells)],[dint g1.1.kind,dint g1.1.index,dint g1.1.type.kind,.sl (g1.1.type.args.map Ty.cells),.sl (g1.1.args.map Tm.cells)]])),(.tok 1111,.tk 5 2),(.slot 19,.one (.v (dint 0))),(.heap  b,.row ([.v (dint g1.2)]))]) (by simp [go_sem]) (by simp [go_sem]) (by simp [go_sem]) ?_
 refine z0j ?_
 refine z00 ?_
 refine z07 ?_
 refine t_c1 trivial kg0 ?_
 refine t_g0 ?_
 refine z0j ?_
 refine z00 ?_
 refine t_no ?_
 refine t_c4 (j2 @ts (j2 @tu (j2 @tz @to))) ks ku kz ko ?_
 refine t_g0 ?_
 refine z0n ?_
 refine z00 ?_
 refine z07 ?_
 have gw1:=Ty.fold w1.1
 refine t_c2 (j2 @fya (j2 @gw1 (j2 @tc1 @to))) kw1 km1 ?_
 refine t_g0 ?_
 refine z0j ?_
 refine z00 ?_
 refine z07 ?_
 have gw0:=Ty.fold w0.1
 refine t_c2 (j2 @fy1 (j2 @gw0 (j2 @tc0 @tm1))) kw0 kr ?_
 refine t_g0 ?_
 refine z0j ?_
 refine z00 ?_
 refine t_no ?_
 refine t_g0 ?_
 refine t_ro [(b,mk1 r.2)] trivial ?_
 try simp
 try all_goals exact t_f
set_option maxHeartbeats 8000000 in
set_option maxRecDepth 100000 in
theorem z1cr (b:Nat)(e:Int)(a:T)(ho:(T.fn .nat (.fn .list (.fn a a))).ok):Con1 Tryz.prog gl 128 [ptr b,a.ty.dv,.sl [natY.cells,(T.ty .list).cells],dint 4] [(b,mk1 e)] (stepFE e a).1.dv [(b,mk1 (stepFE e a).2)]:=by
 obtain ⟨p0,c0,p1,q1,c1,p2,q2,a2,c2,g3,g2,g1,g0,s,u,z,o,w2,m2,w1,m1,w0,z0,z1,z2,z3,z4,z5,z6,z7,z8,z9,z10,z11,z12,z13,z14,z15,z16,z17,z18,z19,z20,z21,z22⟩:=zd2 e a
 obtain ⟨r,hr⟩:∃ r,r=stepFE e a:=⟨_,rfl⟩
 rw [← hr]
 rw [← hr] at z22
 clear hr
 have hv1:(vT 1).count≤4096:=by decide
 have hv2:(vT 2).count≤4096:=by decide
 have hfv1:=Tm.fold (vT 1)
 have hfv2:=Tm.fold (vT 2)
 have kp0:=z0x (gl:=gl) b e 4
 rw [← z0] at kp0
 have np0:p0.1.count≤4096:=by rw [z0];exact z06 _ _ _ _
 have tp0:=Tm.fold p0.1
 have kc0:=z1r (gl:=gl) b p0.2 3 [p0.1,vT 2] (by rw [cnt2];omega)
 rw [← z1] at kc0
 have nc0:c0.1.count≤4096:=by rw [z1];exact z06 _ _ _ _
 have tc0:=Tm.fold c0.1
 have kp1:=z0x (gl:=gl) b c0.2 4
 rw [← z2] at kp1
 have np1:p1.1.count≤4096:=by rw [z2];exact z06 _ _ _ _
 have tp1:=Tm.fold p1.1
 have kq1:=z0x (gl:=gl) b p1.2 0
 rw [← z3] at kq1
 have nq1:q1.1.count≤4096:=by rw [z3];exact z06 _ _ _ _
 have tq1:=Tm.fold q1.1
 have kc1:=z1r (gl:=gl) b q1.2 3 [q1.1,vT 2] (by rw [cnt2];omega)
 rw [← z4] at kc1
 have nc1:c1.1.count≤4096:=by rw [z4];exact z06 _ _ _ _
 have tc1:=Tm.fold c1.1
 have kp2:=z0x (gl:=gl) b c1.2 4
 rw [← z5] at kp2
 have np2:p2.1.count≤4096:=by rw [z5];exact z06 _ _ _ _
 have tp2:=Tm.fold p2.1
 have kq2:=z0x (gl:=gl) b p2.2 0
 rw [← z6] at kq2
 have nq2:q2.1.count≤4096:=by rw [z6];exact z06 _ _ _ _
 have tq2:=Tm.fold q2.1
 have ka2:=z0x (gl:=gl) b q2.2 2
 rw [← z7] at ka2
 have na2:a2.1.count≤4096:=by rw [z7];exact z06 _ _ _ _
 have ta2:=Tm.fold a2.1
 have kc2:=z1r (gl:=gl) b a2.2 3 [q2.1,a2.1] (by rw [cnt2];omega)
 rw [← z8] at kc2
 have nc2:c2.1.count≤4096:=by rw [z8];exact z06 _ _ _ _
 have tc2:=Tm.fold c2.1
 have kg3:=z1b (gl:=gl) b c2.2 3
 rw [← z9] at kg3
 have ng3:g3.1.count≤4096:=by rw [z9];exact z06 _ _ _ _
 have tg3:=Tm.fold g3.1
 have kg2:=z1b (gl:=gl) b g3.2 2
 rw [← z10] at kg2
 have ng2:g2.1.count≤4096:=by rw [z10];exact z06 _ _ _ _
 have tg2:=Tm.fold g2.1
 have kg1:=z1b (gl:=gl) b g2.2 1
 rw [← z11] at kg1
 have ng1:g1.1.count≤4096:=by rw [z11];exact z06 _ _ _ _
 have tg1:=Tm.fold g1.1
 have kg0:=z1b (gl:=gl) b g1.2 0
 rw [← z12] at kg0
 have ng0:g0.1.count≤4096:=by rw [z12];exact z06 _ _ _ _
 have tg0:=Tm.fold g0.1
 have ks:=z64 (gl:=gl) b g0.2 g3.1 [g2.1,g1.1,g0.1] (by omega) (by intro x hx;simp only [List.mem_cons,List.not_mem_nil,or_false] at hx;rcases hx with rfl|rfl|rfl <;> omega) (by simp)
 rw [← z13] at ks
 have ns:s.1.count≤268435456:=by rw [z13];exact z56 _ _ _ (by omega)
 have ts:=Tm.fold s.1
 have ku:=z1r (gl:=gl) b s.2 5 [s.1] (by rw [cnt1];omega)
 rw [← z14] at ku
 have nu:u.1.count≤4096:=by rw [z14];exact z06 _ _ _ _
 have tu:=Tm.fold u.1
 have kz:=z0x (gl:=gl) b u.2 0
 rw [← z15] at kz
 have nz:z.1.count≤4096:=by rw [z15];exact z06 _ _ _ _
 have tz:=Tm.fold z.1
 have ko:=z2f (gl:=gl) b z.2 u.1 z.1 (by omega) (by omega)
 rw [← z16] at ko
 have no:o.1.count≤4096:=by rw [z16];exact z06 _ _ _ _
 have to:=Tm.fold o.1
 have kw2:=z1j (gl:=gl) b o.2 a (z1a a)
 rw [← z17] at kw2
 have km2:=z1i (gl:=gl) b w2.2 w2.1 c2.1 o.1 (by omega) (by omega)
 rw [← z18] at km2
 have nm2:m2.1.count≤4096:=by rw [z18];exact z06 _ _ _ _
 have tm2:=Tm.fold m2.1
 have kw1:=z1j (gl:=gl) b m2.2 (T.fn a a) (z1a (T.fn a a))
 rw [← z19] at kw1
 have km1:=z1i (gl:=gl) b w1.2 w1.1 c1.1 m2.1 (by omega) (by omega)
 rw [← z20] at km1
 have nm1:m1.1.count≤4096:=by rw [z20];exact z06 _ _ _ _
 have tm1:=Tm.fold m1.1
 have kw0:=z1j (gl:=gl) b m1.2 (T.fn .list (T.fn a a)) (z1a (T.fn .list (T.fn a a)))
 rw [← z21] at kw0
 have kr:=z1i (gl:=gl) b w0.2 w0.1 c0.1 m1.1 (by omega) (by omega)
 rw [← z22] at kr
 have hsz:1+1+(1+1+(1+a.size+a.size))≤64:=ho
 have hca:a.ty.count=a.size:=T.ty_count a
 have wf1:=z7g (gl:=gl) a.ty a.ty (by show 1+(a.ty.count+(a.ty.count+0))≤_;omega)
 have j1:joinE 4 a.ty a.ty=((T.fn a a).ty,0):=by unfold joinE;rw [if_neg (by show ¬ 64<1+(a.ty.count+(a.ty.count+0));omega)];rfl
 rw [j1] at wf1
 have hc1:(T.fn a a).ty.count=1+a.size+a.size:=T.ty_count _
 have wf2:=z7g (gl:=gl) (T.ty .list) (T.fn a a).ty (by show 1+(1+((T.fn a a).ty.count+0))≤_;omega)
 have j2:joinE 4 (T.ty .list) (T.fn a a).ty=((T.fn .list (.fn a a)).ty,0):=by unfold joinE;rw [if_neg (by show ¬ 64<1+(1+((T.fn a a).ty.count+0));omega)];rfl
 rw [j2] at wf2
 have hc2:(T.fn .list (.fn a a)).ty.count=1+1+(1+a.size+a.size):=T.ty_count _
 have wf3:=z7g (gl:=gl) natY (T.fn .list (.fn a a)).ty (by show 1+(1+((T.fn .list (.fn a a)).ty.count+0))≤_;omega)
 have j3:joinE 4 natY (T.fn .list (.fn a a)).ty=((T.fn .nat (.fn .list (.fn a a))).ty,0):=by unfold joinE;rw [if_neg (by show ¬ 64<1+(1+((T.fn .list (.fn a a)).ty.count+0));omega)];rfl
 rw [j3] at wf3
 have hfl:failE e 0=e:=by unfold failE;split;(rename_i h;exact h.symm);rfl
 have wl:=z62 (gl:=gl) b e 0
 rw [hfl] at wl
 have hnc:natY.cells=[dint 1,.sl []]:=rfl
 have hlc:(T.ty .list).cells=[dint 2,.sl []]:=rfl
 have hnd:DV.agg [dint 1,.sl []]=natY.dv:=rfl
 have hld:DV.agg [dint 2,.sl []]=(T.ty .list).dv:=rfl
 rw [hnc,hlc]
 generalize (T.fn .nat (.fn .list (.fn a a))).ty=y0 at *
 generalize (T.fn .list (.fn a a)).ty=y1 at *
 generalize (T.fn a a).ty=y2 at *
 generalize a.ty=ya at *
 have fy0:=Ty.fold y0
 have fy1:=Ty.fold y1
 have fy2:=Ty.fold y2
 have fya:=Ty.fold ya
 clear j1 j2 j3
 refine t_in Tryz.func128 ?_
 intro X hP hgl hf hfn hn hR hids hfit
 refine t_g0 ?_
 repeat (first|refine z0a ?_|refine z01 ?_|refine z0b ?_|refine z03 ?_|refine z02 ?_|refine z04 rfl ?_)
 refine z05 [26] fun K hK=>?_
 simp [go_sem,hP,hgl,hn]
 refine zbl (E:=2) (B:=32) (n:=3) (kl:=.i64) (kc:=.i64) (nl:=3) (nc:=3) (zd:=[dint 0,.sl []]) (by simp [go_sem,hP,hgl,hn]) (by simp [go_sem,hP,hgl,hn]) (by decide) (by decide) (by simp [go_sem,hP]) (by rw [hP];kernel_rfl) rfl (by decide) (by rw [hn];exact Nat.le_of_ble_eq_true rfl) (by decide) rfl ?_
 intro b1 hb1 hbs1 _
 have hr1:arrRow (List.replicate 3 [dint 0,DV.sl []])=[.v (dint 0),.v (.sl []),.v (dint 0),.v (.sl []),.v (dint 0),.v (.sl [])]:=rfl
 rw [hr1]
 simp [newB] at hb1
 have hb1':¬ b1=b:=fun h=>hb1 h.symm
 simp [go_sem,hP,hgl,hn,hb1,hb1']
 refine t_e ?_
 clear hK K
 refine t_g (j2 @hb1 (j2 @hb1' (j2 @fy0 (j2 @fy1 (j2 @fy2 (j2 @fya (j2 @hnd @hld))))))) ?_
 refine t_a ?_
 first|refine z05 [] fun K hK=>?_|refine z09 (by rw [hP];exact z08) [] fun K hK=>?_
 refine t_s (j2 @hb1 (j2 @hb1' (j2 @fy0 (j2 @fy1 (j2 @fy2 (j2 @fya (j2 @hnd @hld))))))) ?_
 refine t_cb (j2 @hb1 (j2 @hb1' (j2 @fy0 (j2 @fy1 (j2 @fy2 (j2 @fya (j2 @hnd @hld))))))) (wf1) ?_
 refine t_e ?_
 clear hK K
 refine t_a ?_
 first|refine z05 [] fun K hK=>?_|refine z09 (by rw [hP];exact z08) [] fun K hK=>?_
 refine t_s (j2 @hb1 (j2 @hb1' (j2 @fy0 (j2 @fy1 (j2 @fy2 (j2 @fya (j2 @hnd @hld))))))) ?_
 refine t_cb (j2 @hb1 (j2 @hb1' (j2 @fy0 (j2 @fy1 (j2 @fy2 (j2 @fya (j2 @hnd @hld))))))) (wl) ?_
 refine t_e ?_
 clear hK K
 refine t_g (j2 @hb1 (j2 @hb1' (j2 @fy0 (j2 @fy1 (j2 @fy2 (j2 @fya (j2 @hnd @hld))))))) ?_
 refine z0n ?_
 refine z00 ?_
 refine z07 ?_
 refine t_rg (j2 @hb1 (j2 @hb1' (j2 @fy0 (j2 @fy1 (j2 @fy2 (j2 @fya (j2 @hnd @hld))))))) ?_
 refine t_a ?_
 first|refine z05 [] fun K hK=>?_|refine z09 (by rw [hP];exact z08) [] fun K hK=>?_
 refine t_s (j2 @hb1 (j2 @hb1' (j2 @fy0 (j2 @fy1 (j2 @fy2 (j2 @fya (j2 @hnd @hld))))))) ?_
 refine t_cb (j2 @hb1 (j2 @hb1' (j2 @fy0 (j2 @fy1 (j2 @fy2 (j2 @fya (j2 @hnd @hld))))))) (wf2) ?_
 refine t_e ?_
 clear hK K
 refine t_g (j2 @hb1 (j2 @hb1' (j2 @fy0 (j2 @fy1 (j2 @fy2 (j2 @fya (j2 @hnd @hld))))))) ?_
 refine z0j ?_
 refine z00 ?_
 refine z07 ?_
 refine t_rg (j2 @hb1 (j2 @hb1' (j2 @fy0 (j2 @fy1 (j2 @fy2 (j2 @fya (j2 @hnd @hld))))))) ?_
 refine t_a ?_
 first|refine z05 [] fun K hK=>?_|refine z09 (by rw [hP];exact z08) [] fun K hK=>?_
 refine t_s (j2 @hb1 (j2 @hb1' (j2 @fy0 (j2 @fy1 (j2 @fy2 (j2 @fya (j2 @hnd @hld))))))) ?_
 refine t_cb (j2 @hb1 (j2 @hb1' (j2 @fy0 (j2 @fy1 (j2 @fy2 (j2 @fya (j2 @hnd @hld))))))) (wf3) ?_
 refine t_e ?_
 clear hK K
 refine t_g (j2 @hb1 (j2 @hb1' (j2 @fy0 (j2 @fy1 (j2 @fy2 (j2 @fya (j2 @hnd @hld))))))) ?_
 refine z0j ?_
 refine z00 ?_
 refine t_no ?_
 refine z7v (b:=b1) (E:=2) (ys:=[[dint y1.kind,.sl (y1.args.map Ty.cells)],[dint y2.kind,.sl (y2.args.map Ty.cells)],[dint ya.kind,.sl (ya.args.map Ty.cells)]]) (by simp [go_sem,hb1,hb1'];rfl) (by simp) (by simp [BIG]) hbs1 ?_
 have hz1:frzSV b1 [[dint y1.kind,.sl (y1.args.map Ty.cells)],[dint y2.kind,.sl (y2.args.map Ty.cells)],[dint ya.kind,.sl (ya.args.map Ty.cells)]] (.v (.prim (.slice (some ⟨b1,0,none⟩) 3 3))) = .v (.sl [[dint y1.kind,.sl (y1.args.map Ty.cells)],[dint y2.kind,.sl (y2.args.map Ty.cells)],[dint ya.kind,.sl (ya.args.map Ty.cells)]]):=z8j rfl (Nat.le_refl _)
 simp [go_sem,frz,frzLV,frzRow,z87,z88,z89,z8a,z8b,z8c,z8d,z8e,zbm,z8f,z8g,z8h,z8i,hz1,hb1,hb1']
 repeat (first|refine z0a ?_|refine z01 ?_|refine z0b ?_|refine z03 ?_|refine z02 ?_|refine z04 rfl ?_)
 refine z05 [66] fun K hK=>?_
 simp [go_sem,hP,hgl,hn]
 refine zbl (E:=5) (B:=72) (n:=3) (kl:=.i64) (kc:=.i64) (nl:=3) (nc:=3) (zd:=[dint 0,dint 0,dint 0,.sl [],.sl []]) (by simp [go_sem,hP,hgl,hn]) (by simp [go_sem,hP,hgl,hn]) (by decide) (by decide) (by simp [go_sem,hP]) (by rw [hP];kernel_rfl) rfl (by decide) (by rw [hn];exact Nat.le_of_ble_eq_true rfl) (by decide) rfl ?_
 intro b2 hb2 hbs2 _
 have hr2:arrRow (List.replicate 3 [dint 0,dint 0,dint 0,.sl [],.sl []])=[.v (dint 0),.v (dint 0),.v (dint 0),.v (.sl []),.v (.sl []),.v (dint 0),.v (dint 0),.v (dint 0),.v (.sl []),.v (.sl []),.v (dint 0),.v (dint 0),.v (dint 0),.v (.sl []),.v (.sl [])]:=rfl
 rw [hr2]
 simp [newB,hb1,hb1'] at hb2
 have hb2':¬ b2=b:=fun h=>hb2 h.symm
 simp [go_sem,hP,hgl,hn,hb2,hb2']
 refine t_e ?_
 clear hK K
 refine t_g (j2 @hb2 @hb2') ?_
 refine z0n ?_
 refine z00 ?_
 refine z07 ?_
 refine t_g (j2 @hb2 @hb2') ?_
 refine t_a ?_
 first|refine z05 [] fun K hK=>?_|refine z09 (by rw [hP];exact z08) [] fun K hK=>?_
 refine t_s (j2 @hb2 (j2 @hb2' @tp0)) ?_
 refine t_cb (j2 @hb2 (j2 @hb2' @tp0)) (kp0) ?_
 refine t_e ?_
 clear hK K
 refine t_g (j2 @hb2 (j2 @hb2' @tp0)) ?_
 refine t_a ?_
 first|refine z05 [] fun K hK=>?_|refine z09 (by rw [hP];exact z08) [] fun K hK=>?_
 refine t_s (j2 @hb2 @hb2') ?_
 refine t_cb (j2 @hb2 @hb2') (z5p 2) ?_
 refine t_e ?_
 clear hK K
 refine t_g (j2 @hb2 @hb2') ?_
 refine t_a ?_
 first|refine z05 [] fun K hK=>?_|refine z09 (by rw [hP];exact z08) [] fun K hK=>?_
 refine t_s (j2 @hb2 (j2 @hb2' (j2 @tp0 (j2 @hfv2 @tc0)))) ?_
 refine t_cb (j2 @hb2 (j2 @hb2' (j2 @tp0 (j2 @hfv2 @tc0)))) (kc0) ?_
 refine t_e ?_
 clear hK K
 refine t_g (j2 @hb2 @hb2') ?_
 refine z0c [] (s':=[(.slot 0,.one (.v (ptr b))),(.slot 3,.one (.v (dint 4))),(.slot 8,.one (.loc 8 0)),(.loc 8,.row ([.v (dint 0),.v (dint 0),.v (dint 0),.own 0 [],.own 0 []])),(.slot 9,.one (.v (dint 2))),(.slot 10,.one (.v (.sl [[dint y1.kind,.sl (y1.args.map Ty.cells)],[dint y2.kind,.sl (y2.args.map Ty.cells)],[dint ya.kind,.sl (ya.args.map Ty.cells)]]))),(.slot 14,.one (.v (rawS b2 3 3))),(.slot 68,.one (.v (dint 3))),(.slot 69,.one (.v (dint 1))),(.heap  b2,.row ([.v (dint c0.1.kind),.v (dint c0.1.index),.v (dint c0.1.type.kind),.v (.sl (c0.1.type.args.map Ty.cells)),.v (.sl (c0.1.args.map Tm.cells)),.v (dint 0),.v (dint 0),.v (dint 0),.v (.sl []),.v (.sl []),.v (dint 0),.v (dint 0),.v (dint 0),.v (.sl []),.v (.sl [])])),(.heap  b,.row ([.v (dint c0.2)]))]) (by simp [go_sem]) (by simp [go_sem,hb2,hb2']) (by simp [go_sem]) ?_
 refine z0j ?_
 refine z00 ?_
 refine z07 ?_
 refine t_g (j2 @hb2 @hb2') ?_
 refine t_a ?_
 first|refine z05 [] fun K hK=>?_|refine z09 (by rw [hP];exact z08) [] fun K hK=>?_
 refine t_s (j2 @hb2 (j2 @hb2' @tp1)) ?_
 refine t_cb (j2 @hb2 (j2 @hb2' @tp1)) (kp1) ?_
 refine t_e ?_
 clear hK K
 refine t_g (j2 @hb2 (j2 @hb2' @tp1)) ?_
 refine t_a ?_
 first|refine z05 [] fun K hK=>?_|refine z09 (by rw [hP];exact z08) [] fun K hK=>?_
 refine t_s (j2 @hb2 (j2 @hb2' @tq1)) ?_
 refine t_cb (j2 @hb2 (j2 @hb2' @tq1)) (kq1) ?_
 refine t_e ?_
 clear hK K
 refine t_a ?_
 first|refine z05 [] fun K hK=>?_|refine z09 (by rw [hP];exact z08) [] fun K hK=>?_
 refine t_s (j2 @hb2 @hb2') ?_
 refine t_cb (j2 @hb2 @hb2') (z5p 2) ?_
 refine t_e ?_
 clear hK K
 refine t_g (j2 @hb2 @hb2') ?_
 refine t_a ?_
 first|refine z05 [] fun K hK=>?_|refine z09 (by rw [hP];exact z08) [] fun K hK=>?_
 refine t_s (j2 @hb2 (j2 @hb2' (j2 @tq1 (j2 @hfv2 @tc1)))) ?_
 refine t_cb (j2 @hb2 (j2 @hb2' (j2 @tq1 (j2 @hfv2 @tc1)))) (kc1) ?_
 refine t_e ?_
 clear hK K
 refine t_g (j2 @hb2 @hb2') ?_
 refine z0c [] (s':=[(.slot 0,.one (.v (ptr b))),(.slot 3,.one (.v (dint 4))),(.slot 8,.one (.loc 8 0)),(.loc 8,.row ([.v (dint 0),.v (dint 0),.v (dint 0),.own 0 [],.own 0 []])),(.slot 9,.one (.v (dint 2))),(.slot 10,.one (.v (.sl [[dint y1.kind,.sl (y1.args.map Ty.cells)],[dint y2.kind,.sl (y2.args.map Ty.cells)],[dint ya.kind,.sl (ya.args.map Ty.cells)]]))),(.slot 14,.one (.v (rawS b2 3 3))),(.slot 68,.one (.v (dint 3))),(.slot 69,.one (.v (dint 2))),(.heap  b2,.row ([.v (dint c0.1.kind),.v (dint c0.1.index),.v (dint c0.1.type.kind),.v (.sl (c0.1.type.args.map Ty.cells)),.v (.sl (c0.1.args.map Tm.cells)),.v (dint c1.1.kind),.v (dint c1.1.index),.v (dint c1.1.type.kind),.v (.sl (c1.1.type.args.map Ty.cells)),.v (.sl (c1.1.args.map Tm.cells)),.v (dint 0),.v (dint 0),.v (dint 0),.v (.sl []),.v (.sl [])])),(.heap  b,.row ([.v (dint c1.2)]))]) (by simp [go_sem]) (by simp [go_sem,hb2,hb2']) (by simp [go_sem]) ?_
 refine z0j ?_
 refine z00 ?_
 refine z07 ?_
 refine t_g (j2 @hb2 @hb2') ?_
 refine t_a ?_
 first|refine z05 [] fun K hK=>?_|refine z09 (by rw [hP];exact z08) [] fun K hK=>?_
 refine t_s (j2 @hb2 (j2 @hb2' @tp2)) ?_
 refine t_cb (j2 @hb2 (j2 @hb2' @tp2)) (kp2) ?_
 refine t_e ?_
 clear hK K
 refine t_g (j2 @hb2 (j2 @hb2' @tp2)) ?_
 refine t_a ?_
 first|refine z05 [] fun K hK=>?_|refine z09 (by rw [hP];exact z08) [] fun K hK=>?_
 refine t_s (j2 @hb2 (j2 @hb2' @tq2)) ?_
 refine t_cb (j2 @hb2 (j2 @hb2' @tq2)) (kq2) ?_
 refine t_e ?_
 clear hK K
 refine t_a ?_
 first|refine z05 [] fun K hK=>?_|refine z09 (by rw [hP];exact z08) [] fun K hK=>?_
 refine t_s (j2 @hb2 @hb2') ?_
 refine t_cb (j2 @hb2 @hb2') (z5p 2) ?_
 refine t_e ?_
 clear hK K
 refine t_g (j2 @hb2 @hb2') ?_
 refine t_a ?_
 first|refine z05 [] fun K hK=>?_|refine z09 (by rw [hP];exact z08) [] fun K hK=>?_
 refine t_s (j2 @hb2 (j2 @hb2' @ta2)) ?_
 refine t_cb (j2 @hb2 (j2 @hb2' @ta2)) (ka2) ?_
 refine t_e ?_
 clear hK K
 refine t_a ?_
 first|refine z05 [] fun K hK=>?_|refine z09 (by rw [hP];exact z08) [] fun K hK=>?_
 refine t_s (j2 @hb2 (j2 @hb2' (j2 @tq2 (j2 @ta2 @tc2)))) ?_
 refine t_cb (j2 @hb2 (j2 @hb2' (j2 @tq2 (j2 @ta2 @tc2)))) (kc2) ?_
 refine t_e ?_
 clear hK K
 refine t_g (j2 @hb2 @hb2') ?_
 refine z0j ?_
 refine z00 ?_
 refine t_no ?_
 refine z7v (b:=b2) (E:=5) (ys:=[[dint c0.1.kind,dint c0.1.index,dint c0.1.type.kind,.sl (c0.1.type.args.map Ty.cells),.sl (c0.1.args.map Tm.cells)],[dint c1.1.kind,dint c1.1.index,dint c1.1.type.kind,.sl (c1.1.type.args.map Ty.cells),.sl (c1.1.args.map Tm.cells)],[dint c2.1.kind,dint c2.1.index,dint c2.1.type.kind,.sl (c2.1.type.args.map Ty.cells),.sl (c2.1.args.map Tm.cells)]]) (by simp [go_sem,hb2,hb2'];rfl) (by simp) (by simp [BIG]) hbs2 ?_
 have hz2:frzSV b2 [[dint c0.1.kind,dint c0.1.index,dint c0.1.type.kind,.sl (c0.1.type.args.map Ty.cells),.sl (c0.1.args.map Tm.cells)],[dint c1.1.kind,dint c1.1.index,dint c1.1.type.kind,.sl (c1.1.type.args.map Ty.cells),.sl (c1.1.args.map Tm.cells)],[dint c2.1.kind,dint c2.1.index,dint c2.1.type.kind,.sl (c2.1.type.args.map Ty.cells),.sl (c2.1.args.map Tm.cells)]] (.v (.prim (.slice (some ⟨b2,0,none⟩) 3 3))) = .v (.sl [[dint c0.1.kind,dint c0.1.index,dint c0.1.type.kind,.sl (c0.1.type.args.map Ty.cells),.sl (c0.1.args.map Tm.cells)],[dint c1.1.kind,dint c1.1.index,dint c1.1.type.kind,.sl (c1.1.type.args.map Ty.cells),.sl (c1.1.args.map Tm.cells)],[dint c2.1.kind,dint c2.1.index,dint c2.1.type.kind,.sl (c2.1.type.args.map Ty.cells),.sl (c2.1.args.map Tm.cells)]]):=z8j rfl (Nat.le_refl _)
 simp [go_sem,frz,frzLV,frzRow,z87,z88,z89,z8a,z8b,z8c,z8d,z8e,zbm,z8f,z8g,z8h,z8i,hz2,hb2,hb2']
 refine t_a ?_
 refine z05 [100] fun K hK=>?_
 simp [go_sem,hP,hgl,hn]
 refine t_c trivial (kg3) ?_
 refine zi8 (E:=5) (els:=[[dint g3.1.kind,dint g3.1.index,dint g3.1.type.kind,.sl (g3.1.type.args.map Ty.cells),.sl (g3.1.args.map Tm.cells)]]) (by simp [go_sem,hP];rfl) (by simp [go_sem,hP,hgl,hn]) ⟨rfl,by decide,by decide⟩ (by rw [hn];exact Nat.le_of_ble_eq_true rfl) (by decide) (by rfl) (by rfl) ?_
 simp [go_sem,hP,hgl,hn]
 refine t_e ?_
 clear hK K
 refine t_g0 ?_
 refine z0c [(1100,100)] (s':=[(.slot 0,.one (.v (ptr b))),(.slot 8,.one (.loc 8 0)),(.loc 8,.row ([.v (dint 0),.v (dint 0),.v (dint 0),.own 0 [],.own 0 []])),(.slot 9,.one (.v (dint 2))),(.slot 10,.one (.v (.sl [[dint y1.kind,.sl (y1.args.map Ty.cells)],[dint y2.kind,.sl (y2.args.map Ty.cells)],[dint ya.kind,.sl (ya.args.map Ty.cells)]]))),(.slot 14,.one (.v (.sl [[dint c0.1.kind,dint c0.1.index,dint c0.1.type.kind,.sl (c0.1.type.args.map Ty.cells),.sl (c0.1.args.map Tm.cells)],[dint c1.1.kind,dint c1.1.index,dint c1.1.type.kind,.sl (c1.1.type.args.map Ty.cells),.sl (c1.1.args.map Tm.cells)],[dint c2.1.kind,dint c2.1.index,dint c2.1.type.kind,.sl (c2.1.type.args.map Ty.cells),.sl (c2.1.args.map Tm.cells)]]))),(.slot 18,.one (.own 1100 [[dint g3.1.kind,dint g3.1.index,dint g3.1.type.kind,.sl (g3.1.type.args.map Ty.cells),.sl (g3.1.args.map Tm.cells)]])),(.tok 1100,.tk 5 1),(.slot 19,.one (.v (dint 2))),(.heap  b,.row ([.v (dint g3.2)]))]) (by simp [go_sem]) (by simp [go_sem]) (by simp [go_sem]) ?_
 refine z0n ?_
 refine z00 ?_
 refine z07 ?_
 refine t_c1 trivial kg2 ?_
 refine t_g0 ?_
 refine z0c [(1111,111)] (s':=[(.slot 0,.one (.v (ptr b))),(.slot 8,.one (.loc 8 0)),(.loc 8,.row ([.v (dint 0),.v (dint 0),.v (dint 0),.own 0 [],.own 0 []])),(.slot 9,.one (.v (dint 2))),(.slot 10,.one (.v (.sl [[dint y1.kind,.sl (y1.args.map Ty.cells)],[dint y2.kind,.sl (y2.args.map Ty.cells)],[dint ya.kind,.sl (ya.args.map Ty.cells)]]))),(.slot 14,.one (.v (.sl [[dint c0.1.kind,dint c0.1.index,dint c0.1.type.kind,.sl (c0.1.type.args.map Ty.cells),.sl (c0.1.args.map Tm.cells)],[dint c1.1.kind,dint c1.1.index,dint c1.1.type.kind,.sl (c1.1.type.args.map Ty.cells),.sl (c1.1.args.map Tm.cells)],[dint c2.1.kind,dint c2.1.index,dint c2.1.type.kind,.sl (c2.1.type.args.map Ty.cells),.sl (c2.1.args.map Tm.cells)]]))),(.slot 18,.one (.own 1111 [[dint g3.1.kind,dint g3.1.index,dint g3.1.type.kind,.sl (g3.1.type.args.map Ty.cells),.sl (g3.1.args.map Tm.cells)],[dint g2.1.kind,dint g2.1.index,dint g2.1.type.kind,.sl (g2.1.type.args.map Ty.cells),.sl (g2.1.args.map Tm.cells)]])),(.tok 1111,.tk 5 2),(.slot 19,.one (.v (dint 1))),(.heap  b,.row ([.v (dint g2.2)]))]) (by simp [go_sem]) (by simp [go_sem]) (by simp [go_sem]) ?_
 refine z0j ?_
 refine z00 ?_
 refine z07 ?_
 refine t_c1 trivial kg1 ?_
 refine t_g0 ?_
 refine z0c [(1111,111)] (s':=[(.slot 0,.one (.v (ptr b))),(.slot 8,.one (.loc 8 0)),(.loc 8,.row ([.v (dint 0),.v (dint 0),.v (dint 0),.own 0 [],.own 0 []])),(.slot 9,.one (.v (dint 2))),(.slot 10,.one (.v (.sl [[dint y1.kind,.sl (y1.args.map Ty.cells)],[dint y2.kind,.sl (y2.args.map Ty.cells)],[dint ya.kind,.sl (ya.args.map Ty.cells)]]))),(.slot 14,.one (.v (.sl [[dint c0.1.kind,dint c0.1.index,dint c0.1.type.kind,.sl (c0.1.type.args.map Ty.cells),.sl (c0.1.args.map Tm.cells)],[dint c1.1.kind,dint c1.1.index,dint c1.1.type.kind,.sl (c1.1.type.args.map Ty.cells),.sl (c1.1.args.map Tm.cells)],[dint c2.1.kind,dint c2.1.index,dint c2.1.type.kind,.sl (c2.1.type.args.map Ty.cells),.sl (c2.1.args.map Tm.cells)]]))),(.slot 18,.one (.own 1111 [[dint g3.1.kind,dint g3.1.index,dint g3.1.type.kind,.sl (g3.1.type.args.map Ty.cells),.sl (g3.1.args.map Tm.cells)],[dint g2.1.kind,dint g2.1.index,dint g2.1.type.kind,.sl (g2.1.type.args.map Ty.cells),.sl (g2.1.args.map Tm.cells)],[dint g1.1.kind,dint g1.1.index,dint g1.1.type.kind,.sl (g1.1.type.args.map Ty.cells),.sl (g1.1.args.map Tm.cells)]])),(.tok 1111,.tk 5 3),(.slot 19,.one (.v (dint 0))),(.heap  b,.row ([.v (dint g1.2)]))]) (by simp [go_sem]) (by simp [go_sem]) (by simp [go_sem]) ?_
 refine z0j ?_
 refine z00 ?_
 refine z07 ?_
 refine t_c1 trivial kg0 ?_
 refine t_g0 ?_
 refine z0j ?_
 refine z00 ?_
 refine t_no ?_
 refine t_c4 (j2 @ts (j2 @tu (j2 @tz @to))) ks ku kz ko ?_
 refine t_g0 ?_
 refine z0n ?_
 refine z00 ?_
 refine z07 ?_
 have gw2:=Ty.fold w2.1
 refine t_c2 (j2 @fya (j2 @gw2 (j2 @tc2 @to))) kw2 km2 ?_
 refine t_g0 ?_
 refine z0j ?_
 refine z00 ?_
 refine z07 ?_
 have gw1:=Ty.fold w1.1
 refine t_c2 (j2 @fy2 (j2 @gw1 (j2 @tc1 @tm2))) kw1 km1 ?_
 refine t_g0 ?_
 refine z0j ?_
 refine z00 ?_
 refine z07 ?_
 have gw0:=Ty.fold w0.1
 refine t_c2 (j2 @fy1 (j2 @gw0 (j2 @tc0 @tm1))) kw0 kr ?_
 refine t_g0 ?_
 refine z0j ?_
 refine z00 ?_
 refine t_no ?_
 refine t_g0 ?_
 refine t_ro [(b,mk1 r.2)] trivial ?_
 try simp
 try all_goals exact t_f
end
section
variable {gl:Globs}
set_option maxHeartbeats 8000000 in
set_option maxRecDepth 100000 in
theorem z1cs (b:Nat)(a:T)(t0 x y z:Tm)(ho:(T.fn .nat (.fn a a)).ok)(hk0:t0.kind=6)(ht0:t0.type=a.ty)(hx:x.count≤4096)(hy:y.count≤4096)(hz:z.count≤4096)(sy:y.shape=true)(sz:z.shape=true)(iy:y.idx 549755813888)(iz:z.idx 549755813888) :
  Con1 Tryz.prog gl 89 [ptr b,t0.dv,.sl [x.cells,y.cells,z.cells],.sl [a.ty.cells,(T.fn .nat (.fn a a)).ty.cells,(T.ty .nat).cells]] [(b,mk1 0)] (roundsE 6 a a (T.fn .nat (.fn a a)) .nat x y z).1.dv [(b,mk1 (roundsE 6 a a (T.fn .nat (.fn a a)) .nat x y z).2)]:=by
 obtain ⟨w,t,p,c,q,d,g3,g2,g1,g0,s,v,o,m3,w2,m2,w1,m1,w0,z0,z1,z2,z3,z4,z5,z6,z7,z8,z9,z10,z11,z12,z13,z14,z15,z16,z17,z18,z19⟩:=z8o 6 a a (T.fn .nat (.fn a a)) .nat x y z
 obtain ⟨r,hr⟩:∃ r,r=roundsE 6 a a (T.fn .nat (.fn a a)) .nat x y z:=⟨_,rfl⟩
 rw [← hr]
 rw [← hr] at z19
 clear hr
 have zt:t=lamRE w.2 a w.1:=z1.trans (if_pos rfl)
 obtain ⟨ls,lm,e0,e1,e2⟩:=zau w.2 a w.1
 rw [e2] at zt
 have ncz:(nT 4 []).count≤4096:=by decide
 have nuy:(y.upN 0 1).count≤4096:=by rw [z2r];exact hy
 have nuz:(z.upN 0 2).count≤4096:=by rw [z2r];exact hz
 have kuy:=z63 (gl:=gl) y 1 sy iy (by decide) (by decide) (by omega)
 have kuz:=z63 (gl:=gl) z 2 sz iz (by decide) (by decide) (by omega)
 have kw:=z1j (gl:=gl) b 0 a (z1a a)
 rw [← z0] at kw
 have kls:=z1cq (gl:=gl) b w.2 a ho
 rw [← e0] at kls
 have nls:ls.1.count≤4096:=by rw [e0];exact z06 _ _ _ _
 have klm:=z44 (gl:=gl) b ls.2 2 w.1 [ls.1] (by rw [cnt1];omega)
 rw [← e1] at klm
 have nlm:lm.1.count≤4096:=by rw [e1];exact z06 _ _ _ _
 have kt:=z44 (gl:=gl) b lm.2 2 natY [lm.1] (by rw [cnt1];omega)
 rw [← zt] at kt
 have nt:t.1.count≤4096:=by rw [zt];exact z06 _ _ _ _
 have tt:=Tm.fold t.1
 have tls:=Tm.fold ls.1
 have tlm:=Tm.fold lm.1
 have kp:=z0x (gl:=gl) b t.2 2
 rw [← z2] at kp
 have np:p.1.count≤4096:=by rw [z2];exact z06 _ _ _ _
 have tp:=Tm.fold p.1
 have kc:=z2f (gl:=gl) b p.2 (nT 4 []) p.1 (by omega) (by omega)
 rw [← z3] at kc
 have nc:c.1.count≤4096:=by rw [z3];exact z06 _ _ _ _
 have tc:=Tm.fold c.1
 have kq:=z0x (gl:=gl) b c.2 0
 rw [← z4] at kq
 have nq:q.1.count≤4096:=by rw [z4];exact z06 _ _ _ _
 have tq:=Tm.fold q.1
 have kd:=z44 (gl:=gl) b q.2 6 w.1 [c.1,t.1,q.1] (by rw [cnt3];omega)
 rw [← z5] at kd
 have nd:d.1.count≤4096:=by rw [z5];exact z06 _ _ _ _
 have td:=Tm.fold d.1
 have kg3:=z1b (gl:=gl) b d.2 3
 rw [← z6] at kg3
 have ng3:g3.1.count≤4096:=by rw [z6];exact z06 _ _ _ _
 have tg3:=Tm.fold g3.1
 have kg2:=z1b (gl:=gl) b g3.2 2
 rw [← z7] at kg2
 have ng2:g2.1.count≤4096:=by rw [z7];exact z06 _ _ _ _
 have tg2:=Tm.fold g2.1
 have kg1:=z1b (gl:=gl) b g2.2 1
 rw [← z8] at kg1
 have ng1:g1.1.count≤4096:=by rw [z8];exact z06 _ _ _ _
 have tg1:=Tm.fold g1.1
 have kg0:=z1b (gl:=gl) b g1.2 0
 rw [← z9] at kg0
 have ng0:g0.1.count≤4096:=by rw [z9];exact z06 _ _ _ _
 have tg0:=Tm.fold g0.1
 have ks:=z64 (gl:=gl) b g0.2 g3.1 [g2.1,g1.1,g0.1] (by omega) (by intro x hx;simp only [List.mem_cons,List.not_mem_nil,or_false] at hx;rcases hx with rfl|rfl|rfl <;> omega) (by simp)
 rw [← z10] at ks
 have ns:s.1.count≤268435456:=by rw [z10];exact z56 _ _ _ (by omega)
 have ts:=Tm.fold s.1
 have kv:=z0x (gl:=gl) b s.2 0
 rw [← z11] at kv
 have nv:v.1.count≤4096:=by rw [z11];exact z06 _ _ _ _
 have tv:=Tm.fold v.1
 have ko:=z2f (gl:=gl) b v.2 (s.1) v.1 (by omega) (by omega)
 rw [← z12] at ko
 have no:o.1.count≤4096:=by rw [z12];exact z06 _ _ _ _
 have to:=Tm.fold o.1
 have km3:=z1i (gl:=gl) b o.2 w.1 d.1 o.1 (by omega) (by omega)
 rw [← z13] at km3
 have nm3:m3.1.count≤4096:=by rw [z13];exact z06 _ _ _ _
 have tm3:=Tm.fold m3.1
 have kw2:=z1j (gl:=gl) b m3.2 T.nat (z1a T.nat)
 rw [← z14] at kw2
 have km2:=z1i (gl:=gl) b w2.2 w2.1 (z.upN 0 2) m3.1 (by omega) (by omega)
 rw [← z15] at km2
 have nm2:m2.1.count≤4096:=by rw [z15];exact z06 _ _ _ _
 have tm2:=Tm.fold m2.1
 have kw1:=z1j (gl:=gl) b m2.2 (T.fn .nat (.fn a a)) (z1a (T.fn .nat (.fn a a)))
 rw [← z16] at kw1
 have km1:=z1i (gl:=gl) b w1.2 w1.1 (y.upN 0 1) m2.1 (by omega) (by omega)
 rw [← z17] at km1
 have nm1:m1.1.count≤4096:=by rw [z17];exact z06 _ _ _ _
 have tm1:=Tm.fold m1.1
 have kw0:=z1j (gl:=gl) b m1.2 a (z1a a)
 rw [← z18] at kw0
 have kr:=z1i (gl:=gl) b w0.2 w0.1 x m1.1 (by omega) (by omega)
 rw [← z19] at kr
 have fw:=Ty.fold w.1
 have fw0:=Ty.fold w0.1
 have fw1:=Ty.fold w1.1
 have fw2:=Ty.fold w2.1
 have fx:=Tm.fold x
 have fy:=Tm.fold y
 have fz:=Tm.fold z
 have fuy:=Tm.fold (y.upN 0 1)
 have fuz:=Tm.fold (z.upN 0 2)
 have hcx:=Tm.cells_eq x
 have hcy:=Tm.cells_eq y
 have hcz:=Tm.cells_eq z
 have hz4:(nT 4 []).dv = .agg [dint 4,dint 0,dint 0,.sl [],.sl []]:=rfl
 have hnd:natY.dv=DV.agg [dint 1,.sl []]:=rfl
 have hnd2:DV.agg [dint 1,.sl []]=natY.dv:=rfl
 have hld:(T.ty .list).dv=DV.agg [dint 2,.sl []]:=rfl
 have hld2:DV.agg [dint 2,.sl []]=(T.ty .list).dv:=rfl
 have hlc:(T.ty .list).cells=[dint 2,.sl []]:=rfl
 have hnc2:(T.ty .nat).cells=[dint 1,.sl []]:=rfl
 have hnd3:DV.agg [dint 1,.sl []]=(T.ty .nat).dv:=rfl
 have fa:=Ty.fold a.ty
 rw [← ht0] at fa
 have fb:=Ty.fold (T.fn .nat (.fn a a)).ty
 have hca:=Ty.cells_eq a.ty
 have hcb:=Ty.cells_eq (T.fn .nat (.fn a a)).ty
 have hnc:natY.cells=[dint 1,.sl []]:=rfl
 rw [hnc] at kls
 rw [hca,hcb,hnc2,hcx,hcy,hcz,← ht0]
 rw [← ht0] at kw kw0 kls
 generalize (T.fn .nat (.fn a a)).ty=tyb at *
 rw [hnd] at kt
 rw [← hnd3] at kw2
 refine t_in Tryz.func89 ?_
 intro X hP hgl hf hfn hn hR hids hfit
 refine t_g0 ?_
 refine t_c1 @fa kw ?_
 refine t_g @hk0 ?_
 refine t_c2 (j2 @hnd (j2 @hld @fw)) z50 z9g ?_
 refine t_g @hk0 ?_
 refine t_c1 @fa kls ?_
 refine t_c1 (j2 @fw @tls) klm ?_
 refine t_g0 ?_
 refine z0n ?_
 refine z00 ?_
 refine z07 ?_
 refine t_c1 @tlm kt ?_
 refine t_g0 ?_
 refine z0j ?_
 refine z00 ?_
 refine t_no ?_
 refine t_c4 (j2 @hk0 (j2 @hz4 (j2 @fw (j2 @tp (j2 @tc (j2 @tq @tt)))))) kp kc kq kd ?_
 refine t_c7 (j2 @ts (j2 @tv @to)) kg3 kg2 kg1 kg0 ks kv ko ?_
 refine t_c1 (j2 @fw (j2 @td @to)) km3 ?_
 refine t_c3 (j2 @fw2 (j2 @fz (j2 @fuz @tm3))) kw2 kuz km2 ?_
 refine t_c3 (j2 @fb (j2 @fw1 (j2 @fy (j2 @fuy @tm2)))) kw1 kuy km1 ?_
 refine t_c2 (j2 @fa (j2 @fw0 (j2 @fx @tm1))) kw0 kr ?_
 refine t_ro [(b,mk1 r.2)] trivial ?_
 try simp
 try all_goals exact t_f
set_option maxHeartbeats 8000000 in
set_option maxRecDepth 100000 in
theorem z1ct (b:Nat)(a:T)(t0 x y z:Tm)(ho:(T.fn .nat (.fn .list (.fn a a))).ok)(hk0:t0.kind=9)(ht0:t0.type=a.ty)(hx:x.count≤4096)(hy:y.count≤4096)(hz:z.count≤4096)(sy:y.shape=true)(sz:z.shape=true)(iy:y.idx 549755813888)(iz:z.idx 549755813888) :
  Con1 Tryz.prog gl 89 [ptr b,t0.dv,.sl [x.cells,y.cells,z.cells],.sl [a.ty.cells,(T.fn .nat (.fn .list (.fn a a))).ty.cells,(T.ty .list).cells]] [(b,mk1 0)] (roundsE 9 a a (T.fn .nat (.fn .list (.fn a a))) .list x y z).1.dv [(b,mk1 (roundsE 9 a a (T.fn .nat (.fn .list (.fn a a))) .list x y z).2)]:=by
 obtain ⟨w,t,p,c,q,d,g3,g2,g1,g0,s,v,o,m3,w2,m2,w1,m1,w0,z0,z1,z2,z3,z4,z5,z6,z7,z8,z9,z10,z11,z12,z13,z14,z15,z16,z17,z18,z19⟩:=z8o 9 a a (T.fn .nat (.fn .list (.fn a a))) .list x y z
 obtain ⟨r,hr⟩:∃ r,r=roundsE 9 a a (T.fn .nat (.fn .list (.fn a a))) .list x y z:=⟨_,rfl⟩
 rw [← hr]
 rw [← hr] at z19
 clear hr
 have zt:t=lamFE w.2 a w.1:=z1.trans (if_neg (by decide))
 obtain ⟨ls,lm,ln,e0,e1,e2,e3⟩:=zav w.2 a w.1
 rw [e3] at zt
 have ncz:(nT 4 []).count≤4096:=by decide
 have nuy:(y.upN 0 1).count≤4096:=by rw [z2r];exact hy
 have nuz:(z.upN 0 2).count≤4096:=by rw [z2r];exact hz
 have kuy:=z63 (gl:=gl) y 1 sy iy (by decide) (by decide) (by omega)
 have kuz:=z63 (gl:=gl) z 2 sz iz (by decide) (by decide) (by omega)
 have kw:=z1j (gl:=gl) b 0 a (z1a a)
 rw [← z0] at kw
 have kls:=z1cr (gl:=gl) b w.2 a ho
 rw [← e0] at kls
 have nls:ls.1.count≤4096:=by rw [e0];exact z06 _ _ _ _
 have klm:=z44 (gl:=gl) b ls.2 2 w.1 [ls.1] (by rw [cnt1];omega)
 rw [← e1] at klm
 have nlm:lm.1.count≤4096:=by rw [e1];exact z06 _ _ _ _
 have kln:=z44 (gl:=gl) b lm.2 2 (T.ty .list) [lm.1] (by rw [cnt1];omega)
 rw [← e2] at kln
 have nln:ln.1.count≤4096:=by rw [e2];exact z06 _ _ _ _
 have kt:=z44 (gl:=gl) b ln.2 2 natY [ln.1] (by rw [cnt1];omega)
 rw [← zt] at kt
 have nt:t.1.count≤4096:=by rw [zt];exact z06 _ _ _ _
 have tt:=Tm.fold t.1
 have tls:=Tm.fold ls.1
 have tlm:=Tm.fold lm.1
 have tln:=Tm.fold ln.1
 have kp:=z0x (gl:=gl) b t.2 2
 rw [← z2] at kp
 have np:p.1.count≤4096:=by rw [z2];exact z06 _ _ _ _
 have tp:=Tm.fold p.1
 have kc:=z2f (gl:=gl) b p.2 (nT 4 []) p.1 (by omega) (by omega)
 rw [← z3] at kc
 have nc:c.1.count≤4096:=by rw [z3];exact z06 _ _ _ _
 have tc:=Tm.fold c.1
 have kq:=z0x (gl:=gl) b c.2 0
 rw [← z4] at kq
 have nq:q.1.count≤4096:=by rw [z4];exact z06 _ _ _ _
 have tq:=Tm.fold q.1
 have kd:=z44 (gl:=gl) b q.2 9 w.1 [c.1,t.1,q.1] (by rw [cnt3];omega)
 rw [← z5] at kd
 have nd:d.1.count≤4096:=by rw [z5];exact z06 _ _ _ _
 have td:=Tm.fold d.1
 have kg3:=z1b (gl:=gl) b d.2 3
 rw [← z6] at kg3
 have ng3:g3.1.count≤4096:=by rw [z6];exact z06 _ _ _ _
 have tg3:=Tm.fold g3.1
 have kg2:=z1b (gl:=gl) b g3.2 2
 rw [← z7] at kg2
 have ng2:g2.1.count≤4096:=by rw [z7];exact z06 _ _ _ _
 have tg2:=Tm.fold g2.1
 have kg1:=z1b (gl:=gl) b g2.2 1
 rw [← z8] at kg1
 have ng1:g1.1.count≤4096:=by rw [z8];exact z06 _ _ _ _
 have tg1:=Tm.fold g1.1
 have kg0:=z1b (gl:=gl) b g1.2 0
 rw [← z9] at kg0
 have ng0:g0.1.count≤4096:=by rw [z9];exact z06 _ _ _ _
 have tg0:=Tm.fold g0.1
 have ks:=z64 (gl:=gl) b g0.2 g3.1 [g2.1,g1.1,g0.1] (by omega) (by intro x hx;simp only [List.mem_cons,List.not_mem_nil,or_false] at hx;rcases hx with rfl|rfl|rfl <;> omega) (by simp)
 rw [← z10] at ks
 have ns:s.1.count≤268435456:=by rw [z10];exact z56 _ _ _ (by omega)
 have ts:=Tm.fold s.1
 have kv:=z0x (gl:=gl) b s.2 0
 rw [← z11] at kv
 have nv:v.1.count≤4096:=by rw [z11];exact z06 _ _ _ _
 have tv:=Tm.fold v.1
 have ko:=z2f (gl:=gl) b v.2 (s.1) v.1 (by omega) (by omega)
 rw [← z12] at ko
 have no:o.1.count≤4096:=by rw [z12];exact z06 _ _ _ _
 have to:=Tm.fold o.1
 have km3:=z1i (gl:=gl) b o.2 w.1 d.1 o.1 (by omega) (by omega)
 rw [← z13] at km3
 have nm3:m3.1.count≤4096:=by rw [z13];exact z06 _ _ _ _
 have tm3:=Tm.fold m3.1
 have kw2:=z1j (gl:=gl) b m3.2 T.list (z1a T.list)
 rw [← z14] at kw2
 have km2:=z1i (gl:=gl) b w2.2 w2.1 (z.upN 0 2) m3.1 (by omega) (by omega)
 rw [← z15] at km2
 have nm2:m2.1.count≤4096:=by rw [z15];exact z06 _ _ _ _
 have tm2:=Tm.fold m2.1
 have kw1:=z1j (gl:=gl) b m2.2 (T.fn .nat (.fn .list (.fn a a))) (z1a (T.fn .nat (.fn .list (.fn a a))))
 rw [← z16] at kw1
 have km1:=z1i (gl:=gl) b w1.2 w1.1 (y.upN 0 1) m2.1 (by omega) (by omega)
 rw [← z17] at km1
 have nm1:m1.1.count≤4096:=by rw [z17];exact z06 _ _ _ _
 have tm1:=Tm.fold m1.1
 have kw0:=z1j (gl:=gl) b m1.2 a (z1a a)
 rw [← z18] at kw0
 have kr:=z1i (gl:=gl) b w0.2 w0.1 x m1.1 (by omega) (by omega)
 rw [← z19] at kr
 have fw:=Ty.fold w.1
 have fw0:=Ty.fold w0.1
 have fw1:=Ty.fold w1.1
 have fw2:=Ty.fold w2.1
 have fx:=Tm.fold x
 have fy:=Tm.fold y
 have fz:=Tm.fold z
 have fuy:=Tm.fold (y.upN 0 1)
 have fuz:=Tm.fold (z.upN 0 2)
 have hcx:=Tm.cells_eq x
 have hcy:=Tm.cells_eq y
 have hcz:=Tm.cells_eq z
 have hz4:(nT 4 []).dv = .agg [dint 4,dint 0,dint 0,.sl [],.sl []]:=rfl
 have hnd:natY.dv=DV.agg [dint 1,.sl []]:=rfl
 have hnd2:DV.agg [dint 1,.sl []]=natY.dv:=rfl
 have hld:(T.ty .list).dv=DV.agg [dint 2,.sl []]:=rfl
 have hld2:DV.agg [dint 2,.sl []]=(T.ty .list).dv:=rfl
 have hlc:(T.ty .list).cells=[dint 2,.sl []]:=rfl
 have hnc2:(T.ty .nat).cells=[dint 1,.sl []]:=rfl
 have hnd3:DV.agg [dint 1,.sl []]=(T.ty .nat).dv:=rfl
 have fa:=Ty.fold a.ty
 rw [← ht0] at fa
 have fb:=Ty.fold (T.fn .nat (.fn .list (.fn a a))).ty
 have hca:=Ty.cells_eq a.ty
 have hcb:=Ty.cells_eq (T.fn .nat (.fn .list (.fn a a))).ty
 have hnc:natY.cells=[dint 1,.sl []]:=rfl
 rw [hnc,hlc] at kls
 rw [hca,hcb,hlc,hcx,hcy,hcz,← ht0]
 rw [← ht0] at kw kw0 kls
 generalize (T.fn .nat (.fn .list (.fn a a))).ty=tyb at *
 rw [hnd] at kt
 rw [hld] at kln
 rw [hld] at kw2
 refine t_in Tryz.func89 ?_
 intro X hP hgl hf hfn hn hR hids hfit
 refine t_g0 ?_
 refine t_c1 @fa kw ?_
 refine t_g @hk0 ?_
 refine t_c2 (j2 @hnd (j2 @hld @fw)) z50 z9g ?_
 refine t_g @hk0 ?_
 refine t_c1 @fa kls ?_
 refine t_c1 (j2 @fw @tls) klm ?_
 refine t_g0 ?_
 refine z0n ?_
 refine z00 ?_
 refine z07 ?_
 refine t_c1 @tlm kln ?_
 refine t_g0 ?_
 refine z0j ?_
 refine z00 ?_
 refine z07 ?_
 refine t_c1 @tln kt ?_
 refine t_g0 ?_
 refine z0j ?_
 refine z00 ?_
 refine t_no ?_
 refine t_c4 (j2 @hk0 (j2 @hz4 (j2 @fw (j2 @tp (j2 @tc (j2 @tq @tt)))))) kp kc kq kd ?_
 refine t_c7 (j2 @ts (j2 @tv @to)) kg3 kg2 kg1 kg0 ks kv ko ?_
 refine t_c1 (j2 @fw (j2 @td @to)) km3 ?_
 refine t_c3 (j2 @fw2 (j2 @fz (j2 @fuz @tm3))) kw2 kuz km2 ?_
 refine t_c3 (j2 @fb (j2 @fw1 (j2 @fy (j2 @fuy @tm2)))) kw1 kuy km1 ?_
 refine t_c2 (j2 @fa (j2 @fw0 (j2 @fx @tm1))) kw0 kr ?_
 refine t_ro [(b,mk1 r.2)] trivial ?_
 try simp
 try all_goals exact t_f
end
section
variable {gl:Globs}
set_option maxHeartbeats 1000000 in
theorem z1cu (b:Nat)(G:List Ty):Con1 Tryz.prog gl 41 [ptr b,.sl (G.map Ty.cells),(nT 4 []).dv] [(b,mk1 0)] (.tup [(nodeE 0 10 zY [nT 4 [],nT 4 []]).1.dv,(T.ty .nat).dv]) [(b,mk1 (nodeE 0 10 zY [nT 4 [],nT 4 []]).2)]:=by
 have w:=z2f (gl:=gl) b 0 (nT 4 []) (nT 4 []) (by decide) (by decide)
 generalize nodeE 0 10 zY [nT 4 [],nT 4 []]=r at *
 have hz4:(nT 4 []).dv = .agg [dint 4,dint 0,dint 0,.sl [],.sl []]:=rfl
 have htd:(nT 4 []).dv = .agg [dint 4,dint 0,dint 0,.sl [],.sl []]:=rfl
 have hnd:natY.dv=DV.agg [dint 1,.sl []]:=rfl
 have hnd2:(T.ty .nat).dv=DV.agg [dint 1,.sl []]:=rfl
 have hld:(T.ty .list).dv=DV.agg [dint 2,.sl []]:=rfl
 have hud:(T.ty .unit).dv=DV.agg [dint 5,.sl []]:=rfl
 rw [htd]
 refine t_in Tryz.func41 ?_
 intro X hP hgl hf hfn hn hR hids hfit
 refine t_g0 ?_
 refine z0n ?_
 refine z00 ?_
 refine t_no ?_
 refine t_g0 ?_
 refine t_c2 (j2 @hz4 (j2 @hnd @hld)) w z50 ?_
 refine t_ro [(b,mk1 r.2)] (j2 @hnd2 (j2 @hld @hud)) ?_
 try simp [hnd2,hld,hud]
 try all_goals exact t_f
set_option maxHeartbeats 1000000 in
theorem z1cv (b:Nat)(G:List Ty):Con1 Tryz.prog gl 41 [ptr b,.sl (G.map Ty.cells),(nT 7 []).dv] [(b,mk1 0)] (.tup [(nodeE 0 10 zY [nT 4 [],nT 7 []]).1.dv,(T.ty .list).dv]) [(b,mk1 (nodeE 0 10 zY [nT 4 [],nT 7 []]).2)]:=by
 have w:=z2f (gl:=gl) b 0 (nT 4 []) (nT 7 []) (by decide) (by decide)
 generalize nodeE 0 10 zY [nT 4 [],nT 7 []]=r at *
 have hz4:(nT 4 []).dv = .agg [dint 4,dint 0,dint 0,.sl [],.sl []]:=rfl
 have htd:(nT 7 []).dv = .agg [dint 7,dint 0,dint 0,.sl [],.sl []]:=rfl
 have hnd:natY.dv=DV.agg [dint 1,.sl []]:=rfl
 have hnd2:(T.ty .nat).dv=DV.agg [dint 1,.sl []]:=rfl
 have hld:(T.ty .list).dv=DV.agg [dint 2,.sl []]:=rfl
 have hud:(T.ty .unit).dv=DV.agg [dint 5,.sl []]:=rfl
 rw [htd]
 rw [htd] at w
 refine t_in Tryz.func41 ?_
 intro X hP hgl hf hfn hn hR hids hfit
 refine t_g0 ?_
 refine z0n ?_
 refine z00 ?_
 refine t_no ?_
 refine t_g0 ?_
 refine t_c2 (j2 @hz4 (j2 @hnd @hld)) w z9g ?_
 refine t_ro [(b,mk1 r.2)] (j2 @hnd2 (j2 @hld @hud)) ?_
 try simp [hnd2,hld,hud]
 try all_goals exact t_f
set_option maxHeartbeats 1000000 in
theorem z1cw (b:Nat)(G:List Ty):Con1 Tryz.prog gl 41 [ptr b,.sl (G.map Ty.cells),(nT 13 []).dv] [(b,mk1 0)] (.tup [(nodeE 0 10 zY [nT 4 [],nT 13 []]).1.dv,(T.ty .unit).dv]) [(b,mk1 (nodeE 0 10 zY [nT 4 [],nT 13 []]).2)]:=by
 have w:=z2f (gl:=gl) b 0 (nT 4 []) (nT 13 []) (by decide) (by decide)
 generalize nodeE 0 10 zY [nT 4 [],nT 13 []]=r at *
 have hz4:(nT 4 []).dv = .agg [dint 4,dint 0,dint 0,.sl [],.sl []]:=rfl
 have htd:(nT 13 []).dv = .agg [dint 13,dint 0,dint 0,.sl [],.sl []]:=rfl
 have hnd:natY.dv=DV.agg [dint 1,.sl []]:=rfl
 have hnd2:(T.ty .nat).dv=DV.agg [dint 1,.sl []]:=rfl
 have hld:(T.ty .list).dv=DV.agg [dint 2,.sl []]:=rfl
 have hud:(T.ty .unit).dv=DV.agg [dint 5,.sl []]:=rfl
 rw [htd]
 rw [htd] at w
 refine t_in Tryz.func41 ?_
 intro X hP hgl hf hfn hn hR hids hfit
 refine t_g0 ?_
 refine z0n ?_
 refine z00 ?_
 refine t_no ?_
 refine t_g0 ?_
 refine t_c1 (j2 @hz4 (j2 @hnd @hld)) w ?_
 refine t_ro [(b,mk1 r.2)] (j2 @hnd2 (j2 @hld @hud)) ?_
 try simp [hnd2,hld,hud]
 try all_goals exact t_f
set_option maxHeartbeats 8000000 in
set_option maxRecDepth 100000 in
theorem z1cx (b:Nat)(G:List Ty)(x:Tm)(f1:Tm × Int)(y1:Ty)
  (hx:Con1 Tryz.prog gl 41 [ptr b,.sl (G.map Ty.cells),x.dv] [(b,mk1 0)] (.tup [f1.1.dv,y1.dv]) [(b,mk1 f1.2)])
  (e1:f1.2=0→y1=((.nat:T)).ty) (n1:f1.1.count≤4096)
  :
  Con1 Tryz.prog gl 41 [ptr b,.sl (G.map Ty.cells),(nT 5 [x]).dv] [(b,mk1 0)] (if f1.2=0 then .tup [(unE 5 T.nat f1.1).1.dv,(T.nat).ty.dv] else .tup [zeroTm.dv,zeroTy.dv]) [(b,mk1 (if f1.2=0 then (unE 5 T.nat f1.1).2 else f1.2))]:=by
 obtain ⟨w,f,s,n,c,z0,z1,z2,z3,z4,z5⟩:=z6z 5 T.nat f1.1
 obtain ⟨r,hr⟩:∃ r,r=unE 5 T.nat f1.1:=⟨_,rfl⟩
 rw [← hr]
 rw [← hr] at z5
 clear hr
 have kw:=z1j (gl:=gl) b 0 T.nat (z1a T.nat)
 rw [← z0] at kw
 have fw:=Ty.fold w.1
 have kf:=z1b (gl:=gl) b w.2 0
 rw [← z1] at kf
 have nf:f.1.count≤4096:=by rw [z1];exact z06 _ _ _ _
 have tf:=Tm.fold f.1
 have ks:=z0x (gl:=gl) b f.2 0
 rw [← z2] at ks
 have ns:s.1.count≤4096:=by rw [z2];exact z06 _ _ _ _
 have ts:=Tm.fold s.1
 have kn:=z1r (gl:=gl) b s.2 5 [s.1] (by rw [cnt1];omega)
 rw [← z3] at kn
 have nn:n.1.count≤4096:=by rw [z3];exact z06 _ _ _ _
 have tn:=Tm.fold n.1
 have kc:=z2f (gl:=gl) b n.2 f.1 n.1 (by omega) (by omega)
 rw [← z4] at kc
 have nc:c.1.count≤4096:=by rw [z4];exact z06 _ _ _ _
 have tc:=Tm.fold c.1
 have kr:=z1i (gl:=gl) b c.2 w.1 f1.1 c.1 (by omega) (by omega)
 rw [← z5] at kr
 have hcx:=Tm.cells_eq x
 have fx:=Tm.fold x
 have hg1:=Tm.fold f1.1
 have hgy1:=Ty.fold y1
 have hz4:(nT 4 []).dv = .agg [dint 4,dint 0,dint 0,.sl [],.sl []]:=rfl
 have hzt:zeroTy.dv = .agg [dint 0,.sl []]:=rfl
 have hnd:natY.dv=DV.agg [dint 1,.sl []]:=rfl
 have hnd2:(T.ty .nat).dv=DV.agg [dint 1,.sl []]:=rfl
 have hld:(T.ty .list).dv=DV.agg [dint 2,.sl []]:=rfl
 rw [hnd2] at kw
 have htd:(nT 5 [x]).dv = .agg [dint 5,dint 0,dint 0,.sl [],.sl [x.cells]]:=by first|rfl|(rw [Tm.dv,Tm.cells_eq];rfl)
 rw [htd]
 refine t_in Tryz.func41 ?_
 intro X hP hgl hf hfn hn hR hids hfit
 refine t_g0 ?_
 refine z0n ?_
 refine z00 ?_
 refine z07 ?_
 refine t_g @hcx ?_
 refine t_c1 @fx hx ?_
 by_cases q1:f1.2=0
 rotate_left
 ·rw [if_neg q1,if_neg q1] at hR
  refine t_g @q1 ?_
  repeat (first|refine z0a ?_|refine z01 ?_|refine z0b ?_|refine z03 ?_|refine z02 ?_|refine z04 rfl ?_)
  first|refine z0k hP hf hfn _ ([(b,mk1 f1.2)]) (by first|(simp [go_sem,hP,hgl,hn,zeroTm,hzt];done)|(simp [go_sem,hP,hgl,hn,zeroTm,hzt];rfl)) (by simp [go_sem,hP,hgl,hn,zeroTm,hzt]) (by simp) ?_ hR.2|refine z0m hP hf hfn _ ([(b,mk1 f1.2)]) (by first|(simp [go_sem,hP,hgl,hn,zeroTm,hzt];done)|(simp [go_sem,hP,hgl,hn,zeroTm,hzt];rfl)) (by simp [go_sem,hP,hgl,hn,zeroTm,hzt]) (by simp) ?_ hR.2
  rw [hR.1]
  refine ⟨?_,by simp [zeroTm,hzt]⟩
  try simp [zeroTm,hzt]
  try all_goals (simp [Ty.dv,Ty.cells_eq,Ty.kind_mk,Ty.args_mk,Tm.dv,Tm.cells_eq,Tm.kind_mk,Tm.index_mk,Tm.type_mk,Tm.args_mk,Val.dv,Val.cells_eq,Val.kind_mk,Val.num_mk,Val.list_mk,Val.args_mk,ints])
 rw [if_pos q1,if_pos q1] at hR
 rw [q1] at hx
 refine t_g @q1 ?_
 refine z0j ?_
 refine z00 ?_
 refine t_no ?_
 have hy1:=e1 q1
 subst hy1
 clear e1 hgy1
 have hyk:T.nat.ty.kind=1:=rfl
 have hya:T.nat.ty.args=[]:=rfl
 rw [hyk,hya]
 refine t_g0 ?_
 refine t_c1 @hnd z50 ?_
 refine t_g0 ?_
 refine t_c6 (j2 @fw (j2 @hg1 (j2 @tf (j2 @ts (j2 @tn (j2 @tc @hnd2)))))) kw kf ks kn kc kr ?_
 refine t_ro [(b,mk1 r.2)] @hnd2 ?_
 try simp [hnd2]
 try all_goals exact t_f
set_option maxHeartbeats 8000000 in
set_option maxRecDepth 100000 in
theorem z1cy (b:Nat)(G:List Ty)(x:Tm)(f1:Tm × Int)(y1:Ty)(a d:T)
  (hx:Con1 Tryz.prog gl 41 [ptr b,.sl (G.map Ty.cells),x.dv] [(b,mk1 0)] (.tup [f1.1.dv,y1.dv]) [(b,mk1 f1.2)])
  (e1:f1.2=0→y1=((.pair a d:T)).ty) (n1:f1.1.count≤4096)
  :
  Con1 Tryz.prog gl 41 [ptr b,.sl (G.map Ty.cells),(nT 11 [x]).dv] [(b,mk1 0)] (if f1.2=0 then .tup [(unE 11 (T.pair a d) f1.1).1.dv,(a).ty.dv] else .tup [zeroTm.dv,zeroTy.dv]) [(b,mk1 (if f1.2=0 then (unE 11 (T.pair a d) f1.1).2 else f1.2))]:=by
 obtain ⟨w,f,s,n,c,z0,z1,z2,z3,z4,z5⟩:=z6z 11 (T.pair a d) f1.1
 obtain ⟨r,hr⟩:∃ r,r=unE 11 (T.pair a d) f1.1:=⟨_,rfl⟩
 rw [← hr]
 rw [← hr] at z5
 clear hr
 have kw:=z1j (gl:=gl) b 0 (T.pair a d) (z1a (T.pair a d))
 rw [← z0] at kw
 have fw:=Ty.fold w.1
 have kf:=z1b (gl:=gl) b w.2 0
 rw [← z1] at kf
 have nf:f.1.count≤4096:=by rw [z1];exact z06 _ _ _ _
 have tf:=Tm.fold f.1
 have ks:=z0x (gl:=gl) b f.2 0
 rw [← z2] at ks
 have ns:s.1.count≤4096:=by rw [z2];exact z06 _ _ _ _
 have ts:=Tm.fold s.1
 have kn:=z1r (gl:=gl) b s.2 11 [s.1] (by rw [cnt1];omega)
 rw [← z3] at kn
 have nn:n.1.count≤4096:=by rw [z3];exact z06 _ _ _ _
 have tn:=Tm.fold n.1
 have kc:=z2f (gl:=gl) b n.2 f.1 n.1 (by omega) (by omega)
 rw [← z4] at kc
 have nc:c.1.count≤4096:=by rw [z4];exact z06 _ _ _ _
 have tc:=Tm.fold c.1
 have kr:=z1i (gl:=gl) b c.2 w.1 f1.1 c.1 (by omega) (by omega)
 rw [← z5] at kr
 have hcx:=Tm.cells_eq x
 have fx:=Tm.fold x
 have hg1:=Tm.fold f1.1
 have hgy1:=Ty.fold y1
 have hz4:(nT 4 []).dv = .agg [dint 4,dint 0,dint 0,.sl [],.sl []]:=rfl
 have hzt:zeroTy.dv = .agg [dint 0,.sl []]:=rfl
 have hnd:natY.dv=DV.agg [dint 1,.sl []]:=rfl
 have hnd2:(T.ty .nat).dv=DV.agg [dint 1,.sl []]:=rfl
 have hld:(T.ty .list).dv=DV.agg [dint 2,.sl []]:=rfl
 have htd:(nT 11 [x]).dv = .agg [dint 11,dint 0,dint 0,.sl [],.sl [x.cells]]:=by first|rfl|(rw [Tm.dv,Tm.cells_eq];rfl)
 rw [htd]
 refine t_in Tryz.func41 ?_
 intro X hP hgl hf hfn hn hR hids hfit
 refine t_g0 ?_
 refine z0n ?_
 refine z00 ?_
 refine z07 ?_
 refine t_g @hcx ?_
 refine t_c1 @fx hx ?_
 by_cases q1:f1.2=0
 rotate_left
 ·rw [if_neg q1,if_neg q1] at hR
  refine t_g @q1 ?_
  repeat (first|refine z0a ?_|refine z01 ?_|refine z0b ?_|refine z03 ?_|refine z02 ?_|refine z04 rfl ?_)
  first|refine z0k hP hf hfn _ ([(b,mk1 f1.2)]) (by first|(simp [go_sem,hP,hgl,hn,zeroTm,hzt];done)|(simp [go_sem,hP,hgl,hn,zeroTm,hzt];rfl)) (by simp [go_sem,hP,hgl,hn,zeroTm,hzt]) (by simp) ?_ hR.2|refine z0m hP hf hfn _ ([(b,mk1 f1.2)]) (by first|(simp [go_sem,hP,hgl,hn,zeroTm,hzt];done)|(simp [go_sem,hP,hgl,hn,zeroTm,hzt];rfl)) (by simp [go_sem,hP,hgl,hn,zeroTm,hzt]) (by simp) ?_ hR.2
  rw [hR.1]
  refine ⟨?_,by simp [zeroTm,hzt]⟩
  try simp [zeroTm,hzt]
  try all_goals (simp [Ty.dv,Ty.cells_eq,Ty.kind_mk,Ty.args_mk,Tm.dv,Tm.cells_eq,Tm.kind_mk,Tm.index_mk,Tm.type_mk,Tm.args_mk,Val.dv,Val.cells_eq,Val.kind_mk,Val.num_mk,Val.list_mk,Val.args_mk,ints])
 rw [if_pos q1,if_pos q1] at hR
 rw [q1] at hx
 refine t_g @q1 ?_
 refine z0j ?_
 refine z00 ?_
 refine t_no ?_
 have hy1:=e1 q1
 subst hy1
 clear e1
 have hyk:(T.pair a d).ty.kind=3:=rfl
 have hya:(T.pair a d).ty.args.map Ty.cells=[a.ty.cells,d.ty.cells]:=rfl
 have hca:=Ty.cells_eq a.ty
 have hcc:=Ty.cells_eq d.ty
 have fa:=Ty.fold a.ty
 have fc:=Ty.fold d.ty
 rw [hyk,hya] at hgy1 ⊢
 rw [hca,hcc] at hgy1
 refine t_g0 ?_
 refine t_c1 @hnd z50 ?_
 refine t_g (j2 @hca @hcc) ?_
 refine t_c6 (j2 @fw (j2 @hg1 (j2 @tf (j2 @ts (j2 @tn (j2 @tc @hgy1)))))) kw kf ks kn kc kr ?_
 refine t_ro [(b,mk1 r.2)] (j2 @fa (j2 @fc (j2 @hca @hcc))) ?_
 try simp [fa,fc,hca,hcc]
 try all_goals exact t_f
set_option maxHeartbeats 8000000 in
set_option maxRecDepth 100000 in
theorem z1cz (b:Nat)(G:List Ty)(x:Tm)(f1:Tm × Int)(y1:Ty)(a d:T)
  (hx:Con1 Tryz.prog gl 41 [ptr b,.sl (G.map Ty.cells),x.dv] [(b,mk1 0)] (.tup [f1.1.dv,y1.dv]) [(b,mk1 f1.2)])
  (e1:f1.2=0→y1=((.pair a d:T)).ty) (n1:f1.1.count≤4096)
  :
  Con1 Tryz.prog gl 41 [ptr b,.sl (G.map Ty.cells),(nT 12 [x]).dv] [(b,mk1 0)] (if f1.2=0 then .tup [(unE 12 (T.pair a d) f1.1).1.dv,(d).ty.dv] else .tup [zeroTm.dv,zeroTy.dv]) [(b,mk1 (if f1.2=0 then (unE 12 (T.pair a d) f1.1).2 else f1.2))]:=by
 obtain ⟨w,f,s,n,c,z0,z1,z2,z3,z4,z5⟩:=z6z 12 (T.pair a d) f1.1
 obtain ⟨r,hr⟩:∃ r,r=unE 12 (T.pair a d) f1.1:=⟨_,rfl⟩
 rw [← hr]
 rw [← hr] at z5
 clear hr
 have kw:=z1j (gl:=gl) b 0 (T.pair a d) (z1a (T.pair a d))
 rw [← z0] at kw
 have fw:=Ty.fold w.1
 have kf:=z1b (gl:=gl) b w.2 0
 rw [← z1] at kf
 have nf:f.1.count≤4096:=by rw [z1];exact z06 _ _ _ _
 have tf:=Tm.fold f.1
 have ks:=z0x (gl:=gl) b f.2 0
 rw [← z2] at ks
 have ns:s.1.count≤4096:=by rw [z2];exact z06 _ _ _ _
 have ts:=Tm.fold s.1
 have kn:=z1r (gl:=gl) b s.2 12 [s.1] (by rw [cnt1];omega)
 rw [← z3] at kn
 have nn:n.1.count≤4096:=by rw [z3];exact z06 _ _ _ _
 have tn:=Tm.fold n.1
 have kc:=z2f (gl:=gl) b n.2 f.1 n.1 (by omega) (by omega)
 rw [← z4] at kc
 have nc:c.1.count≤4096:=by rw [z4];exact z06 _ _ _ _
 have tc:=Tm.fold c.1
 have kr:=z1i (gl:=gl) b c.2 w.1 f1.1 c.1 (by omega) (by omega)
 rw [← z5] at kr
 have hcx:=Tm.cells_eq x
 have fx:=Tm.fold x
 have hg1:=Tm.fold f1.1
 have hgy1:=Ty.fold y1
 have hz4:(nT 4 []).dv = .agg [dint 4,dint 0,dint 0,.sl [],.sl []]:=rfl
 have hzt:zeroTy.dv = .agg [dint 0,.sl []]:=rfl
 have hnd:natY.dv=DV.agg [dint 1,.sl []]:=rfl
 have hnd2:(T.ty .nat).dv=DV.agg [dint 1,.sl []]:=rfl
 have hld:(T.ty .list).dv=DV.agg [dint 2,.sl []]:=rfl
 have htd:(nT 12 [x]).dv = .agg [dint 12,dint 0,dint 0,.sl [],.sl [x.cells]]:=by first|rfl|(rw [Tm.dv,Tm.cells_eq];rfl)
 rw [htd]
 refine t_in Tryz.func41 ?_
 intro X hP hgl hf hfn hn hR hids hfit
 refine t_g0 ?_
 refine z0n ?_
 refine z00 ?_
 refine z07 ?_
 refine t_g @hcx ?_
 refine t_c1 @fx hx ?_
 by_cases q1:f1.2=0
 rotate_left
 ·rw [if_neg q1,if_neg q1] at hR
  refine t_g @q1 ?_
  repeat (first|refine z0a ?_|refine z01 ?_|refine z0b ?_|refine z03 ?_|refine z02 ?_|refine z04 rfl ?_)
  first|refine z0k hP hf hfn _ ([(b,mk1 f1.2)]) (by first|(simp [go_sem,hP,hgl,hn,zeroTm,hzt];done)|(simp [go_sem,hP,hgl,hn,zeroTm,hzt];rfl)) (by simp [go_sem,hP,hgl,hn,zeroTm,hzt]) (by simp) ?_ hR.2|refine z0m hP hf hfn _ ([(b,mk1 f1.2)]) (by first|(simp [go_sem,hP,hgl,hn,zeroTm,hzt];done)|(simp [go_sem,hP,hgl,hn,zeroTm,hzt];rfl)) (by simp [go_sem,hP,hgl,hn,zeroTm,hzt]) (by simp) ?_ hR.2
  rw [hR.1]
  refine ⟨?_,by simp [zeroTm,hzt]⟩
  try simp [zeroTm,hzt]
  try all_goals (simp [Ty.dv,Ty.cells_eq,Ty.kind_mk,Ty.args_mk,Tm.dv,Tm.cells_eq,Tm.kind_mk,Tm.index_mk,Tm.type_mk,Tm.args_mk,Val.dv,Val.cells_eq,Val.kind_mk,Val.num_mk,Val.list_mk,Val.args_mk,ints])
 rw [if_pos q1,if_pos q1] at hR
 rw [q1] at hx
 refine t_g @q1 ?_
 refine z0j ?_
 refine z00 ?_
 refine t_no ?_
 have hy1:=e1 q1
 subst hy1
 clear e1
 have hyk:(T.pair a d).ty.kind=3:=rfl
 have hya:(T.pair a d).ty.args.map Ty.cells=[a.ty.cells,d.ty.cells]:=rfl
 have hca:=Ty.cells_eq a.ty
 have hcc:=Ty.cells_eq d.ty
 have fa:=Ty.fold a.ty
 have fc:=Ty.fold d.ty
 rw [hyk,hya] at hgy1 ⊢
 rw [hca,hcc] at hgy1
 refine t_g0 ?_
 refine t_c1 @hnd z50 ?_
 refine t_g (j2 @hca @hcc) ?_
 refine t_c6 (j2 @fw (j2 @hg1 (j2 @tf (j2 @ts (j2 @tn (j2 @tc @hgy1)))))) kw kf ks kn kc kr ?_
 refine t_ro [(b,mk1 r.2)] (j2 @fa (j2 @fc (j2 @hca @hcc))) ?_
 try simp [fa,fc,hca,hcc]
 try all_goals exact t_f
set_option maxHeartbeats 8000000 in
set_option maxRecDepth 100000 in
theorem z1d0 (b:Nat)(G:List Ty)(x y:Tm)(f1 f2:Tm × Int)(y1 y2:Ty)
  (hx:Con1 Tryz.prog gl 41 [ptr b,.sl (G.map Ty.cells),x.dv] [(b,mk1 0)] (.tup [f1.1.dv,y1.dv]) [(b,mk1 f1.2)])
  (hy:Con1 Tryz.prog gl 41 [ptr b,.sl (G.map Ty.cells),y.dv] [(b,mk1 0)] (.tup [f2.1.dv,y2.dv]) [(b,mk1 f2.2)])
  (e1:f1.2=0→y1=((.nat:T)).ty) (n1:f1.1.count≤4096)
  (e2:f2.2=0→y2=((.list:T)).ty) (n2:f2.1.count≤4096)
  (i2:f2.2=0→f2.1.shape=true∧f2.1.idx 549755813888)
  :
  Con1 Tryz.prog gl 41 [ptr b,.sl (G.map Ty.cells),(nT 8 [x,y]).dv] [(b,mk1 0)] (if f1.2=0 then if f2.2=0 then .tup [(binE 8 T.nat T.list f1.1 f2.1).1.dv,(T.list).ty.dv] else .tup [zeroTm.dv,zeroTy.dv] else .tup [zeroTm.dv,zeroTy.dv]) [(b,mk1 (if f1.2=0 then if f2.2=0 then (binE 8 T.nat T.list f1.1 f2.1).2 else f2.2 else f1.2))]:=by
 obtain ⟨g1,g0,s,s1,s0,n,c,w0,w1,m,z0,z1,z2,z3,z4,z5,z6,z7,z8,z9,z10⟩:=z8n 8 T.nat T.list f1.1 f2.1
 obtain ⟨r,hr⟩:∃ r,r=binE 8 T.nat T.list f1.1 f2.1:=⟨_,rfl⟩
 rw [← hr]
 rw [← hr] at z10
 clear hr
 have nu2:(f2.1.upN 0 1).count≤4096:=by rw [z2r];exact n2
 have kg1:=z1b (gl:=gl) b 0 1
 rw [← z0] at kg1
 have ng1:g1.1.count≤4096:=by rw [z0];exact z06 _ _ _ _
 have tg1:=Tm.fold g1.1
 have kg0:=z1b (gl:=gl) b g1.2 0
 rw [← z1] at kg0
 have ng0:g0.1.count≤4096:=by rw [z1];exact z06 _ _ _ _
 have tg0:=Tm.fold g0.1
 have ks:=z64 (gl:=gl) b g0.2 g1.1 [g0.1] (by omega) (by intro x hx;simp only [List.mem_cons,List.not_mem_nil,or_false] at hx;rcases hx with rfl <;> omega) (by simp)
 rw [← z2] at ks
 have ns:s.1.count≤268435456:=by rw [z2];exact z56 _ _ _ (by omega)
 have ts:=Tm.fold s.1
 have ks1:=z0x (gl:=gl) b s.2 1
 rw [← z3] at ks1
 have ns1:s1.1.count≤4096:=by rw [z3];exact z06 _ _ _ _
 have ts1:=Tm.fold s1.1
 have ks0:=z0x (gl:=gl) b s1.2 0
 rw [← z4] at ks0
 have ns0:s0.1.count≤4096:=by rw [z4];exact z06 _ _ _ _
 have ts0:=Tm.fold s0.1
 have kn:=z1r (gl:=gl) b s0.2 8 [s1.1,s0.1] (by rw [cnt2];omega)
 rw [← z5] at kn
 have nn:n.1.count≤4096:=by rw [z5];exact z06 _ _ _ _
 have tn:=Tm.fold n.1
 have kc:=z2f (gl:=gl) b n.2 s.1 n.1 (by omega) (by omega)
 rw [← z6] at kc
 have nc:c.1.count≤4096:=by rw [z6];exact z06 _ _ _ _
 have tc:=Tm.fold c.1
 have kw0:=z1j (gl:=gl) b c.2 T.nat (z1a T.nat)
 rw [← z7] at kw0
 have fw0:=Ty.fold w0.1
 have kw1:=z1j (gl:=gl) b w0.2 T.list (z1a T.list)
 rw [← z8] at kw1
 have fw1:=Ty.fold w1.1
 have km:=z1i (gl:=gl) b w1.2 w1.1 (f2.1.upN 0 1) c.1 (by omega) (by omega)
 rw [← z9] at km
 have nm:m.1.count≤4096:=by rw [z9];exact z06 _ _ _ _
 have tm:=Tm.fold m.1
 have kr:=z1i (gl:=gl) b m.2 w0.1 f1.1 m.1 (by omega) (by omega)
 rw [← z10] at kr
 have hcx:=Tm.cells_eq x
 have fx:=Tm.fold x
 have hcy:=Tm.cells_eq y
 have fy:=Tm.fold y
 have hg1:=Tm.fold f1.1
 have hgy1:=Ty.fold y1
 have hg2:=Tm.fold f2.1
 have hgy2:=Ty.fold y2
 have hgu2:=Tm.fold (f2.1.upN 0 1)
 have hz4:(nT 4 []).dv = .agg [dint 4,dint 0,dint 0,.sl [],.sl []]:=rfl
 have hzt:zeroTy.dv = .agg [dint 0,.sl []]:=rfl
 have hnd:natY.dv=DV.agg [dint 1,.sl []]:=rfl
 have hnd2:(T.ty .nat).dv=DV.agg [dint 1,.sl []]:=rfl
 have hld:(T.ty .list).dv=DV.agg [dint 2,.sl []]:=rfl
 have htd:(nT 8 [x,y]).dv = .agg [dint 8,dint 0,dint 0,.sl [],.sl [x.cells,y.cells]]:=by first|rfl|(rw [Tm.dv,Tm.cells_eq];rfl)
 rw [htd]
 refine t_in Tryz.func41 ?_
 intro X hP hgl hf hfn hn hR hids hfit
 refine t_g0 ?_
 refine z0n ?_
 refine z00 ?_
 refine z07 ?_
 refine t_g (j2 @hcx @hcy) ?_
 refine t_c1 @fx hx ?_
 by_cases q1:f1.2=0
 rotate_left
 ·rw [if_neg q1,if_neg q1] at hR
  refine t_g @q1 ?_
  repeat (first|refine z0a ?_|refine z01 ?_|refine z0b ?_|refine z03 ?_|refine z02 ?_|refine z04 rfl ?_)
  first|refine z0k hP hf hfn _ ([(b,mk1 f1.2)]) (by first|(simp [go_sem,hP,hgl,hn,zeroTm,hzt];done)|(simp [go_sem,hP,hgl,hn,zeroTm,hzt];rfl)) (by simp [go_sem,hP,hgl,hn,zeroTm,hzt]) (by simp) ?_ hR.2|refine z0m hP hf hfn _ ([(b,mk1 f1.2)]) (by first|(simp [go_sem,hP,hgl,hn,zeroTm,hzt];done)|(simp [go_sem,hP,hgl,hn,zeroTm,hzt];rfl)) (by simp [go_sem,hP,hgl,hn,zeroTm,hzt]) (by simp) ?_ hR.2
  rw [hR.1]
  refine ⟨?_,by simp [zeroTm,hzt]⟩
  try simp [zeroTm,hzt]
  try all_goals (simp [Ty.dv,Ty.cells_eq,Ty.kind_mk,Ty.args_mk,Tm.dv,Tm.cells_eq,Tm.kind_mk,Tm.index_mk,Tm.type_mk,Tm.args_mk,Val.dv,Val.cells_eq,Val.kind_mk,Val.num_mk,Val.list_mk,Val.args_mk,ints])
 rw [if_pos q1,if_pos q1] at hR
 rw [q1] at hx
 refine t_g @q1 ?_
 refine z0c [(1058,58),(1062,62)] (s':=[(.slot 0,.one (.v (ptr b))),(.slot 1,.one (.v (.sl (G.map Ty.cells)))),(.slot 5,.one (.loc 5 0)),(.loc 5,.row ([.v (dint 8),.v (dint 0),.v (dint 0),.v (.sl []),.v (.sl [x.cells,y.cells])])),(.slot 6,.one (.loc 6 0)),(.loc 6,.row ([.v (dint 0),.v (dint 0),.v (dint 0),.own 0 [],.own 0 []])),(.slot 7,.one (.loc 7 0)),(.loc 7,.row ([.v (dint 0),.own 0 []])),(.slot 8,.one (.own 1058 [[dint f1.1.kind,dint f1.1.index,dint f1.1.type.kind,.sl (f1.1.type.args.map Ty.cells),.sl (f1.1.args.map Tm.cells)]])),(.tok 1058,.tk 5 1),(.slot 9,.one (.own 1062 [[dint y1.kind,.sl (y1.args.map Ty.cells)]])),(.tok 1062,.tk 2 1),(.slot 10,.one (.v (.sl (G.map Ty.cells)))),(.slot 35,.one (.v (.sl [x.cells,y.cells]))),(.slot 36,.one (.v (dint 2))),(.slot 37,.one (.v (dint 1))),(.heap  b,.row ([.v (dint 0)]))]) (by simp [go_sem]) (by simp [go_sem,hcx,hcy]) (by simp [go_sem]) ?_
 refine z0j ?_
 refine z00 ?_
 refine z07 ?_
 refine t_g (j2 @hcx @hcy) ?_
 refine t_c1 @fy hy ?_
 by_cases q2:f2.2=0
 rotate_left
 ·rw [if_neg q2,if_neg q2] at hR
  refine t_g @q2 ?_
  repeat (first|refine z0a ?_|refine z01 ?_|refine z0b ?_|refine z03 ?_|refine z02 ?_|refine z04 rfl ?_)
  first|refine z0k hP hf hfn _ ([(b,mk1 f2.2)]) (by first|(simp [go_sem,hP,hgl,hn,zeroTm,hzt];done)|(simp [go_sem,hP,hgl,hn,zeroTm,hzt];rfl)) (by simp [go_sem,hP,hgl,hn,zeroTm,hzt]) (by simp) ?_ hR.2|refine z0m hP hf hfn _ ([(b,mk1 f2.2)]) (by first|(simp [go_sem,hP,hgl,hn,zeroTm,hzt];done)|(simp [go_sem,hP,hgl,hn,zeroTm,hzt];rfl)) (by simp [go_sem,hP,hgl,hn,zeroTm,hzt]) (by simp) ?_ hR.2
  rw [hR.1]
  refine ⟨?_,by simp [zeroTm,hzt]⟩
  try simp [zeroTm,hzt]
  try all_goals (simp [Ty.dv,Ty.cells_eq,Ty.kind_mk,Ty.args_mk,Tm.dv,Tm.cells_eq,Tm.kind_mk,Tm.index_mk,Tm.type_mk,Tm.args_mk,Val.dv,Val.cells_eq,Val.kind_mk,Val.num_mk,Val.list_mk,Val.args_mk,ints])
 rw [if_pos q2,if_pos q2] at hR
 rw [q2] at hy
 refine t_g @q2 ?_
 refine z0j ?_
 refine z00 ?_
 refine t_no ?_
 have hy1:=e1 q1
 have hy2:=e2 q2
 have ku:=z63 (gl:=gl) f2.1 1 (i2 q2).1 (i2 q2).2 (by decide) (by decide) (by omega)
 subst hy1 hy2
 clear e1 e2 i2
 have hyk:T.nat.ty.kind=1:=rfl
 have hya:T.nat.ty.args=[]:=rfl
 have hzk:T.list.ty.kind=2:=rfl
 have hza:T.list.ty.args=[]:=rfl
 rw [hyk,hya,hzk,hza]
 rw [hnd2] at kw0
 rw [hld] at kw1
 refine t_g0 ?_
 refine t_c1 @hld z9g ?_
 refine t_g0 ?_
 refine t_c7 (j2 @tg1 (j2 @tg0 (j2 @ts (j2 @ts1 (j2 @ts0 (j2 @tn @tc)))))) kg1 kg0 ks ks1 ks0 kn kc ?_
 refine t_c5 (j2 @hnd2 (j2 @hld (j2 @fw0 (j2 @fw1 (j2 @hg1 (j2 @hg2 (j2 @hgu2 (j2 @tc @tm)))))))) kw0 kw1 ku km kr ?_
 refine t_ro [(b,mk1 r.2)] @hld ?_
 try simp [hld]
 try all_goals exact t_f
set_option maxHeartbeats 8000000 in
set_option maxRecDepth 100000 in
theorem z1d1 (b:Nat)(G:List Ty)(x y:Tm)(f1 f2:Tm × Int)(y1 y2:Ty)(a d:T)
  (hx:Con1 Tryz.prog gl 41 [ptr b,.sl (G.map Ty.cells),x.dv] [(b,mk1 0)] (.tup [f1.1.dv,y1.dv]) [(b,mk1 f1.2)])
  (hy:Con1 Tryz.prog gl 41 [ptr b,.sl (G.map Ty.cells),y.dv] [(b,mk1 0)] (.tup [f2.1.dv,y2.dv]) [(b,mk1 f2.2)])
  (e1:f1.2=0→y1=((a:T)).ty) (n1:f1.1.count≤4096)
  (e2:f2.2=0→y2=((d:T)).ty) (n2:f2.1.count≤4096)
  (i2:f2.2=0→f2.1.shape=true∧f2.1.idx 549755813888)
  :
  Con1 Tryz.prog gl 41 [ptr b,.sl (G.map Ty.cells),(nT 10 [x,y]).dv] [(b,mk1 0)] (if f1.2=0 then if f2.2=0 then .tup [(binE 10 a d f1.1 f2.1).1.dv,(T.pair a d).ty.dv] else .tup [zeroTm.dv,zeroTy.dv] else .tup [zeroTm.dv,zeroTy.dv]) [(b,mk1 (if f1.2=0 then if f2.2=0 then (binE 10 a d f1.1 f2.1).2 else f2.2 else f1.2))]:=by
 obtain ⟨g1,g0,s,s1,s0,n,c,w0,w1,m,z0,z1,z2,z3,z4,z5,z6,z7,z8,z9,z10⟩:=z8n 10 a d f1.1 f2.1
 obtain ⟨r,hr⟩:∃ r,r=binE 10 a d f1.1 f2.1:=⟨_,rfl⟩
 rw [← hr]
 rw [← hr] at z10
 clear hr
 have nu2:(f2.1.upN 0 1).count≤4096:=by rw [z2r];exact n2
 have kg1:=z1b (gl:=gl) b 0 1
 rw [← z0] at kg1
 have ng1:g1.1.count≤4096:=by rw [z0];exact z06 _ _ _ _
 have tg1:=Tm.fold g1.1
 have kg0:=z1b (gl:=gl) b g1.2 0
 rw [← z1] at kg0
 have ng0:g0.1.count≤4096:=by rw [z1];exact z06 _ _ _ _
 have tg0:=Tm.fold g0.1
 have ks:=z64 (gl:=gl) b g0.2 g1.1 [g0.1] (by omega) (by intro x hx;simp only [List.mem_cons,List.not_mem_nil,or_false] at hx;rcases hx with rfl <;> omega) (by simp)
 rw [← z2] at ks
 have ns:s.1.count≤268435456:=by rw [z2];exact z56 _ _ _ (by omega)
 have ts:=Tm.fold s.1
 have ks1:=z0x (gl:=gl) b s.2 1
 rw [← z3] at ks1
 have ns1:s1.1.count≤4096:=by rw [z3];exact z06 _ _ _ _
 have ts1:=Tm.fold s1.1
 have ks0:=z0x (gl:=gl) b s1.2 0
 rw [← z4] at ks0
 have ns0:s0.1.count≤4096:=by rw [z4];exact z06 _ _ _ _
 have ts0:=Tm.fold s0.1
 have kn:=z1r (gl:=gl) b s0.2 10 [s1.1,s0.1] (by rw [cnt2];omega)
 rw [← z5] at kn
 have nn:n.1.count≤4096:=by rw [z5];exact z06 _ _ _ _
 have tn:=Tm.fold n.1
 have kc:=z2f (gl:=gl) b n.2 s.1 n.1 (by omega) (by omega)
 rw [← z6] at kc
 have nc:c.1.count≤4096:=by rw [z6];exact z06 _ _ _ _
 have tc:=Tm.fold c.1
 have kw0:=z1j (gl:=gl) b c.2 a (z1a a)
 rw [← z7] at kw0
 have fw0:=Ty.fold w0.1
 have kw1:=z1j (gl:=gl) b w0.2 d (z1a d)
 rw [← z8] at kw1
 have fw1:=Ty.fold w1.1
 have km:=z1i (gl:=gl) b w1.2 w1.1 (f2.1.upN 0 1) c.1 (by omega) (by omega)
 rw [← z9] at km
 have nm:m.1.count≤4096:=by rw [z9];exact z06 _ _ _ _
 have tm:=Tm.fold m.1
 have kr:=z1i (gl:=gl) b m.2 w0.1 f1.1 m.1 (by omega) (by omega)
 rw [← z10] at kr
 have hcx:=Tm.cells_eq x
 have fx:=Tm.fold x
 have hcy:=Tm.cells_eq y
 have fy:=Tm.fold y
 have hg1:=Tm.fold f1.1
 have hgy1:=Ty.fold y1
 have hg2:=Tm.fold f2.1
 have hgy2:=Ty.fold y2
 have hgu2:=Tm.fold (f2.1.upN 0 1)
 have hz4:(nT 4 []).dv = .agg [dint 4,dint 0,dint 0,.sl [],.sl []]:=rfl
 have hzt:zeroTy.dv = .agg [dint 0,.sl []]:=rfl
 have hnd:natY.dv=DV.agg [dint 1,.sl []]:=rfl
 have hnd2:(T.ty .nat).dv=DV.agg [dint 1,.sl []]:=rfl
 have hld:(T.ty .list).dv=DV.agg [dint 2,.sl []]:=rfl
 have htd:(nT 10 [x,y]).dv = .agg [dint 10,dint 0,dint 0,.sl [],.sl [x.cells,y.cells]]:=by first|rfl|(rw [Tm.dv,Tm.cells_eq];rfl)
 rw [htd]
 refine t_in Tryz.func41 ?_
 intro X hP hgl hf hfn hn hR hids hfit
 refine t_g0 ?_
 refine z0n ?_
 refine z00 ?_
 refine z07 ?_
 refine t_g (j2 @hcx @hcy) ?_
 refine t_c1 @fx hx ?_
 by_cases q1:f1.2=0
 rotate_left
 ·rw [if_neg q1,if_neg q1] at hR
  refine t_g @q1 ?_
  repeat (first|refine z0a ?_|refine z01 ?_|refine z0b ?_|refine z03 ?_|refine z02 ?_|refine z04 rfl ?_)
  first|refine z0k hP hf hfn _ ([(b,mk1 f1.2)]) (by first|(simp [go_sem,hP,hgl,hn,zeroTm,hzt];done)|(simp [go_sem,hP,hgl,hn,zeroTm,hzt];rfl)) (by simp [go_sem,hP,hgl,hn,zeroTm,hzt]) (by simp) ?_ hR.2|refine z0m hP hf hfn _ ([(b,mk1 f1.2)]) (by first|(simp [go_sem,hP,hgl,hn,zeroTm,hzt];done)|(simp [go_sem,hP,hgl,hn,zeroTm,hzt];rfl)) (by simp [go_sem,hP,hgl,hn,zeroTm,hzt]) (by simp) ?_ hR.2
  rw [hR.1]
  refine ⟨?_,by simp [zeroTm,hzt]⟩
  try simp [zeroTm,hzt]
  try all_goals (simp [Ty.dv,Ty.cells_eq,Ty.kind_mk,Ty.args_mk,Tm.dv,Tm.cells_eq,Tm.kind_mk,Tm.index_mk,Tm.type_mk,Tm.args_mk,Val.dv,Val.cells_eq,Val.kind_mk,Val.num_mk,Val.list_mk,Val.args_mk,ints])
 rw [if_pos q1,if_pos q1] at hR
 rw [q1] at hx
 refine t_g @q1 ?_
 refine z0c [(1058,58),(1062,62)] (s':=[(.slot 0,.one (.v (ptr b))),(.slot 1,.one (.v (.sl (G.map Ty.cells)))),(.slot 5,.one (.loc 5 0)),(.loc 5,.row ([.v (dint 10),.v (dint 0),.v (dint 0),.v (.sl []),.v (.sl [x.cells,y.cells])])),(.slot 6,.one (.loc 6 0)),(.loc 6,.row ([.v (dint 0),.v (dint 0),.v (dint 0),.own 0 [],.own 0 []])),(.slot 7,.one (.loc 7 0)),(.loc 7,.row ([.v (dint 0),.own 0 []])),(.slot 8,.one (.own 1058 [[dint f1.1.kind,dint f1.1.index,dint f1.1.type.kind,.sl (f1.1.type.args.map Ty.cells),.sl (f1.1.args.map Tm.cells)]])),(.tok 1058,.tk 5 1),(.slot 9,.one (.own 1062 [[dint y1.kind,.sl (y1.args.map Ty.cells)]])),(.tok 1062,.tk 2 1),(.slot 10,.one (.v (.sl (G.map Ty.cells)))),(.slot 35,.one (.v (.sl [x.cells,y.cells]))),(.slot 36,.one (.v (dint 2))),(.slot 37,.one (.v (dint 1))),(.heap  b,.row ([.v (dint 0)]))]) (by simp [go_sem]) (by simp [go_sem,hcx,hcy]) (by simp [go_sem]) ?_
 refine z0j ?_
 refine z00 ?_
 refine z07 ?_
 refine t_g (j2 @hcx @hcy) ?_
 refine t_c1 @fy hy ?_
 by_cases q2:f2.2=0
 rotate_left
 ·rw [if_neg q2,if_neg q2] at hR
  refine t_g @q2 ?_
  repeat (first|refine z0a ?_|refine z01 ?_|refine z0b ?_|refine z03 ?_|refine z02 ?_|refine z04 rfl ?_)
  first|refine z0k hP hf hfn _ ([(b,mk1 f2.2)]) (by first|(simp [go_sem,hP,hgl,hn,zeroTm,hzt];done)|(simp [go_sem,hP,hgl,hn,zeroTm,hzt];rfl)) (by simp [go_sem,hP,hgl,hn,zeroTm,hzt]) (by simp) ?_ hR.2|refine z0m hP hf hfn _ ([(b,mk1 f2.2)]) (by first|(simp [go_sem,hP,hgl,hn,zeroTm,hzt];done)|(simp [go_sem,hP,hgl,hn,zeroTm,hzt];rfl)) (by simp [go_sem,hP,hgl,hn,zeroTm,hzt]) (by simp) ?_ hR.2
  rw [hR.1]
  refine ⟨?_,by simp [zeroTm,hzt]⟩
  try simp [zeroTm,hzt]
  try all_goals (simp [Ty.dv,Ty.cells_eq,Ty.kind_mk,Ty.args_mk,Tm.dv,Tm.cells_eq,Tm.kind_mk,Tm.index_mk,Tm.type_mk,Tm.args_mk,Val.dv,Val.cells_eq,Val.kind_mk,Val.num_mk,Val.list_mk,Val.args_mk,ints])
 rw [if_pos q2,if_pos q2] at hR
 rw [q2] at hy
 refine t_g @q2 ?_
 refine z0j ?_
 refine z00 ?_
 refine t_no ?_
 have hy1:=e1 q1
 have hy2:=e2 q2
 have ku:=z63 (gl:=gl) f2.1 1 (i2 q2).1 (i2 q2).2 (by decide) (by decide) (by omega)
 subst hy1 hy2
 clear e1 e2 i2
 have fa:=Ty.fold a.ty
 have fc:=Ty.fold d.ty
 have hpc:(T.pair a d).ty.dv = .agg [dint 3,.sl [a.ty.cells,d.ty.cells]]:=rfl
 have hca:=Ty.cells_eq a.ty
 have hcc:=Ty.cells_eq d.ty
 refine t_g0 ?_
 refine t_c1 @hld z9g ?_
 refine t_g0 ?_
 refine t_c7 (j2 @tg1 (j2 @tg0 (j2 @ts (j2 @ts1 (j2 @ts0 (j2 @tn @tc)))))) kg1 kg0 ks ks1 ks0 kn kc ?_
 refine t_c5 (j2 @fa (j2 @fc (j2 @fw0 (j2 @fw1 (j2 @hg1 (j2 @hg2 (j2 @hgu2 (j2 @tc @tm)))))))) kw0 kw1 ku km kr ?_
 refine t_ro [(b,mk1 r.2)] (j2 @hpc (j2 @hca @hcc)) ?_
 try simp [hpc,hca,hcc]
 try all_goals exact t_f
set_option maxHeartbeats 8000000 in
set_option maxRecDepth 100000 in
theorem z1d2 (b:Nat)(G:List Ty)(x y:Tm)(f1 f2:Tm × Int)(y1 y2:Ty)(a d:T)
  (hx:Con1 Tryz.prog gl 41 [ptr b,.sl (G.map Ty.cells),x.dv] [(b,mk1 0)] (.tup [f1.1.dv,y1.dv]) [(b,mk1 f1.2)])
  (hy:Con1 Tryz.prog gl 41 [ptr b,.sl (G.map Ty.cells),y.dv] [(b,mk1 0)] (.tup [f2.1.dv,y2.dv]) [(b,mk1 f2.2)])
  (e1:f1.2=0→y1=((.fn a d:T)).ty) (n1:f1.1.count≤4096)
  (e2:f2.2=0→y2=((a:T)).ty) (n2:f2.1.count≤4096)
  (i2:f2.2=0→f2.1.shape=true∧f2.1.idx 549755813888)
  :
  Con1 Tryz.prog gl 41 [ptr b,.sl (G.map Ty.cells),(nT 3 [x,y]).dv] [(b,mk1 0)] (if f1.2=0 then if f2.2=0 then .tup [(appE a d f1.1 f2.1).1.dv,(d).ty.dv] else .tup [zeroTm.dv,zeroTy.dv] else .tup [zeroTm.dv,zeroTy.dv]) [(b,mk1 (if f1.2=0 then if f2.2=0 then (appE a d f1.1 f2.1).2 else f2.2 else f1.2))]:=by
 obtain ⟨s1,s0,c,g2,g1,g0,s,u,z,o,w1,w2,m2,m1,w0,z0,z1,z2,z3,z4,z5,z6,z7,z8,z9,z10,z11,z12,z13,z14,z15⟩:=zat a d f1.1 f2.1
 obtain ⟨r,hr⟩:∃ r,r=appE a d f1.1 f2.1:=⟨_,rfl⟩
 rw [← hr]
 rw [← hr] at z15
 clear hr
 have nu2:(f2.1.upN 0 1).count≤4096:=by rw [z2r];exact n2
 have ks1:=z0x (gl:=gl) b 0 1
 rw [← z0] at ks1
 have ns1:s1.1.count≤4096:=by rw [z0];exact z06 _ _ _ _
 have ts1:=Tm.fold s1.1
 have ks0:=z0x (gl:=gl) b s1.2 0
 rw [← z1] at ks0
 have ns0:s0.1.count≤4096:=by rw [z1];exact z06 _ _ _ _
 have ts0:=Tm.fold s0.1
 have kc:=z1r (gl:=gl) b s0.2 3 [s1.1,s0.1] (by rw [cnt2];omega)
 rw [← z2] at kc
 have nc:c.1.count≤4096:=by rw [z2];exact z06 _ _ _ _
 have tc:=Tm.fold c.1
 have kg2:=z1b (gl:=gl) b c.2 2
 rw [← z3] at kg2
 have ng2:g2.1.count≤4096:=by rw [z3];exact z06 _ _ _ _
 have tg2:=Tm.fold g2.1
 have kg1:=z1b (gl:=gl) b g2.2 1
 rw [← z4] at kg1
 have ng1:g1.1.count≤4096:=by rw [z4];exact z06 _ _ _ _
 have tg1:=Tm.fold g1.1
 have kg0:=z1b (gl:=gl) b g1.2 0
 rw [← z5] at kg0
 have ng0:g0.1.count≤4096:=by rw [z5];exact z06 _ _ _ _
 have tg0:=Tm.fold g0.1
 have ks:=z64 (gl:=gl) b g0.2 g2.1 [g1.1,g0.1] (by omega) (by intro x hx;simp only [List.mem_cons,List.not_mem_nil,or_false] at hx;rcases hx with rfl|rfl <;> omega) (by simp)
 rw [← z6] at ks
 have ns:s.1.count≤268435456:=by rw [z6];exact z56 _ _ _ (by omega)
 have ts:=Tm.fold s.1
 have ku:=z1r (gl:=gl) b s.2 5 [s.1] (by rw [cnt1];omega)
 rw [← z7] at ku
 have nu:u.1.count≤4096:=by rw [z7];exact z06 _ _ _ _
 have tu:=Tm.fold u.1
 have kz:=z0x (gl:=gl) b u.2 0
 rw [← z8] at kz
 have nz:z.1.count≤4096:=by rw [z8];exact z06 _ _ _ _
 have tz:=Tm.fold z.1
 have ko:=z2f (gl:=gl) b z.2 u.1 z.1 (by omega) (by omega)
 rw [← z9] at ko
 have no:o.1.count≤4096:=by rw [z9];exact z06 _ _ _ _
 have to:=Tm.fold o.1
 have kw1:=z1j (gl:=gl) b o.2 a (z1a a)
 rw [← z10] at kw1
 have fw1:=Ty.fold w1.1
 have kw2:=z1j (gl:=gl) b w1.2 d (z1a d)
 rw [← z11] at kw2
 have fw2:=Ty.fold w2.1
 have km2:=z1i (gl:=gl) b w2.2 w2.1 c.1 o.1 (by omega) (by omega)
 rw [← z12] at km2
 have nm2:m2.1.count≤4096:=by rw [z12];exact z06 _ _ _ _
 have tm2:=Tm.fold m2.1
 have km1:=z1i (gl:=gl) b m2.2 w1.1 (f2.1.upN 0 1) m2.1 (by omega) (by omega)
 rw [← z13] at km1
 have nm1:m1.1.count≤4096:=by rw [z13];exact z06 _ _ _ _
 have tm1:=Tm.fold m1.1
 have kw0:=z1j (gl:=gl) b m1.2 (T.fn a d) (z1a (T.fn a d))
 rw [← z14] at kw0
 have fw0:=Ty.fold w0.1
 have kr:=z1i (gl:=gl) b w0.2 w0.1 f1.1 m1.1 (by omega) (by omega)
 rw [← z15] at kr
 have hcx:=Tm.cells_eq x
 have fx:=Tm.fold x
 have hcy:=Tm.cells_eq y
 have fy:=Tm.fold y
 have hg1:=Tm.fold f1.1
 have hgy1:=Ty.fold y1
 have hg2:=Tm.fold f2.1
 have hgy2:=Ty.fold y2
 have hgu2:=Tm.fold (f2.1.upN 0 1)
 have hz4:(nT 4 []).dv = .agg [dint 4,dint 0,dint 0,.sl [],.sl []]:=rfl
 have hzt:zeroTy.dv = .agg [dint 0,.sl []]:=rfl
 have hnd:natY.dv=DV.agg [dint 1,.sl []]:=rfl
 have hnd2:(T.ty .nat).dv=DV.agg [dint 1,.sl []]:=rfl
 have hld:(T.ty .list).dv=DV.agg [dint 2,.sl []]:=rfl
 have htd:(nT 3 [x,y]).dv = .agg [dint 3,dint 0,dint 0,.sl [],.sl [x.cells,y.cells]]:=by first|rfl|(rw [Tm.dv,Tm.cells_eq];rfl)
 rw [htd]
 refine t_in Tryz.func41 ?_
 intro X hP hgl hf hfn hn hR hids hfit
 refine t_g0 ?_
 refine z0n ?_
 refine z00 ?_
 refine z07 ?_
 refine t_g (j2 @hcx @hcy) ?_
 refine t_c1 @fx hx ?_
 by_cases q1:f1.2=0
 rotate_left
 ·rw [if_neg q1,if_neg q1] at hR
  refine t_g @q1 ?_
  repeat (first|refine z0a ?_|refine z01 ?_|refine z0b ?_|refine z03 ?_|refine z02 ?_|refine z04 rfl ?_)
  first|refine z0k hP hf hfn _ ([(b,mk1 f1.2)]) (by first|(simp [go_sem,hP,hgl,hn,zeroTm,hzt];done)|(simp [go_sem,hP,hgl,hn,zeroTm,hzt];rfl)) (by simp [go_sem,hP,hgl,hn,zeroTm,hzt]) (by simp) ?_ hR.2|refine z0m hP hf hfn _ ([(b,mk1 f1.2)]) (by first|(simp [go_sem,hP,hgl,hn,zeroTm,hzt];done)|(simp [go_sem,hP,hgl,hn,zeroTm,hzt];rfl)) (by simp [go_sem,hP,hgl,hn,zeroTm,hzt]) (by simp) ?_ hR.2
  rw [hR.1]
  refine ⟨?_,by simp [zeroTm,hzt]⟩
  try simp [zeroTm,hzt]
  try all_goals (simp [Ty.dv,Ty.cells_eq,Ty.kind_mk,Ty.args_mk,Tm.dv,Tm.cells_eq,Tm.kind_mk,Tm.index_mk,Tm.type_mk,Tm.args_mk,Val.dv,Val.cells_eq,Val.kind_mk,Val.num_mk,Val.list_mk,Val.args_mk,ints])
 rw [if_pos q1,if_pos q1] at hR
 rw [q1] at hx
 refine t_g @q1 ?_
 refine z0c [(1058,58),(1062,62)] (s':=[(.slot 0,.one (.v (ptr b))),(.slot 1,.one (.v (.sl (G.map Ty.cells)))),(.slot 5,.one (.loc 5 0)),(.loc 5,.row ([.v (dint 3),.v (dint 0),.v (dint 0),.v (.sl []),.v (.sl [x.cells,y.cells])])),(.slot 6,.one (.loc 6 0)),(.loc 6,.row ([.v (dint 0),.v (dint 0),.v (dint 0),.own 0 [],.own 0 []])),(.slot 7,.one (.loc 7 0)),(.loc 7,.row ([.v (dint 0),.own 0 []])),(.slot 8,.one (.own 1058 [[dint f1.1.kind,dint f1.1.index,dint f1.1.type.kind,.sl (f1.1.type.args.map Ty.cells),.sl (f1.1.args.map Tm.cells)]])),(.tok 1058,.tk 5 1),(.slot 9,.one (.own 1062 [[dint y1.kind,.sl (y1.args.map Ty.cells)]])),(.tok 1062,.tk 2 1),(.slot 10,.one (.v (.sl (G.map Ty.cells)))),(.slot 35,.one (.v (.sl [x.cells,y.cells]))),(.slot 36,.one (.v (dint 2))),(.slot 37,.one (.v (dint 1))),(.heap  b,.row ([.v (dint 0)]))]) (by simp [go_sem]) (by simp [go_sem,hcx,hcy]) (by simp [go_sem]) ?_
 refine z0j ?_
 refine z00 ?_
 refine z07 ?_
 refine t_g (j2 @hcx @hcy) ?_
 refine t_c1 @fy hy ?_
 by_cases q2:f2.2=0
 rotate_left
 ·rw [if_neg q2,if_neg q2] at hR
  refine t_g @q2 ?_
  repeat (first|refine z0a ?_|refine z01 ?_|refine z0b ?_|refine z03 ?_|refine z02 ?_|refine z04 rfl ?_)
  first|refine z0k hP hf hfn _ ([(b,mk1 f2.2)]) (by first|(simp [go_sem,hP,hgl,hn,zeroTm,hzt];done)|(simp [go_sem,hP,hgl,hn,zeroTm,hzt];rfl)) (by simp [go_sem,hP,hgl,hn,zeroTm,hzt]) (by simp) ?_ hR.2|refine z0m hP hf hfn _ ([(b,mk1 f2.2)]) (by first|(simp [go_sem,hP,hgl,hn,zeroTm,hzt];done)|(simp [go_sem,hP,hgl,hn,zeroTm,hzt];rfl)) (by simp [go_sem,hP,hgl,hn,zeroTm,hzt]) (by simp) ?_ hR.2
  rw [hR.1]
  refine ⟨?_,by simp [zeroTm,hzt]⟩
  try simp [zeroTm,hzt]
  try all_goals (simp [Ty.dv,Ty.cells_eq,Ty.kind_mk,Ty.args_mk,Tm.dv,Tm.cells_eq,Tm.kind_mk,Tm.index_mk,Tm.type_mk,Tm.args_mk,Val.dv,Val.cells_eq,Val.kind_mk,Val.num_mk,Val.list_mk,Val.args_mk,ints])
 rw [if_pos q2,if_pos q2] at hR
 rw [q2] at hy
 refine t_g @q2 ?_
 refine z0j ?_
 refine z00 ?_
 refine t_no ?_
 have hy1:=e1 q1
 have hy2:=e2 q2
 have kup:=z63 (gl:=gl) f2.1 1 (i2 q2).1 (i2 q2).2 (by decide) (by decide) (by omega)
 subst hy1 hy2
 clear e1 e2 i2
 have hyk:(T.fn a d).ty.kind=4:=rfl
 have hya:(T.fn a d).ty.args.map Ty.cells=[a.ty.cells,d.ty.cells]:=rfl
 have hca:=Ty.cells_eq a.ty
 have hcc:=Ty.cells_eq d.ty
 have fa:=Ty.fold a.ty
 have fc:=Ty.fold d.ty
 rw [hyk,hya] at hgy1 ⊢
 rw [hca,hcc] at hgy1
 refine t_g (j2 @hca @hcc) ?_
 refine t_c3 (j2 @ts1 (j2 @ts0 @tc)) ks1 ks0 kc ?_
 refine t_c7 (j2 @tg2 (j2 @tg1 (j2 @tg0 (j2 @ts (j2 @tu (j2 @tz @to)))))) kg2 kg1 kg0 ks ku kz ko ?_
 refine t_c5 (j2 @fa (j2 @fc (j2 @fw1 (j2 @fw2 (j2 @hg2 (j2 @hgu2 (j2 @tc (j2 @to (j2 @tm2 @tm1))))))))) kw1 kup kw2 km2 km1 ?_
 refine t_c2 (j2 @hgy1 (j2 @fw0 (j2 @hg1 @tm1))) kw0 kr ?_
 refine t_ro [(b,mk1 r.2)] (j2 @fc @hcc) ?_
 try simp [fc,hcc]
 try all_goals exact t_f
set_option maxHeartbeats 8000000 in
set_option maxRecDepth 100000 in
theorem z1d3 (b:Nat)(G:List Ty)(x y z:Tm)(f1 f2 f3:Tm × Int)(y1 y2 y3:Ty)(a:T)
  (hx:Con1 Tryz.prog gl 41 [ptr b,.sl (G.map Ty.cells),x.dv] [(b,mk1 0)] (.tup [f1.1.dv,y1.dv]) [(b,mk1 f1.2)])
  (hy:Con1 Tryz.prog gl 41 [ptr b,.sl (G.map Ty.cells),y.dv] [(b,mk1 0)] (.tup [f2.1.dv,y2.dv]) [(b,mk1 f2.2)])
  (hz:Con1 Tryz.prog gl 41 [ptr b,.sl (G.map Ty.cells),z.dv] [(b,mk1 0)] (.tup [f3.1.dv,y3.dv]) [(b,mk1 f3.2)])
  (e1:f1.2=0→y1=((a:T)).ty) (n1:f1.1.count≤4096)
  (e2:f2.2=0→y2=((T.fn .nat (.fn a a):T)).ty) (n2:f2.1.count≤4096)
  (e3:f3.2=0→y3=((T.nat:T)).ty) (n3:f3.1.count≤4096)
  (i2:f2.2=0→f2.1.shape=true∧f2.1.idx 549755813888)
  (i3:f3.2=0→f3.1.shape=true∧f3.1.idx 549755813888)
  (ho:(T.fn .nat (.fn a a)).ok) :
  Con1 Tryz.prog gl 41 [ptr b,.sl (G.map Ty.cells),(Tm.mk 6 0 a.ty [x,y,z]).dv] [(b,mk1 0)] (if f1.2=0 then if f2.2=0 then if f3.2=0 then .tup [(roundsE 6 a a (T.fn .nat (.fn a a)) .nat f1.1 f2.1 f3.1).1.dv,(a).ty.dv] else .tup [zeroTm.dv,zeroTy.dv] else .tup [zeroTm.dv,zeroTy.dv] else .tup [zeroTm.dv,zeroTy.dv]) [(b,mk1 (if f1.2=0 then if f2.2=0 then if f3.2=0 then (roundsE 6 a a (T.fn .nat (.fn a a)) .nat f1.1 f2.1 f3.1).2 else f3.2 else f2.2 else f1.2))]:=by
 have hcx:=Tm.cells_eq x
 have fx:=Tm.fold x
 have hcy:=Tm.cells_eq y
 have fy:=Tm.fold y
 have hcz:=Tm.cells_eq z
 have fz:=Tm.fold z
 have hg1:=Tm.fold f1.1
 have hgy1:=Ty.fold y1
 have hg2:=Tm.fold f2.1
 have hgy2:=Ty.fold y2
 have hgu2:=Tm.fold (f2.1.upN 0 1)
 have hg3:=Tm.fold f3.1
 have hgy3:=Ty.fold y3
 have hgu3:=Tm.fold (f3.1.upN 0 2)
 have hz4:(nT 4 []).dv = .agg [dint 4,dint 0,dint 0,.sl [],.sl []]:=rfl
 have hzt:zeroTy.dv = .agg [dint 0,.sl []]:=rfl
 have hnd:natY.dv=DV.agg [dint 1,.sl []]:=rfl
 have hnd2:(T.ty .nat).dv=DV.agg [dint 1,.sl []]:=rfl
 have hld:(T.ty .list).dv=DV.agg [dint 2,.sl []]:=rfl
 have fa:=Ty.fold a.ty
 have hca:=Ty.cells_eq a.ty
 have htd:(Tm.mk 6 0 a.ty [x,y,z]).dv = .agg [dint 6,dint 0,dint a.ty.kind,.sl (a.ty.args.map Ty.cells),.sl [x.cells,y.cells,z.cells]]:=by first|rfl|(rw [Tm.dv,Tm.cells_eq];rfl)
 rw [htd]
 refine t_in Tryz.func41 ?_
 intro X hP hgl hf hfn hn hR hids hfit
 refine t_g0 ?_
 refine z0n ?_
 refine z00 ?_
 refine z07 ?_
 refine t_g (j2 @hcx (j2 @hcy @hcz)) ?_
 refine t_c1 @fx hx ?_
 by_cases q1:f1.2=0
 rotate_left
 ·rw [if_neg q1,if_neg q1] at hR
  refine t_g @q1 ?_
  repeat (first|refine z0a ?_|refine z01 ?_|refine z0b ?_|refine z03 ?_|refine z02 ?_|refine z04 rfl ?_)
  first|refine z0k hP hf hfn _ ([(b,mk1 f1.2)]) (by first|(simp [go_sem,hP,hgl,hn,zeroTm,hzt];done)|(simp [go_sem,hP,hgl,hn,zeroTm,hzt];rfl)) (by simp [go_sem,hP,hgl,hn,zeroTm,hzt]) (by simp) ?_ hR.2|refine z0m hP hf hfn _ ([(b,mk1 f1.2)]) (by first|(simp [go_sem,hP,hgl,hn,zeroTm,hzt];done)|(simp [go_sem,hP,hgl,hn,zeroTm,hzt];rfl)) (by simp [go_sem,hP,hgl,hn,zeroTm,hzt]) (by simp) ?_ hR.2
  rw [hR.1]
  refine ⟨?_,by simp [zeroTm,hzt]⟩
  try simp [zeroTm,hzt]
  try all_goals (simp [Ty.dv,Ty.cells_eq,Ty.kind_mk,Ty.args_mk,Tm.dv,Tm.cells_eq,Tm.kind_mk,Tm.index_mk,Tm.type_mk,Tm.args_mk,Val.dv,Val.cells_eq,Val.kind_mk,Val.num_mk,Val.list_mk,Val.args_mk,ints])
 rw [if_pos q1,if_pos q1] at hR
 rw [q1] at hx
 refine t_g @q1 ?_
 refine z0c [(1058,58),(1062,62)] (s':=[(.slot 0,.one (.v (ptr b))),(.slot 1,.one (.v (.sl (G.map Ty.cells)))),(.slot 5,.one (.loc 5 0)),(.loc 5,.row ([.v (dint 6),.v (dint 0),.v (dint a.ty.kind),.v (.sl (a.ty.args.map Ty.cells)),.v (.sl [x.cells,y.cells,z.cells])])),(.slot 6,.one (.loc 6 0)),(.loc 6,.row ([.v (dint 0),.v (dint 0),.v (dint 0),.own 0 [],.own 0 []])),(.slot 7,.one (.loc 7 0)),(.loc 7,.row ([.v (dint 0),.own 0 []])),(.slot 8,.one (.own 1058 [[dint f1.1.kind,dint f1.1.index,dint f1.1.type.kind,.sl (f1.1.type.args.map Ty.cells),.sl (f1.1.args.map Tm.cells)]])),(.tok 1058,.tk 5 1),(.slot 9,.one (.own 1062 [[dint y1.kind,.sl (y1.args.map Ty.cells)]])),(.tok 1062,.tk 2 1),(.slot 10,.one (.v (.sl (G.map Ty.cells)))),(.slot 35,.one (.v (.sl [x.cells,y.cells,z.cells]))),(.slot 36,.one (.v (dint 3))),(.slot 37,.one (.v (dint 1))),(.heap  b,.row ([.v (dint 0)]))]) (by simp [go_sem]) (by simp [go_sem,hcx,hcy,hcz]) (by simp [go_sem]) ?_
 refine z0j ?_
 refine z00 ?_
 refine z07 ?_
 refine t_g (j2 @hcx (j2 @hcy @hcz)) ?_
 refine t_c1 @fy hy ?_
 by_cases q2:f2.2=0
 rotate_left
 ·rw [if_neg q2,if_neg q2] at hR
  refine t_g @q2 ?_
  repeat (first|refine z0a ?_|refine z01 ?_|refine z0b ?_|refine z03 ?_|refine z02 ?_|refine z04 rfl ?_)
  first|refine z0k hP hf hfn _ ([(b,mk1 f2.2)]) (by first|(simp [go_sem,hP,hgl,hn,zeroTm,hzt];done)|(simp [go_sem,hP,hgl,hn,zeroTm,hzt];rfl)) (by simp [go_sem,hP,hgl,hn,zeroTm,hzt]) (by simp) ?_ hR.2|refine z0m hP hf hfn _ ([(b,mk1 f2.2)]) (by first|(simp [go_sem,hP,hgl,hn,zeroTm,hzt];done)|(simp [go_sem,hP,hgl,hn,zeroTm,hzt];rfl)) (by simp [go_sem,hP,hgl,hn,zeroTm,hzt]) (by simp) ?_ hR.2
  rw [hR.1]
  refine ⟨?_,by simp [zeroTm,hzt]⟩
  try simp [zeroTm,hzt]
  try all_goals (simp [Ty.dv,Ty.cells_eq,Ty.kind_mk,Ty.args_mk,Tm.dv,Tm.cells_eq,Tm.kind_mk,Tm.index_mk,Tm.type_mk,Tm.args_mk,Val.dv,Val.cells_eq,Val.kind_mk,Val.num_mk,Val.list_mk,Val.args_mk,ints])
 rw [if_pos q2,if_pos q2] at hR
 rw [q2] at hy
 refine t_g @q2 ?_
 refine z0c [(1058,58),(1062,62)] (s':=[(.slot 0,.one (.v (ptr b))),(.slot 1,.one (.v (.sl (G.map Ty.cells)))),(.slot 5,.one (.loc 5 0)),(.loc 5,.row ([.v (dint 6),.v (dint 0),.v (dint a.ty.kind),.v (.sl (a.ty.args.map Ty.cells)),.v (.sl [x.cells,y.cells,z.cells])])),(.slot 6,.one (.loc 6 0)),(.loc 6,.row ([.v (dint 0),.v (dint 0),.v (dint 0),.own 0 [],.own 0 []])),(.slot 7,.one (.loc 7 0)),(.loc 7,.row ([.v (dint 0),.own 0 []])),(.slot 8,.one (.own 1058 [[dint f1.1.kind,dint f1.1.index,dint f1.1.type.kind,.sl (f1.1.type.args.map Ty.cells),.sl (f1.1.args.map Tm.cells)],[dint f2.1.kind,dint f2.1.index,dint f2.1.type.kind,.sl (f2.1.type.args.map Ty.cells),.sl (f2.1.args.map Tm.cells)]])),(.tok 1058,.tk 5 2),(.slot 9,.one (.own 1062 [[dint y1.kind,.sl (y1.args.map Ty.cells)],[dint y2.kind,.sl (y2.args.map Ty.cells)]])),(.tok 1062,.tk 2 2),(.slot 10,.one (.v (.sl (G.map Ty.cells)))),(.slot 35,.one (.v (.sl [x.cells,y.cells,z.cells]))),(.slot 36,.one (.v (dint 3))),(.slot 37,.one (.v (dint 2))),(.heap  b,.row ([.v (dint 0)]))]) (by simp [go_sem]) (by simp [go_sem,hcx,hcy,hcz]) (by simp [go_sem]) ?_
 refine z0j ?_
 refine z00 ?_
 refine z07 ?_
 refine t_g (j2 @hcx (j2 @hcy @hcz)) ?_
 refine t_c1 @fz hz ?_
 by_cases q3:f3.2=0
 rotate_left
 ·rw [if_neg q3,if_neg q3] at hR
  refine t_g @q3 ?_
  repeat (first|refine z0a ?_|refine z01 ?_|refine z0b ?_|refine z03 ?_|refine z02 ?_|refine z04 rfl ?_)
  first|refine z0k hP hf hfn _ ([(b,mk1 f3.2)]) (by first|(simp [go_sem,hP,hgl,hn,zeroTm,hzt];done)|(simp [go_sem,hP,hgl,hn,zeroTm,hzt];rfl)) (by simp [go_sem,hP,hgl,hn,zeroTm,hzt]) (by simp) ?_ hR.2|refine z0m hP hf hfn _ ([(b,mk1 f3.2)]) (by first|(simp [go_sem,hP,hgl,hn,zeroTm,hzt];done)|(simp [go_sem,hP,hgl,hn,zeroTm,hzt];rfl)) (by simp [go_sem,hP,hgl,hn,zeroTm,hzt]) (by simp) ?_ hR.2
  rw [hR.1]
  refine ⟨?_,by simp [zeroTm,hzt]⟩
  try simp [zeroTm,hzt]
  try all_goals (simp [Ty.dv,Ty.cells_eq,Ty.kind_mk,Ty.args_mk,Tm.dv,Tm.cells_eq,Tm.kind_mk,Tm.index_mk,Tm.type_mk,Tm.args_mk,Val.dv,Val.cells_eq,Val.kind_mk,Val.num_mk,Val.list_mk,Val.args_mk,ints])
 rw [if_pos q3,if_pos q3] at hR
 rw [q3] at hz
 refine t_g @q3 ?_
 refine z0j ?_
 refine z00 ?_
 refine t_no ?_
 have hy1:=e1 q1
 have hy2:=e2 q2
 have hy3:=e3 q3
 have kr:=z1cs (gl:=gl) b a (Tm.mk 6 0 a.ty [x,y,z]) f1.1 f2.1 f3.1 ho rfl rfl n1 n2 n3 (i2 q2).1 (i3 q3).1 (i2 q2).2 (i3 q3).2
 rw [htd] at kr
 subst hy1 hy2 hy3
 clear e1 e2 e3 i2 i3
 have hc1:=Tm.cells_eq f1.1
 have hc2:=Tm.cells_eq f2.1
 have hc3:=Tm.cells_eq f3.1
 have hd1:=Ty.cells_eq a.ty
 have hd2:=Ty.cells_eq (T.fn .nat (.fn a a)).ty
 have hd3:=Ty.cells_eq (T.ty .nat)
 rw [hc1,hc2,hc3,hd1,hd2,hd3] at kr
 refine t_g0 ?_
 refine t_c1 (j2 @hcx (j2 @hcy @hcz)) kr ?_
 refine t_ro [(b,mk1 (roundsE 6 a a (T.fn .nat (.fn a a)) .nat f1.1 f2.1 f3.1).2)] (j2 @fa @hd1) ?_
 try simp [fa,hd1]
 try all_goals exact t_f
set_option maxHeartbeats 8000000 in
set_option maxRecDepth 100000 in
theorem z1d4 (b:Nat)(G:List Ty)(x y z:Tm)(f1 f2 f3:Tm × Int)(y1 y2 y3:Ty)(a:T)
  (hx:Con1 Tryz.prog gl 41 [ptr b,.sl (G.map Ty.cells),x.dv] [(b,mk1 0)] (.tup [f1.1.dv,y1.dv]) [(b,mk1 f1.2)])
  (hy:Con1 Tryz.prog gl 41 [ptr b,.sl (G.map Ty.cells),y.dv] [(b,mk1 0)] (.tup [f2.1.dv,y2.dv]) [(b,mk1 f2.2)])
  (hz:Con1 Tryz.prog gl 41 [ptr b,.sl (G.map Ty.cells),z.dv] [(b,mk1 0)] (.tup [f3.1.dv,y3.dv]) [(b,mk1 f3.2)])
  (e1:f1.2=0→y1=((a:T)).ty) (n1:f1.1.count≤4096)
  (e2:f2.2=0→y2=((T.fn .nat (.fn .list (.fn a a)):T)).ty) (n2:f2.1.count≤4096)
  (e3:f3.2=0→y3=((T.list:T)).ty) (n3:f3.1.count≤4096)
  (i2:f2.2=0→f2.1.shape=true∧f2.1.idx 549755813888)
  (i3:f3.2=0→f3.1.shape=true∧f3.1.idx 549755813888)
  (ho:(T.fn .nat (.fn .list (.fn a a))).ok) :
  Con1 Tryz.prog gl 41 [ptr b,.sl (G.map Ty.cells),(Tm.mk 9 0 a.ty [x,y,z]).dv] [(b,mk1 0)] (if f1.2=0 then if f2.2=0 then if f3.2=0 then .tup [(roundsE 9 a a (T.fn .nat (.fn .list (.fn a a))) .list f1.1 f2.1 f3.1).1.dv,(a).ty.dv] else .tup [zeroTm.dv,zeroTy.dv] else .tup [zeroTm.dv,zeroTy.dv] else .tup [zeroTm.dv,zeroTy.dv]) [(b,mk1 (if f1.2=0 then if f2.2=0 then if f3.2=0 then (roundsE 9 a a (T.fn .nat (.fn .list (.fn a a))) .list f1.1 f2.1 f3.1).2 else f3.2 else f2.2 else f1.2))]:=by
 have hcx:=Tm.cells_eq x
 have fx:=Tm.fold x
 have hcy:=Tm.cells_eq y
 have fy:=Tm.fold y
 have hcz:=Tm.cells_eq z
 have fz:=Tm.fold z
 have hg1:=Tm.fold f1.1
 have hgy1:=Ty.fold y1
 have hg2:=Tm.fold f2.1
 have hgy2:=Ty.fold y2
 have hgu2:=Tm.fold (f2.1.upN 0 1)
 have hg3:=Tm.fold f3.1
 have hgy3:=Ty.fold y3
 have hgu3:=Tm.fold (f3.1.upN 0 2)
 have hz4:(nT 4 []).dv = .agg [dint 4,dint 0,dint 0,.sl [],.sl []]:=rfl
 have hzt:zeroTy.dv = .agg [dint 0,.sl []]:=rfl
 have hnd:natY.dv=DV.agg [dint 1,.sl []]:=rfl
 have hnd2:(T.ty .nat).dv=DV.agg [dint 1,.sl []]:=rfl
 have hld:(T.ty .list).dv=DV.agg [dint 2,.sl []]:=rfl
 have fa:=Ty.fold a.ty
 have hca:=Ty.cells_eq a.ty
 have htd:(Tm.mk 9 0 a.ty [x,y,z]).dv = .agg [dint 9,dint 0,dint a.ty.kind,.sl (a.ty.args.map Ty.cells),.sl [x.cells,y.cells,z.cells]]:=by first|rfl|(rw [Tm.dv,Tm.cells_eq];rfl)
 rw [htd]
 refine t_in Tryz.func41 ?_
 intro X hP hgl hf hfn hn hR hids hfit
 refine t_g0 ?_
 refine z0n ?_
 refine z00 ?_
 refine z07 ?_
 refine t_g (j2 @hcx (j2 @hcy @hcz)) ?_
 refine t_c1 @fx hx ?_
 by_cases q1:f1.2=0
 rotate_left
 ·rw [if_neg q1,if_neg q1] at hR
  refine t_g @q1 ?_
  repeat (first|refine z0a ?_|refine z01 ?_|refine z0b ?_|refine z03 ?_|refine z02 ?_|refine z04 rfl ?_)
  first|refine z0k hP hf hfn _ ([(b,mk1 f1.2)]) (by first|(simp [go_sem,hP,hgl,hn,zeroTm,hzt];done)|(simp [go_sem,hP,hgl,hn,zeroTm,hzt];rfl)) (by simp [go_sem,hP,hgl,hn,zeroTm,hzt]) (by simp) ?_ hR.2|refine z0m hP hf hfn _ ([(b,mk1 f1.2)]) (by first|(simp [go_sem,hP,hgl,hn,zeroTm,hzt];done)|(simp [go_sem,hP,hgl,hn,zeroTm,hzt];rfl)) (by simp [go_sem,hP,hgl,hn,zeroTm,hzt]) (by simp) ?_ hR.2
  rw [hR.1]
  refine ⟨?_,by simp [zeroTm,hzt]⟩
  try simp [zeroTm,hzt]
  try all_goals (simp [Ty.dv,Ty.cells_eq,Ty.kind_mk,Ty.args_mk,Tm.dv,Tm.cells_eq,Tm.kind_mk,Tm.index_mk,Tm.type_mk,Tm.args_mk,Val.dv,Val.cells_eq,Val.kind_mk,Val.num_mk,Val.list_mk,Val.args_mk,ints])
 rw [if_pos q1,if_pos q1] at hR
 rw [q1] at hx
 refine t_g @q1 ?_
 refine z0c [(1058,58),(1062,62)] (s':=[(.slot 0,.one (.v (ptr b))),(.slot 1,.one (.v (.sl (G.map Ty.cells)))),(.slot 5,.one (.loc 5 0)),(.loc 5,.row ([.v (dint 9),.v (dint 0),.v (dint a.ty.kind),.v (.sl (a.ty.args.map Ty.cells)),.v (.sl [x.cells,y.cells,z.cells])])),(.slot 6,.one (.loc 6 0)),(.loc 6,.row ([.v (dint 0),.v (dint 0),.v (dint 0),.own 0 [],.own 0 []])),(.slot 7,.one (.loc 7 0)),(.loc 7,.row ([.v (dint 0),.own 0 []])),(.slot 8,.one (.own 1058 [[dint f1.1.kind,dint f1.1.index,dint f1.1.type.kind,.sl (f1.1.type.args.map Ty.cells),.sl (f1.1.args.map Tm.cells)]])),(.tok 1058,.tk 5 1),(.slot 9,.one (.own 1062 [[dint y1.kind,.sl (y1.args.map Ty.cells)]])),(.tok 1062,.tk 2 1),(.slot 10,.one (.v (.sl (G.map Ty.cells)))),(.slot 35,.one (.v (.sl [x.cells,y.cells,z.cells]))),(.slot 36,.one (.v (dint 3))),(.slot 37,.one (.v (dint 1))),(.heap  b,.row ([.v (dint 0)]))]) (by simp [go_sem]) (by simp [go_sem,hcx,hcy,hcz]) (by simp [go_sem]) ?_
 refine z0j ?_
 refine z00 ?_
 refine z07 ?_
 refine t_g (j2 @hcx (j2 @hcy @hcz)) ?_
 refine t_c1 @fy hy ?_
 by_cases q2:f2.2=0
 rotate_left
 ·rw [if_neg q2,if_neg q2] at hR
  refine t_g @q2 ?_
  repeat (first|refine z0a ?_|refine z01 ?_|refine z0b ?_|refine z03 ?_|refine z02 ?_|refine z04 rfl ?_)
  first|refine z0k hP hf hfn _ ([(b,mk1 f2.2)]) (by first|(simp [go_sem,hP,hgl,hn,zeroTm,hzt];done)|(simp [go_sem,hP,hgl,hn,zeroTm,hzt];rfl)) (by simp [go_sem,hP,hgl,hn,zeroTm,hzt]) (by simp) ?_ hR.2|refine z0m hP hf hfn _ ([(b,mk1 f2.2)]) (by first|(simp [go_sem,hP,hgl,hn,zeroTm,hzt];done)|(simp [go_sem,hP,hgl,hn,zeroTm,hzt];rfl)) (by simp [go_sem,hP,hgl,hn,zeroTm,hzt]) (by simp) ?_ hR.2
  rw [hR.1]
  refine ⟨?_,by simp [zeroTm,hzt]⟩
  try simp [zeroTm,hzt]
  try all_goals (simp [Ty.dv,Ty.cells_eq,Ty.kind_mk,Ty.args_mk,Tm.dv,Tm.cells_eq,Tm.kind_mk,Tm.index_mk,Tm.type_mk,Tm.args_mk,Val.dv,Val.cells_eq,Val.kind_mk,Val.num_mk,Val.list_mk,Val.args_mk,ints])
 rw [if_pos q2,if_pos q2] at hR
 rw [q2] at hy
 refine t_g @q2 ?_
 refine z0c [(1058,58),(1062,62)] (s':=[(.slot 0,.one (.v (ptr b))),(.slot 1,.one (.v (.sl (G.map Ty.cells)))),(.slot 5,.one (.loc 5 0)),(.loc 5,.row ([.v (dint 9),.v (dint 0),.v (dint a.ty.kind),.v (.sl (a.ty.args.map Ty.cells)),.v (.sl [x.cells,y.cells,z.cells])])),(.slot 6,.one (.loc 6 0)),(.loc 6,.row ([.v (dint 0),.v (dint 0),.v (dint 0),.own 0 [],.own 0 []])),(.slot 7,.one (.loc 7 0)),(.loc 7,.row ([.v (dint 0),.own 0 []])),(.slot 8,.one (.own 1058 [[dint f1.1.kind,dint f1.1.index,dint f1.1.type.kind,.sl (f1.1.type.args.map Ty.cells),.sl (f1.1.args.map Tm.cells)],[dint f2.1.kind,dint f2.1.index,dint f2.1.type.kind,.sl (f2.1.type.args.map Ty.cells),.sl (f2.1.args.map Tm.cells)]])),(.tok 1058,.tk 5 2),(.slot 9,.one (.own 1062 [[dint y1.kind,.sl (y1.args.map Ty.cells)],[dint y2.kind,.sl (y2.args.map Ty.cells)]])),(.tok 1062,.tk 2 2),(.slot 10,.one (.v (.sl (G.map Ty.cells)))),(.slot 35,.one (.v (.sl [x.cells,y.cells,z.cells]))),(.slot 36,.one (.v (dint 3))),(.slot 37,.one (.v (dint 2))),(.heap  b,.row ([.v (dint 0)]))]) (by simp [go_sem]) (by simp [go_sem,hcx,hcy,hcz]) (by simp [go_sem]) ?_
 refine z0j ?_
 refine z00 ?_
 refine z07 ?_
 refine t_g (j2 @hcx (j2 @hcy @hcz)) ?_
 refine t_c1 @fz hz ?_
 by_cases q3:f3.2=0
 rotate_left
 ·rw [if_neg q3,if_neg q3] at hR
  refine t_g @q3 ?_
  repeat (first|refine z0a ?_|refine z01 ?_|refine z0b ?_|refine z03 ?_|refine z02 ?_|refine z04 rfl ?_)
  first|refine z0k hP hf hfn _ ([(b,mk1 f3.2)]) (by first|(simp [go_sem,hP,hgl,hn,zeroTm,hzt];done)|(simp [go_sem,hP,hgl,hn,zeroTm,hzt];rfl)) (by simp [go_sem,hP,hgl,hn,zeroTm,hzt]) (by simp) ?_ hR.2|refine z0m hP hf hfn _ ([(b,mk1 f3.2)]) (by first|(simp [go_sem,hP,hgl,hn,zeroTm,hzt];done)|(simp [go_sem,hP,hgl,hn,zeroTm,hzt];rfl)) (by simp [go_sem,hP,hgl,hn,zeroTm,hzt]) (by simp) ?_ hR.2
  rw [hR.1]
  refine ⟨?_,by simp [zeroTm,hzt]⟩
  try simp [zeroTm,hzt]
  try all_goals (simp [Ty.dv,Ty.cells_eq,Ty.kind_mk,Ty.args_mk,Tm.dv,Tm.cells_eq,Tm.kind_mk,Tm.index_mk,Tm.type_mk,Tm.args_mk,Val.dv,Val.cells_eq,Val.kind_mk,Val.num_mk,Val.list_mk,Val.args_mk,ints])
 rw [if_pos q3,if_pos q3] at hR
 rw [q3] at hz
 refine t_g @q3 ?_
 refine z0j ?_
 refine z00 ?_
 refine t_no ?_
 have hy1:=e1 q1
 have hy2:=e2 q2
 have hy3:=e3 q3
 have kr:=z1ct (gl:=gl) b a (Tm.mk 9 0 a.ty [x,y,z]) f1.1 f2.1 f3.1 ho rfl rfl n1 n2 n3 (i2 q2).1 (i3 q3).1 (i2 q2).2 (i3 q3).2
 rw [htd] at kr
 subst hy1 hy2 hy3
 clear e1 e2 e3 i2 i3
 have hc1:=Tm.cells_eq f1.1
 have hc2:=Tm.cells_eq f2.1
 have hc3:=Tm.cells_eq f3.1
 have hd1:=Ty.cells_eq a.ty
 have hd2:=Ty.cells_eq (T.fn .nat (.fn .list (.fn a a))).ty
 have hd3:=Ty.cells_eq (T.ty .list)
 rw [hc1,hc2,hc3,hd1,hd2,hd3] at kr
 refine t_g0 ?_
 refine t_c1 (j2 @hcx (j2 @hcy @hcz)) kr ?_
 refine t_ro [(b,mk1 (roundsE 9 a a (T.fn .nat (.fn .list (.fn a a))) .list f1.1 f2.1 f3.1).2)] (j2 @fa @hd1) ?_
 try simp [fa,hd1]
 try all_goals exact t_f
end
section
variable {gl:Globs}
def ofY (g:List T)(t:Tm)(a:T):Ty:=if (tickE.ticksE (if t.kind=2 then g++[toT t.type] else g) t.args).2=0 then a.ty else zeroTy
theorem zbn {g:List T}{k:Int}(hk:k=1∨k=4∨k=7∨k=13)(i:Int)(s:T):tickE g (Tm.mk k i zY [])=nodeE 0 10 zY [nT 4 [],Tm.mk k i zY []]∧ofY g (Tm.mk k i zY []) s=s.ty:=by
 have h2:¬ k=2:=by omega
 refine ⟨?_,?_⟩
 ·rw [tickE,if_neg h2]
  show tkNodeE k i _ [] [] _=_
  unfold tkNodeE
  rcases hk with rfl|rfl|rfl|rfl <;> rfl
 ·rfl
theorem zem {g:List T}{k i:Int}{y:Ty}{x:Tm}{s:T}{R:Tm × Int}(hk:¬ k=2)(hR:tkNodeE k i y [x] [(tickE g x).1] [tyT g x]=R) :
  (DV.tup [(tickE g (Tm.mk k i y [x])).1.dv,(ofY g (Tm.mk k i y [x]) s).dv])=(if (tickE g x).2=0 then .tup [R.1.dv,s.ty.dv] else .tup [zeroTm.dv,zeroTy.dv])∧(tickE g (Tm.mk k i y [x])).2=(if (tickE g x).2=0 then R.2 else (tickE g x).2):=by
 have e:tickE g (Tm.mk k i y [x])=if (tickE.ticksE g [x]).2=0 then tkNodeE k i y [x] (tickE.ticksE g [x]).1 [tyT g x] else (zeroTm,(tickE.ticksE g [x]).2):=by rw [tickE,if_neg hk];rfl
 have e2:ofY g (Tm.mk k i y [x]) s=if (tickE.ticksE g [x]).2=0 then s.ty else zeroTy:=by
  unfold ofY
  rw [if_neg (show ¬ (Tm.mk k i y [x]).kind=2 from hk)]
  rfl
 subst hR
 rw [e,e2]
 simp only [tickE.ticksE]
 by_cases h1:(tickE g x).2=0
 ·simp only [h1,if_true];exact ⟨trivial,trivial⟩
 ·simp only [h1,if_false];exact ⟨trivial,trivial⟩
theorem zen {g:List T}{k i:Int}{y:Ty}{x z:Tm}{s:T}{R:Tm × Int}(hk:¬ k=2)(hR:tkNodeE k i y [x,z] [(tickE g x).1,(tickE g z).1] [tyT g x,tyT g z]=R) :
  (DV.tup [(tickE g (Tm.mk k i y [x,z])).1.dv,(ofY g (Tm.mk k i y [x,z]) s).dv])=(if (tickE g x).2=0 then if (tickE g z).2=0 then .tup [R.1.dv,s.ty.dv] else .tup [zeroTm.dv,zeroTy.dv] else .tup [zeroTm.dv,zeroTy.dv])∧(tickE g (Tm.mk k i y [x,z])).2=(if (tickE g x).2=0 then if (tickE g z).2=0 then R.2 else (tickE g z).2 else (tickE g x).2):=by
 have e:tickE g (Tm.mk k i y [x,z])=if (tickE.ticksE g [x,z]).2=0 then tkNodeE k i y [x,z] (tickE.ticksE g [x,z]).1 [tyT g x,tyT g z] else (zeroTm,(tickE.ticksE g [x,z]).2):=by rw [tickE,if_neg hk];rfl
 have e2:ofY g (Tm.mk k i y [x,z]) s=if (tickE.ticksE g [x,z]).2=0 then s.ty else zeroTy:=by
  unfold ofY
  rw [if_neg (show ¬ (Tm.mk k i y [x,z]).kind=2 from hk)]
  rfl
 subst hR
 rw [e,e2]
 simp only [tickE.ticksE]
 by_cases h1:(tickE g x).2=0
 ·by_cases h2:(tickE g z).2=0
  ·simp only [h1,h2,if_true];exact ⟨trivial,trivial⟩
  ·simp only [h1,h2,if_true,if_false];exact ⟨trivial,trivial⟩
 ·simp only [h1,if_false];exact ⟨trivial,trivial⟩
theorem zla {g:List T}{k i:Int}{y:Ty}{x z w:Tm}{s:T}{R:Tm × Int}(hk:¬ k=2)(hR:tkNodeE k i y [x,z,w] [(tickE g x).1,(tickE g z).1,(tickE g w).1] [tyT g x,tyT g z,tyT g w]=R) :
  (DV.tup [(tickE g (Tm.mk k i y [x,z,w])).1.dv,(ofY g (Tm.mk k i y [x,z,w]) s).dv])=(if (tickE g x).2=0 then if (tickE g z).2=0 then if (tickE g w).2=0 then .tup [R.1.dv,s.ty.dv] else .tup [zeroTm.dv,zeroTy.dv] else .tup [zeroTm.dv,zeroTy.dv] else .tup [zeroTm.dv,zeroTy.dv])∧(tickE g (Tm.mk k i y [x,z,w])).2=(if (tickE g x).2=0 then if (tickE g z).2=0 then if (tickE g w).2=0 then R.2 else (tickE g w).2 else (tickE g z).2 else (tickE g x).2):=by
 have e:tickE g (Tm.mk k i y [x,z,w])=if (tickE.ticksE g [x,z,w]).2=0 then tkNodeE k i y [x,z,w] (tickE.ticksE g [x,z,w]).1 [tyT g x,tyT g z,tyT g w] else (zeroTm,(tickE.ticksE g [x,z,w]).2):=by rw [tickE,if_neg hk];rfl
 have e2:ofY g (Tm.mk k i y [x,z,w]) s=if (tickE.ticksE g [x,z,w]).2=0 then s.ty else zeroTy:=by
  unfold ofY
  rw [if_neg (show ¬ (Tm.mk k i y [x,z,w]).kind=2 from hk)]
  rfl
 subst hR
 rw [e,e2]
 simp only [tickE.ticksE]
 by_cases h1:(tickE g x).2=0
 ·by_cases h2:(tickE g z).2=0
  ·by_cases h3:(tickE g w).2=0
   ·simp only [h1,h2,h3,if_true];exact ⟨trivial,trivial⟩
   ·simp only [h1,h2,h3,if_true,if_false];exact ⟨trivial,trivial⟩
  ·simp only [h1,h2,if_true,if_false];exact ⟨trivial,trivial⟩
 ·simp only [h1,if_false];exact ⟨trivial,trivial⟩
theorem z1d5 {g:List T}{a r:T}{x:Tm}{R:Tm × Int}(hR:nodeE (nodeE (cntErr a) 2 (cntY a) [(tickE (g++[a]) x).1]).2 10 zY [nT 4 [],(nodeE (cntErr a) 2 (cntY a) [(tickE (g++[a]) x).1]).1]=R) :
  (DV.tup [(tickE g (lamT a x)).1.dv,(ofY g (lamT a x) (.fn a r)).dv])=(if (tickE (g++[a]) x).2=0 then .tup [R.1.dv,(T.fn a r).ty.dv] else .tup [zeroTm.dv,zeroTy.dv])∧(tickE g (lamT a x)).2=(if (tickE (g++[a]) x).2=0 then R.2 else (tickE (g++[a]) x).2):=by
 have e:tickE g (lamT a x)=if (tickE.ticksE (g++[a]) [x]).2=0 then tkNodeE 2 0 a.ty [x] (tickE.ticksE (g++[a]) [x]).1 [tyT (g++[a]) x] else (zeroTm,(tickE.ticksE (g++[a]) [x]).2):=by
  rw [lamT,tickE,if_pos rfl,z3b];rfl
 have e2:ofY g (lamT a x) (.fn a r)=if (tickE.ticksE (g++[a]) [x]).2=0 then (T.fn a r).ty else zeroTy:=by
  unfold ofY
  rw [if_pos (show (lamT a x).kind=2 from rfl),show (lamT a x).type=a.ty from rfl,z3b]
  rfl
 subst hR
 rw [e,e2]
 simp only [tickE.ticksE]
 by_cases h1:(tickE (g++[a]) x).2=0
 ·simp only [h1,if_true]
  unfold tkNodeE
  rw [if_pos rfl,z3b]
  exact ⟨rfl,rfl⟩
 ·simp only [h1,if_false];exact ⟨trivial,trivial⟩
theorem z1d6 (b:Nat)(G:List Ty)(i:Nat)(s:Ty)(hi:i<G.length)(hl:G.length≤1000000)(hg:G[G.length - 1 - i]? = some s) :
  Con1 Tryz.prog gl 41 [ptr b,.sl (G.map Ty.cells),(vT (i:Nat)).dv] [(b,mk1 0)] (.tup [(nodeE 0 10 zY [nT 4 [],vT (i:Nat)]).1.dv,s.dv]) [(b,mk1 (nodeE 0 10 zY [nT 4 [],vT (i:Nat)]).2)]:=by
 have w:=z2f (gl:=gl) b 0 (nT 4 []) (vT (i:Nat)) (by decide) (by show 1+0≤_;omega)
 generalize nodeE 0 10 zY [nT 4 [],vT (i:Nat)]=r at *
 have hz4:(nT 4 []).dv = .agg [dint 4,dint 0,dint 0,.sl [],.sl []]:=rfl
 have htd:(vT (i:Nat)).dv = .agg [dint 1,dint (i:Int),dint 0,.sl [],.sl []]:=rfl
 have hfs:=Ty.fold s
 have hcs:=Ty.cells_eq s
 have hil:(i:Int)<G.length:=by omega
 have hge:(G.map Ty.cells)[((G.length:Int) - 1 - (i:Int)).toNat]? = some s.cells:=by
  rw [List.getElem?_map,show ((G.length:Int) - 1 - (i:Int)).toNat=G.length - 1 - i by omega,hg];rfl
 rw [hcs] at hge
 rw [htd] at w ⊢
 refine t_in Tryz.func41 ?_
 intro X hP hgl hf hfn hn hR hids hfit
 refine t_g0 ?_
 refine z0n ?_
 refine z00 ?_
 refine t_no ?_
 refine t_g0 ?_
 refine t_c1 (j2 @hz4 (j2 @hg (j2 @hcs @hil))) w ?_
 refine t_ro [(b,mk1 r.2)] (j2 @hcs @hfs) ?_
 try simp [hcs,hfs]
 try all_goals exact t_f
set_option maxHeartbeats 4000000 in
theorem z1d7 (b:Nat)(G:List Ty)(x:Tm)(a c:T)(f1:Tm × Int)(y1:Ty)(hl:G.length≤1000000)
  (hx:Con1 Tryz.prog gl 41 [ptr b,.sl ((G++[a.ty]).map Ty.cells),x.dv] [(b,mk1 0)] (.tup [f1.1.dv,y1.dv]) [(b,mk1 f1.2)])
  (e1:f1.2=0→y1=c.ty) (n1:f1.1.count≤4096) (ho:(T.fn a c).ok) :
  Con1 Tryz.prog gl 41 [ptr b,.sl (G.map Ty.cells),(lamT a x).dv] [(b,mk1 0)] (if f1.2=0 then .tup [(nodeE (nodeE (cntErr a) 2 (cntY a) [f1.1]).2 10 zY [nT 4 [],(nodeE (cntErr a) 2 (cntY a) [f1.1]).1]).1.dv,(T.fn a c).ty.dv] else .tup [zeroTm.dv,zeroTy.dv])
   [(b,mk1 (if f1.2=0 then (nodeE (nodeE (cntErr a) 2 (cntY a) [f1.1]).2 10 zY [nT 4 [],(nodeE (cntErr a) 2 (cntY a) [f1.1]).1]).2 else f1.2))]:=by
 have c2:=z06 (cntErr a) 2 (cntY a) [f1.1]
 have kn:=z44 (gl:=gl) b (cntErr a) 2 (cntY a) [f1.1] (by rw [cnt1];omega)
 generalize nodeE (cntErr a) 2 (cntY a) [f1.1]=n at *
 have kc:=z2f (gl:=gl) b n.2 (nT 4 []) n.1 (by decide) (by omega)
 generalize nodeE n.2 10 zY [nT 4 [],n.1]=r at *
 have w0:=z1cp (gl:=gl) G a.ty hl
 have k1':=z1a (gl:=gl) a
 have k2':=z62 (gl:=gl) b 0 (cntErr a)
 have k4':=z62 (gl:=gl) b (cntErr a) 0
 have h0e:failE 0 (cntErr a)=cntErr a:=rfl
 have hfl:failE (cntErr a) 0=cntErr a:=by unfold failE;split;(rename_i h;exact h.symm);rfl
 rw [h0e] at k2'
 rw [hfl] at k4'
 have hsz:1+a.size+c.size≤64:=ho
 have hca:a.ty.count=a.size:=T.ty_count a
 have hcc:c.ty.count=c.size:=T.ty_count c
 have k3':=z7g (gl:=gl) a.ty c.ty (by show 1+(a.ty.count+(c.ty.count+0))≤_;omega)
 have j1:joinE 4 a.ty c.ty=((T.fn a c).ty,0):=by unfold joinE;rw [if_neg (by show ¬ 64<1+(a.ty.count+(c.ty.count+0));omega)];rfl
 rw [j1] at k3'
 clear j1
 unfold CntOK at k1'
 have hcx:=Tm.cells_eq x
 have fx:=Tm.fold x
 have fn1:=Tm.fold n.1
 have ff1:=Tm.fold f1.1
 have fa:=Ty.fold a.ty
 have fc:=Ty.fold c.ty
 have fcy:=Ty.fold (cntY a)
 have fac:=Ty.fold (T.fn a c).ty
 have hac:=Ty.cells_eq (T.fn a c).ty
 have hz4:(nT 4 []).dv = .agg [dint 4,dint 0,dint 0,.sl [],.sl []]:=rfl
 have hzt:zeroTy.dv = .agg [dint 0,.sl []]:=rfl
 have htd:(lamT a x).dv = .agg [dint 2,dint 0,dint a.ty.kind,.sl (a.ty.args.map Ty.cells),.sl [x.cells]]:=by rw [lamT,Tm.dv,Tm.cells_eq];rfl
 rw [htd]
 generalize (T.fn a c).ty=yac at *
 generalize (G++[a.ty]).map Ty.cells=GG at *
 refine t_in Tryz.func41 ?_
 intro X hP hgl hf hfn hn hR hids hfit
 refine t_g0 ?_
 refine t_c1 @fa w0 ?_
 refine t_g0 ?_
 refine z0n ?_
 refine z00 ?_
 refine z07 ?_
 refine t_g @hcx ?_
 refine t_c1 @fx hx ?_
 by_cases q1:f1.2=0
 rotate_left
 ·rw [if_neg q1,if_neg q1] at hR
  refine t_g @q1 ?_
  repeat (first|refine z0a ?_|refine z01 ?_|refine z0b ?_|refine z03 ?_|refine z02 ?_|refine z04 rfl ?_)
  first|refine z0k hP hf hfn _ ([(b,mk1 f1.2)]) (by first|(simp [go_sem,hP,hgl,hn,zeroTm,hzt];done)|(simp [go_sem,hP,hgl,hn,zeroTm,hzt];rfl)) (by simp [go_sem,hP,hgl,hn,zeroTm,hzt]) (by simp) ?_ hR.2|refine z0m hP hf hfn _ ([(b,mk1 f1.2)]) (by first|(simp [go_sem,hP,hgl,hn,zeroTm,hzt];done)|(simp [go_sem,hP,hgl,hn,zeroTm,hzt];rfl)) (by simp [go_sem,hP,hgl,hn,zeroTm,hzt]) (by simp) ?_ hR.2
  rw [hR.1]
  refine ⟨?_,by simp [zeroTm,hzt]⟩
  try simp [zeroTm,hzt]
  try all_goals (simp [Ty.dv,Ty.cells_eq,Ty.kind_mk,Ty.args_mk,Tm.dv,Tm.cells_eq,Tm.kind_mk,Tm.index_mk,Tm.type_mk,Tm.args_mk,Val.dv,Val.cells_eq,Val.kind_mk,Val.num_mk,Val.list_mk,Val.args_mk,ints])
 rw [if_pos q1,if_pos q1] at hR
 rw [q1] at hx
 refine t_g @q1 ?_
 refine z0j ?_
 refine z00 ?_
 refine t_no ?_
 have hy1:=e1 q1
 subst hy1
 clear e1
 refine t_g0 ?_
 refine t_c1 @fa k1' ?_
 refine t_c1 @fa k2' ?_
 refine t_c1 (j2 @fa @fc) k3' ?_
 refine t_c1 @fa k4' ?_
 refine t_c2 (j2 @ff1 (j2 @fn1 (j2 @fcy @hz4))) kn kc ?_
 refine t_ro [(b,mk1 r.2)] (j2 @hac @fac) ?_
 try simp [hac,fac]
 try all_goals exact t_f
end
section
variable {gl:Globs}
theorem z1d8 (k i:Int)(y:Ty)(a l:List Tm)(ts:List T):(tkNodeE k i y a l ts).1.count≤4096:=by
 unfold tkNodeE
 split
 ·exact z06 _ _ _ _
 split
 ·obtain ⟨s1,s0,c,g2,g1,g0,s,u,z,o,w1,w2,m2,m1,w0,-,-,-,-,-,-,-,-,-,-,-,-,-,-,-,h⟩:=zat (ts.getD 1 .unit) (ts.getD 0 .unit).cod (l.getD 0 zeroTm) (l.getD 1 zeroTm)
  rw [h];exact z06 _ _ _ _
 split
 ·obtain ⟨w,f,s,n,c,-,-,-,-,-,h⟩:=z6z k (ts.getD 0 .unit) (l.getD 0 zeroTm)
  rw [h];exact z06 _ _ _ _
 split
 ·obtain ⟨g1,g0,s,s1,s0,n,c,w0,w1,m,-,-,-,-,-,-,-,-,-,-,h⟩:=z8n k (ts.getD 0 .unit) (ts.getD 1 .unit) (l.getD 0 zeroTm) (l.getD 1 zeroTm)
  rw [h];exact z06 _ _ _ _
 split
 ·obtain ⟨w,t,p,c,q,d,g3,g2,g1,g0,s,v,o,m3,w2,m2,w1,m1,w0,-,-,-,-,-,-,-,-,-,-,-,-,-,-,-,-,-,-,-,h⟩:=z8o k (toT y) (ts.getD 0 .unit) (ts.getD 1 .unit) (ts.getD 2 .unit) (l.getD 0 zeroTm) (l.getD 1 zeroTm) (l.getD 2 zeroTm)
  rw [h];exact z06 _ _ _ _
 ·exact z06 _ _ _ _
theorem z1s (g:List T)(t:Tm):(tickE g t).1.count≤4096:=by
 rw [zd3]
 generalize (if t.kind=2 then g++[toT t.type] else g)=g'
 split
 ·exact z1d8 _ _ _ _ _ _
 ·show 1+0≤4096;omega
theorem z2l {g:List T}{t:Tm}{a:T}(h:(tickE g t).2=0):ofY g t a=a.ty:=by
 unfold ofY
 rw [zd3] at h
 generalize (if t.kind=2 then g++[toT t.type] else g)=g' at *
 split at h
 ·rename_i h1;rw [if_pos h1]
 ·rename_i h1;exact absurd h h1
theorem z65 {Γ:List T}{t:Tm}{a:T}{F:Env Γ→a.V}(h:Dn Γ t a F)(hl:Γ.length≤1000000)(h0:(tickE Γ.reverse t).2=0):(tickE Γ.reverse t).1.shape=true∧(tickE Γ.reverse t).1.idx 549755813888:=by
 obtain ⟨G,-,-,hd⟩:=z71 h
 have hd:=hd h0
 have hs:=z1g hd
 have hc:=z1s Γ.reverse t
 refine ⟨hs,Tm.idx_of _ _ hs (z6v hd _ ?_)⟩
 rw [List.length_map]
 omega
theorem z4j {t:Tm}{g:List Ty}(h1:¬ t.kind=1)(h:(t.inferN g).2=0):∀ x ∈ t.args,(x.inferN (if t.kind=2 then g++[t.type] else g)).2=0:=by
 rw [Tm.inferN_eq,if_neg h1] at h
 generalize (if t.kind=2 then g++[t.type] else g)=g' at *
 split at h
 ·rename_i h2
  obtain ⟨-,hx⟩:=Tm.infers_all _ _ h2
  intro x hm
  obtain ⟨i,hi⟩:=List.getElem?_of_mem hm
  exact (hx i x hi).1
 ·rename_i h2;exact absurd h h2
theorem zeo {Γ:List T}{t:Tm}{a:T}{F:Env Γ→a.V}(h:Dn Γ t a F)(hΓ:∀ x ∈ Γ,x.ok)(hi:(t.inferN (Γ.reverse.map T.ty)).2=0):a.ok:=by
 have hg:∀ x ∈ Γ.reverse.map T.ty,x.ok:=by
  intro x hx
  obtain ⟨y,hy,rfl⟩:=List.mem_map.1 hx
  exact T.ok_ty (hΓ y (List.mem_reverse.1 hy))
 have ho:=Tm.inferN_ok t _ (z1g h) hg hi
 rcases z6x h with h1|h1
 ·rw [h1] at ho;exact T.ty_ok ho
 ·rw [h1] at hi;exact absurd hi (by decide)
def OfOK (gl:Globs)(Γ:List T)(t:Tm)(a:T):Prop:=∀ b,Con1 Tryz.prog gl 41 [ptr b,.sl ((Γ.reverse.map T.ty).map Ty.cells),t.dv] [(b,mk1 0)] (.tup [(tickE Γ.reverse t).1.dv,(ofY Γ.reverse t a).dv]) [(b,mk1 (tickE Γ.reverse t).2)]
theorem z1d9 {Γ:List T}{t:Tm}{a:T}{F:Env Γ→a.V}(h:Dn Γ t a F)(hΓ:∀ x ∈ Γ,x.ok)(hi:(t.inferN (Γ.reverse.map T.ty)).2=0)(hl:Γ.length+t.count≤1000000):OfOK gl Γ t a:=by
 induction h with
 | @var Γ i a p h=>
  intro b
  obtain ⟨c1,c2⟩:=zbn (g:=Γ.reverse) (k:=1) (.inl rfl) (i:Int) a
  have c1:tickE Γ.reverse (vT (i:Nat))=nodeE 0 10 zY [nT 4 [],vT (i:Nat)]:=c1
  have c2:ofY Γ.reverse (vT (i:Nat)) a=a.ty:=c2
  rw [c1,c2]
  have hlt:=h.lt
  refine z1d6 b _ i a.ty (by simp;omega) (by simp;omega) ?_
  have:=zhj h
  rw [List.getElem?_map,List.length_map]
  rw [List.getD_eq_getElem?_getD] at this
  have hi2:Γ.reverse.length - 1 - i<Γ.reverse.length:=by simp;omega
  rw [List.getElem?_eq_getElem hi2] at this ⊢
  simp only [Option.getD_some] at this
  rw [this];rfl
 | @lam Γ a r x f ha h ih=>
  intro b
  have hic:=z4j (t:=lamT a x) (by show ¬ (2:Int)=1;decide) hi x (by simp [lamT,Tm.args])
  rw [if_pos (show (lamT a x).kind=2 from rfl)] at hic
  have hrv:(a::Γ).reverse=Γ.reverse++[a]:=List.reverse_cons
  have hic:(x.inferN ((a::Γ).reverse.map T.ty)).2=0:=by rw [hrv,List.map_append];exact hic
  have hc:(lamT a x).count=1+(x.count+0):=rfl
  have hΓ':∀ y ∈ a::Γ,y.ok:=fun y hy=>by rcases List.mem_cons.1 hy with rfl|hy;exact ha;exact hΓ y hy
  have w:=ih hΓ' hic (by simp only [List.length_cons];omega) b
  have ho:=zeo (.lam ha h) hΓ hi
  have hto:=z1s (a::Γ).reverse x
  have hy:(tickE (a::Γ).reverse x).2=0→ofY (a::Γ).reverse x r=r.ty:=z2l
  rw [hrv] at w hto hy
  obtain ⟨c1,c2⟩:=z1d5 (g:=Γ.reverse) (a:=a) (r:=r) (x:=x) rfl
  rw [c1,c2]
  rw [List.map_append] at w
  exact z1d7 b _ x a r _ _ (by simp;omega) w hy hto ho
 | @app Γ a c f x F X hf hx ih1 ih2=>
  intro b
  have hic:=z4j (t:=nT 3 [f,x]) (by show ¬ (3:Int)=1;decide) hi
  rw [if_neg (show ¬ (nT 3 [f,x]).kind=2 by show ¬ (3:Int)=2;decide)] at hic
  have hc:(nT 3 [f,x]).count=1+(f.count+(x.count+0)):=rfl
  obtain ⟨c1,c2⟩:=zen (g:=Γ.reverse) (k:=3) (i:=0) (y:=zY) (x:=f) (z:=x) (s:=c) (by decide) (show _=appE a c (tickE Γ.reverse f).1 (tickE Γ.reverse x).1 by rw [z0t hf,z0t hx];rfl)
  have c1:DV.tup [(tickE Γ.reverse (nT 3 [f,x])).1.dv,(ofY Γ.reverse (nT 3 [f,x]) c).dv]=_:=c1
  have c2:(tickE Γ.reverse (nT 3 [f,x])).2=_:=c2
  rw [c1,c2]
  exact z1d2 b _ f x _ _ _ _ a c (ih1 hΓ (hic f (by simp [nT,Tm.args])) (by omega) b) (ih2 hΓ (hic x (by simp [nT,Tm.args])) (by omega) b) z2l (z1s _ _) z2l (z1s _ _) (z65 hx (by omega))
 | @zero Γ=>
  intro b
  obtain ⟨c1,c2⟩:=zbn (g:=Γ.reverse) (k:=4) (.inr (.inl rfl)) 0 .nat
  have c1:tickE Γ.reverse (nT 4 [])=nodeE 0 10 zY [nT 4 [],nT 4 []]:=c1
  have c2:ofY Γ.reverse (nT 4 []) .nat=T.ty .nat:=c2
  rw [c1,c2]
  exact z1cu b _
 | @succ Γ x X hx ih=>
  intro b
  have hic:=z4j (t:=nT 5 [x]) (by show ¬ (5:Int)=1;decide) hi
  rw [if_neg (show ¬ (nT 5 [x]).kind=2 by show ¬ (5:Int)=2;decide)] at hic
  have hc:(nT 5 [x]).count=1+(x.count+0):=rfl
  obtain ⟨c1,c2⟩:=zem (g:=Γ.reverse) (k:=5) (i:=0) (y:=zY) (x:=x) (s:=.nat) (by decide) (show _=unE 5 .nat (tickE Γ.reverse x).1 by rw [z0t hx];rfl)
  have c1:DV.tup [(tickE Γ.reverse (nT 5 [x])).1.dv,(ofY Γ.reverse (nT 5 [x]) .nat).dv]=_:=c1
  have c2:(tickE Γ.reverse (nT 5 [x])).2=_:=c2
  rw [c1,c2]
  exact z1cx b _ x _ _ (ih hΓ (hic x (by simp [nT,Tm.args])) (by omega) b) z2l (z1s _ _)
 | @rc Γ a x f n B F N ha hb hf hn ih1 ih2 ih3=>
  intro b
  have hic:=z4j (t:=Tm.mk 6 0 a.ty [x,f,n]) (by show ¬ (6:Int)=1;decide) hi
  rw [if_neg (show ¬ (Tm.mk 6 0 a.ty [x,f,n]).kind=2 by show ¬ (6:Int)=2;decide)] at hic
  have hc:(Tm.mk 6 0 a.ty [x,f,n]).count=1+(x.count+(f.count+(n.count+0))):=rfl
  have i1:=hic x (by simp [Tm.args])
  have i2:=hic f (by simp [Tm.args])
  have i3:=hic n (by simp [Tm.args])
  obtain ⟨c1,c2⟩:=zla (g:=Γ.reverse) (k:=6) (i:=0) (y:=a.ty) (x:=x) (z:=f) (w:=n) (s:=a) (by decide) (show _=roundsE 6 a a (.fn .nat (.fn a a)) .nat (tickE Γ.reverse x).1 (tickE Γ.reverse f).1 (tickE Γ.reverse n).1 by
   rw [z0t hb,z0t hf,z0t hn]
   unfold tkNodeE
   rw [if_neg (by decide),if_neg (by decide),if_neg (by decide),if_neg (by decide),if_pos (by decide),z3b];rfl)
  rw [c1,c2]
  exact z1d3 b _ x f n _ _ _ _ _ _ a (ih1 hΓ i1 (by omega) b) (ih2 hΓ i2 (by omega) b) (ih3 hΓ i3 (by omega) b) z2l (z1s _ _) z2l (z1s _ _) z2l (z1s _ _) (z65 hf (by omega)) (z65 hn (by omega)) (zeo hf hΓ i2)
 | @nil Γ=>
  intro b
  obtain ⟨c1,c2⟩:=zbn (g:=Γ.reverse) (k:=7) (.inr (.inr (.inl rfl))) 0 .list
  have c1:tickE Γ.reverse (nT 7 [])=nodeE 0 10 zY [nT 4 [],nT 7 []]:=c1
  have c2:ofY Γ.reverse (nT 7 []) .list=T.ty .list:=c2
  rw [c1,c2]
  exact z1cv b _
 | @cons Γ x l X L hx hy ih1 ih2=>
  intro b
  have hic:=z4j (t:=nT 8 [x,l]) (by show ¬ (8:Int)=1;decide) hi
  rw [if_neg (show ¬ (nT 8 [x,l]).kind=2 by show ¬ (8:Int)=2;decide)] at hic
  have hc:(nT 8 [x,l]).count=1+(x.count+(l.count+0)):=rfl
  obtain ⟨c1,c2⟩:=zen (g:=Γ.reverse) (k:=8) (i:=0) (y:=zY) (x:=x) (z:=l) (s:=.list) (by decide) (show _=binE 8 .nat .list (tickE Γ.reverse x).1 (tickE Γ.reverse l).1 by rw [z0t hx,z0t hy];rfl)
  have c1:DV.tup [(tickE Γ.reverse (nT 8 [x,l])).1.dv,(ofY Γ.reverse (nT 8 [x,l]) .list).dv]=_:=c1
  have c2:(tickE Γ.reverse (nT 8 [x,l])).2=_:=c2
  rw [c1,c2]
  exact z1d0 b _ x l _ _ _ _ (ih1 hΓ (hic x (by simp [nT,Tm.args])) (by omega) b) (ih2 hΓ (hic l (by simp [nT,Tm.args])) (by omega) b) z2l (z1s _ _) z2l (z1s _ _) (z65 hy (by omega))
 | @fold Γ a x f n B F N ha hb hf hn ih1 ih2 ih3=>
  intro b
  have hic:=z4j (t:=Tm.mk 9 0 a.ty [x,f,n]) (by show ¬ (9:Int)=1;decide) hi
  rw [if_neg (show ¬ (Tm.mk 9 0 a.ty [x,f,n]).kind=2 by show ¬ (9:Int)=2;decide)] at hic
  have hc:(Tm.mk 9 0 a.ty [x,f,n]).count=1+(x.count+(f.count+(n.count+0))):=rfl
  have i1:=hic x (by simp [Tm.args])
  have i2:=hic f (by simp [Tm.args])
  have i3:=hic n (by simp [Tm.args])
  obtain ⟨c1,c2⟩:=zla (g:=Γ.reverse) (k:=9) (i:=0) (y:=a.ty) (x:=x) (z:=f) (w:=n) (s:=a) (by decide) (show _=roundsE 9 a a (.fn .nat (.fn .list (.fn a a))) .list (tickE Γ.reverse x).1 (tickE Γ.reverse f).1 (tickE Γ.reverse n).1 by
   rw [z0t hb,z0t hf,z0t hn]
   unfold tkNodeE
   rw [if_neg (by decide),if_neg (by decide),if_neg (by decide),if_neg (by decide),if_pos (by decide),z3b];rfl)
  rw [c1,c2]
  exact z1d4 b _ x f n _ _ _ _ _ _ a (ih1 hΓ i1 (by omega) b) (ih2 hΓ i2 (by omega) b) (ih3 hΓ i3 (by omega) b) z2l (z1s _ _) z2l (z1s _ _) z2l (z1s _ _) (z65 hf (by omega)) (z65 hn (by omega)) (zeo hf hΓ i2)
 | @pair Γ a c x y X Y hx hy ih1 ih2=>
  intro b
  have hic:=z4j (t:=nT 10 [x,y]) (by show ¬ (10:Int)=1;decide) hi
  rw [if_neg (show ¬ (nT 10 [x,y]).kind=2 by show ¬ (10:Int)=2;decide)] at hic
  have hc:(nT 10 [x,y]).count=1+(x.count+(y.count+0)):=rfl
  obtain ⟨c1,c2⟩:=zen (g:=Γ.reverse) (k:=10) (i:=0) (y:=zY) (x:=x) (z:=y) (s:=.pair a c) (by decide) (show _=binE 10 a c (tickE Γ.reverse x).1 (tickE Γ.reverse y).1 by rw [z0t hx,z0t hy];rfl)
  have c1:DV.tup [(tickE Γ.reverse (nT 10 [x,y])).1.dv,(ofY Γ.reverse (nT 10 [x,y]) (.pair a c)).dv]=_:=c1
  have c2:(tickE Γ.reverse (nT 10 [x,y])).2=_:=c2
  rw [c1,c2]
  exact z1d1 b _ x y _ _ _ _ a c (ih1 hΓ (hic x (by simp [nT,Tm.args])) (by omega) b) (ih2 hΓ (hic y (by simp [nT,Tm.args])) (by omega) b) z2l (z1s _ _) z2l (z1s _ _) (z65 hy (by omega))
 | @fst Γ a c x X hx ih=>
  intro b
  have hic:=z4j (t:=nT 11 [x]) (by show ¬ (11:Int)=1;decide) hi
  rw [if_neg (show ¬ (nT 11 [x]).kind=2 by show ¬ (11:Int)=2;decide)] at hic
  have hc:(nT 11 [x]).count=1+(x.count+0):=rfl
  obtain ⟨c1,c2⟩:=zem (g:=Γ.reverse) (k:=11) (i:=0) (y:=zY) (x:=x) (s:=a) (by decide) (show _=unE 11 (.pair a c) (tickE Γ.reverse x).1 by rw [z0t hx];rfl)
  have c1:DV.tup [(tickE Γ.reverse (nT 11 [x])).1.dv,(ofY Γ.reverse (nT 11 [x]) a).dv]=_:=c1
  have c2:(tickE Γ.reverse (nT 11 [x])).2=_:=c2
  rw [c1,c2]
  exact z1cy b _ x _ _ a c (ih hΓ (hic x (by simp [nT,Tm.args])) (by omega) b) z2l (z1s _ _)
 | @snd Γ a c x X hx ih=>
  intro b
  have hic:=z4j (t:=nT 12 [x]) (by show ¬ (12:Int)=1;decide) hi
  rw [if_neg (show ¬ (nT 12 [x]).kind=2 by show ¬ (12:Int)=2;decide)] at hic
  have hc:(nT 12 [x]).count=1+(x.count+0):=rfl
  obtain ⟨c1,c2⟩:=zem (g:=Γ.reverse) (k:=12) (i:=0) (y:=zY) (x:=x) (s:=c) (by decide) (show _=unE 12 (.pair a c) (tickE Γ.reverse x).1 by rw [z0t hx];rfl)
  have c1:DV.tup [(tickE Γ.reverse (nT 12 [x])).1.dv,(ofY Γ.reverse (nT 12 [x]) c).dv]=_:=c1
  have c2:(tickE Γ.reverse (nT 12 [x])).2=_:=c2
  rw [c1,c2]
  exact z1cz b _ x _ _ a c (ih hΓ (hic x (by simp [nT,Tm.args])) (by omega) b) z2l (z1s _ _)
 | @unit Γ=>
  intro b
  obtain ⟨c1,c2⟩:=zbn (g:=Γ.reverse) (k:=13) (.inr (.inr (.inr rfl))) 0 .unit
  have c1:tickE Γ.reverse (nT 13 [])=nodeE 0 10 zY [nT 4 [],nT 13 []]:=c1
  have c2:ofY Γ.reverse (nT 13 []) .unit=T.ty .unit:=c2
  rw [c1,c2]
  exact z1cw b _
end
section
variable {gl:Globs}
theorem z1da (a:T)(ho:a.ok):Con1 Tryz.prog gl 14 [a.ty.dv] [] (.tup [(cntY a).dv,dint (cntErr a)]) []:=by
 have w1:=z74 (gl:=gl) a.ty (by have:=(T.ok_ty ho).2;omega)
 rw [(Ty.checkN_iff a.ty).2 (T.ok_ty ho)] at w1
 have w2:=z1a (gl:=gl) a
 unfold CntOK at w2
 have fa:=Ty.fold a.ty
 have fc:=Ty.fold (cntY a)
 generalize a.ty=ta at *
 generalize cntY a=ca at *
 have hcc:=Ty.cells_eq ca
 refine t_in Tryz.func14 ?_
 intro X hP hgl hf hfn hn hR hids hfit
 refine t_g0 ?_
 refine t_c1 @fa w1 ?_
 refine t_g0 ?_
 refine t_c1 @fa w2 ?_
 refine t_r ?_
 simp [go_sem,hP,hgl,hn,fc,hcc] <;> (try omega)
def tTermE (g:List T)(t:Tm):Tm × Int:=if (tickE g t).2=0 then tickE g t else (zeroTm,(tickE g t).2)
theorem z9h (har:globOf gl 0=some arEls){Γ:List T}{t:Tm}{a:T}{F:Env Γ→a.V}(h:Dn Γ t a F)(hΓ:∀ x ∈ Γ,x.ok)(hl:Γ.length≤16)(hc:t.count≤4096)(hi:t.inferN (Γ.reverse.map T.ty)=(a.ty,0)) :
  Con1 Tryz.prog gl 12 [.sl ((Γ.reverse.map T.ty).map Ty.cells),t.dv] [] (.tup [(tTermE Γ.reverse t).1.dv,dint (tTermE Γ.reverse t).2]) []:=by
 have hck:t.checkN=0:=(Tm.checkN_iff t).2 ⟨z1g h,hc⟩
 have hg:∀ x ∈ Γ.reverse.map T.ty,x.ok:=by
  intro x hx
  obtain ⟨y,hy,rfl⟩:=List.mem_map.1 hx
  exact T.ok_ty (hΓ y (List.mem_reverse.1 hy))
 have w1:=z17m (gl:=gl) har (Γ.reverse.map T.ty) hg (by simp;omega) t a.ty hck hi
 have w2:=z1d9 (gl:=gl) h hΓ (by rw [hi]) (by omega)
 unfold OfOK at w2
 have ft:=Tm.fold t
 unfold tTermE
 generalize ofY Γ.reverse t a=y at *
 generalize tickE Γ.reverse t=r at *
 obtain ⟨x,e⟩:=r
 simp only at w2 ⊢
 have fx:=Tm.fold x
 have fy:=Ty.fold y
 have fa:=Ty.fold a.ty
 have hcx:=Tm.cells_eq x
 generalize (Γ.reverse.map T.ty).map Ty.cells=GG at *
 generalize a.ty=ta at *
 refine t_in Tryz.func12 ?_
 intro X hP hgl hf hfn hn hR hids hfit
 refine t_g0 ?_
 refine t_c1 @ft w1 ?_
 refine t_g @fa ?_
 refine z2w 22 (by simp [go_sem];rfl) ?_
 intro b hb
 simp [go_sem] at hb ⊢
 refine t_c1 @ft (w2 b) ?_
 by_cases h0:e=0
 ·rw [if_pos h0] at hR
  refine t_g @h0 ?_
  refine t_r ?_
  simp [go_sem,hP,hgl,hn,h0,fx,hcx] <;> (try omega)
 ·rw [if_neg h0] at hR
  refine t_g @h0 ?_
  refine t_r ?_
  simp [go_sem,hP,hgl,hn,zeroTm,h0] <;> (try omega)
  all_goals exact t_f
theorem zlb (har:globOf gl 0=some arEls){t:Tm}{r:T}{F:Env []→r.V}(h:Dn [] t r F)(hc:t.count≤536870912)(y:r.V)(hr:r.plain)(hro:r.ok){c d:Nat}(hcs:evS d t []=some (ofM r y,c))(wk:Nat)(hwk:wk≤65536) :
  Con1 Tryz.prog gl 58 [t.dv,dint (wk:Int)] [] (.tup [(callR t (valOf r y) c wk).1.dv,dint (callR t (valOf r y) c wk).2.1,dint (callR t (valOf r y) c wk).2.2]) []:=by
 have hcs':callS d t (mvsOf [] ())=some (ofM r y,c):=by
  unfold callS
  rw [hcs]
  simp only [mvsOf,zba,Nat.add_zero]
 have w:=z1as (gl:=gl) har (l:=[]) (r:=r) (F:=F) h hc () y trivial (by simp) hr hro hcs' wk hwk 0 (by omega) (by simp only [mvsOf,MV.nles])
 have hft:=Tm.fold t
 simp only [valsOf,List.map_nil] at w
 generalize callR t (valOf r y) c wk=q at *
 obtain ⟨v,n,e⟩:=q
 simp only at w ⊢
 have hfv:=Val.fold v
 refine t_in Tryz.func58 ?_
 intro X hP hgl hf hfn hn hR hids hfit
 refine t_g0 ?_
 refine t_c1 @hft w ?_
 refine t_r ?_
 simp [go_sem,hP,hgl,hn,hfv] <;> (try omega)
def ticksR (t:Tm)(c k:Nat)(wk:Int):Int × Int:=if (t.typeE []).2=0 then (if (c:Int)≤wk then ((k:Int),0) else (0,5)) else (0,4)
theorem z9i (har:globOf gl 0=some arEls){t:Tm}{r:T}{F:Env []→r.V}(h:Dn [] t r F)(hc:t.count≤536870912)(y:r.V)(hr:r.plain)(hro:r.ok){c k d:Nat}(hcs:evB d t []=some (ofM r y,c,k))(wk:Nat)(hwk:wk≤65536) :
  Con1 Tryz.prog gl 23 [t.dv,dint (wk:Int)] [] (.tup [dint (ticksR t c k wk).1,dint (ticksR t c k wk).2]) []:=by
 have w:=zlb (gl:=gl) har h hc y hr hro (z17t hcs) wk hwk
 have hkc:=z8u d _ _ _ _ _ hcs
 have hft:=Tm.fold t
 unfold ticksR
 unfold callR at w
 by_cases h0:(t.typeE []).2=0
 rotate_left
 ·rw [if_neg h0] at w ⊢
  refine t_in Tryz.func23 ?_
  intro X hP hgl hf hfn hn hR hids hfit
  refine t_g0 ?_
  refine t_c1 @hft w ?_
  refine t_g0 ?_
  refine t_r ?_
  simp [go_sem,hP,hgl,hn] <;> (try omega)
 rw [if_pos h0] at w ⊢
 by_cases h1:(c:Int)≤wk
 rotate_left
 ·rw [if_neg h1] at w ⊢
  refine t_in Tryz.func23 ?_
  intro X hP hgl hf hfn hn hR hids hfit
  refine t_g0 ?_
  refine t_c1 @hft w ?_
  refine t_g0 ?_
  refine t_r ?_
  simp [go_sem,hP,hgl,hn] <;> (try omega)
 rw [if_pos h1] at w ⊢
 have wv:=fun b=>zjz (gl:=gl) d 0 b 0 hcs (by omega) (by omega) (by simp only [MV.nles])
 have hvd:MV.varsD []=nilP:=by rw [MV.varsD]
 simp only [hvd,Nat.zero_add] at wv
 have hfv:=Val.fold (valOf r y)
 generalize valOf r y=v at *
 refine t_in Tryz.func23 ?_
 intro X hP hgl hf hfn hn hR hids hfit
 refine t_g0 ?_
 refine t_c1 @hft w ?_
 refine t_g0 ?_
 refine z2w 21 (by simp [go_sem];rfl) ?_
 intro b hb
 simp [go_sem] at hb ⊢
 refine t_c1 @hft (wv b) ?_
 refine t_g0 ?_
 refine t_r ?_
 simp [go_sem,hP,hgl,hn] <;> (try omega)
end
section
variable {gl:Globs}
theorem zep:∀ {a:T},a.plain→a.tk.plain
 | .nat,_=>trivial
 | .list,_=>trivial
 | .unit,_=>trivial
 | .pair _ _,h=>⟨zep h.1,zep h.2⟩
 | .fn _ _,h=>h.elim
theorem zeq:∀ {a:T},a.plain→a.tk.size=a.size
 | .nat,_=>rfl
 | .list,_=>rfl
 | .unit,_=>rfl
 | .pair a b,h=>by show 1+a.tk.size+b.tk.size=1+a.size+b.size;rw [zeq h.1,zeq h.2]
 | .fn _ _,h=>h.elim
theorem zlc {t:Tm}{a:T}{G:Env []→a.wt.V}(hK:SemK [] t a G){d:Nat}{r:MV × Nat × Nat}(h:evB d t []=some r):r.2.2=Prod.fst (G ()):=by
 obtain ⟨d',v,k,h1,-,h3⟩:=hK [] () trivial
 have:=ziz d d' t [] r (v,k) h h1
 rw [← h3]
 exact (congrArg Prod.snd this).symm
theorem z1db (t x:Tm)(ta:Ty)(q1 v:Val)(n q2 q3 wk:Int)(w1:Con1 Tryz.prog gl 40 [.sl [],t.dv] [] (.tup [ta.dv,dint 0]) [])(w2:Con1 Tryz.prog gl 57 [ta.dv] [] (.tup [dbool true,dint 0]) [])
  (w3:Con1 Tryz.prog gl 12 [.sl [],t.dv] [] (.tup [x.dv,dint 0]) []) (w4:Con1 Tryz.prog gl 58 [x.dv,dint wk] [] (.tup [q1.dv,dint q2,dint q3]) []) (hq:q3=0→q1=Val.mk 3 0 [] [Val.mk 1 n [] [],v]) :
  Con1 Tryz.prog gl 22 [t.dv,dint wk] [] (if q3=0 then .tup [v.dv,dint n,dint 0] else .tup [zeroV.dv,dint 0,dint q3]) []:=by
 have ft:=Tm.fold t
 have fa:=Ty.fold ta
 have fx:=Tm.fold x
 have fv:=Val.fold v
 have fq:=Val.fold q1
 have hcv:=Val.cells_eq v
 by_cases h:q3=0
 ·rw [if_pos h]
  have hv3:q1.dv = .agg [dint 3,dint 0,.sl [],.sl [[dint 1,dint n,.sl [],.sl []],v.cells]]:=by rw [hq h];rfl
  rw [h,hv3,hcv] at w4
  refine t_in Tryz.func22 ?_
  intro X hP hgl hf hfn hn hR hids hfit
  refine t_g0 ?_
  refine t_c1 @ft w1 ?_
  refine t_g0 ?_
  refine t_c1 @fa w2 ?_
  refine t_g0 ?_
  refine t_c1 @ft w3 ?_
  refine t_g0 ?_
  refine t_c1 @fx w4 ?_
  refine t_g0 ?_
  refine t_r ?_
  simp [go_sem,hP,hgl,hn,fv,hcv] <;> (try omega)
 ·rw [if_neg h]
  refine t_in Tryz.func22 ?_
  intro X hP hgl hf hfn hn hR hids hfit
  refine t_g0 ?_
  refine t_c1 @ft w1 ?_
  refine t_g0 ?_
  refine t_c1 @fa w2 ?_
  refine t_g0 ?_
  refine t_c1 @ft w3 ?_
  refine t_g0 ?_
  refine t_c1 @fx w4 ?_
  refine t_g @h ?_
  refine t_r ?_
  simp [go_sem,hP,hgl,hn,zeroV] <;> (try omega)
  all_goals exact t_f
theorem z1dc (har:globOf gl 0=some arEls){t:Tm}{a:T}{F:Env []→a.V}(h:Dn [] t a F)(hp:a.plain)(ho:a.ok)(hos:a.size≤60)(hc:t.count≤4096)(hi:t.inferN []=(a.ty,0))(h0:(tickE [] t).2=0){G:Env []→a.wt.V}(hG:Dn [] (tickE [] t).1 a.wt G){c d:Nat}(hcs:evS d (tickE [] t).1 []=some (ofM a.wt (G ()),c))(wk:Nat)(hwk:wk≤65536) :
  Con1 Tryz.prog gl 22 [t.dv,dint (wk:Int)] [] (if (callR (tickE [] t).1 (valOf a.wt (G ())) c wk).2.2=0 then .tup [(valOf a.tk (Prod.snd (G ()))).dv,dint (Int.ofNat (Prod.fst (G ()))),dint 0] else .tup [zeroV.dv,dint 0,dint (callR (tickE [] t).1 (valOf a.wt (G ())) c wk).2.2]) []:=by
 have hck:t.checkN=0:=(Tm.checkN_iff t).2 ⟨z1g h,hc⟩
 have w1:=zb5 (gl:=gl) har t a.ty hck hi
 have w2:=zdo (gl:=gl) a hp ho
 have w3:=z9h (gl:=gl) har h (by simp) (by simp) hc (by simpa using hi)
 have hte:tTermE [] t=tickE [] t:=by unfold tTermE;rw [if_pos h0]
 simp only [List.reverse_nil,List.map_nil,hte] at w3
 rw [h0] at w3
 have hwp:(T.pair .nat a.tk).plain:=⟨trivial,zep hp⟩
 have hwo:a.wt.ok:=by show 1+1+a.tk.size≤64;rw [zeq hp];omega
 have hxc:=z1s [] t
 have w4:=zlb (gl:=gl) har hG (by omega) (G ()) hwp hwo hcs wk hwk
 have hcr:=z1aq (tickE [] t).1 (valOf a.wt (G ())) c wk
 refine z1db t _ a.ty _ _ _ _ _ _ w1 w2 w3 w4 fun hq=>?_
 rcases hcr with h1|h1|h1
 ·rw [h1] at hq;exact absurd hq (by decide)
 ·rw [h1] at hq;exact absurd hq (by decide)
 ·exact h1.2
end
section
variable {gl:Globs}
def tA:Tm:=nT 3 [lamT .nat (vT 0),nT 4 []]
theorem zbo:Dn [] tA .nat (fun _=>(0:Nat)):=.app (a:=.nat) (.lam z0r (.var .zero)) .zero
theorem zbp:(tickE [] tA).2=0:=by decide
theorem z1dd:(tickE [] tA).1.kind=3:=by decide
theorem zld:tA.inferN []=(T.ty .nat,0):=by rfl
theorem zle:evB 8 tA []=some (.num 0,4,1):=by rfl
theorem z1de:evS 40 (tickE [] tA).1 []=some (.both (.num 1) (.num 0),46):=by kernel_rfl
theorem z1df:((tickE [] tA).1.typeE []).2=0:=by kernel_rfl
theorem z1dg:(tA.typeE []).2=0:=by decide
set_option maxHeartbeats 1000000 in
set_option maxRecDepth 100000 in
theorem zlf (har:globOf gl 0=some arEls):Con1 Tryz.prog gl 7 [] [] (dbool true) []:=by
 obtain ⟨G,hK,hD,hT⟩:=z71 zbo
 have hG:=hT zbp
 have g1:Prod.fst (G ())=(1:Nat):=(zlc hK zle).symm
 have g2:Prod.snd (G ())=(0:Nat):=(hD () () trivial:(0:Nat)=_).symm
 have hm:ofM (T.wt .nat) (G ()) = .both (.num 1) (.num 0):=by
  show MV.both (.num (Prod.fst (G ()))) (.num (Prod.snd (G ())))=_
  rw [g1,g2]
 have w2:=z1dc (gl:=gl) har zbo trivial z0r (by decide) (by decide) zld zbp hG (c:=46) (d:=40) (by rw [z1de,hm]) 500 (by decide)
 have hcr:(callR (tickE [] tA).1 (valOf (T.wt .nat) (G ())) 46 (500:Nat)).2.2=0:=by
  unfold callR
  rw [if_pos z1df,if_pos (by decide)]
 rw [if_pos hcr,g1,g2] at w2
 have e10:(valOf (T.tk .nat) (0:Nat)).dv = .agg [dint 1,dint 0,.sl [],.sl []]:=by rfl
 have e11:dint (Int.ofNat (1:Nat))=dint 1:=by rfl
 rw [e10,e11] at w2
 have w1:=z9h (gl:=gl) har zbo (by simp) (by simp) (by decide) (by simpa using zld)
 have hte:tTermE [] tA=tickE [] tA:=by unfold tTermE;rw [if_pos zbp]
 simp only [List.reverse_nil,List.map_nil,hte] at w1
 rw [zbp] at w1
 have w3:=z9i (gl:=gl) har zbo (by decide) (0:Nat) trivial z0r (c:=4) (k:=1) (d:=8) zle 500 (by decide)
 have htr:ticksR tA 4 1 (500:Nat)=(1,0):=by
  unfold ticksR
  rw [if_pos z1dg,if_pos (by decide)];rfl
 rw [htr] at w3
 have w4:=z1bf (gl:=gl) natY natY
 have w5:=z1da (gl:=gl) (.fn .nat .nat) (by unfold T.ok;decide)
 have e5:(cntY (.fn .nat .nat)).dv = .agg [dint 4,.sl [[dint 1,.sl []],[dint 3,.sl [[dint 1,.sl []],[dint 1,.sl []]]]]]:=by rfl
 have e6:cntErr (.fn .nat .nat)=0:=by decide
 have e7:(T.ty (.fn .nat .nat)).dv = .agg [dint 4,.sl [[dint 1,.sl []],[dint 1,.sl []]]]:=by rfl
 have e8:(Ty.mk 4 [natY,natY]).dv = .agg [dint 4,.sl [[dint 1,.sl []],[dint 1,.sl []]]]:=by rfl
 rw [e5,e6,e7] at w5
 have e9:tA.dv = .agg [dint 3,dint 0,dint 0,.sl [],.sl [[dint 2,dint 0,dint 1,.sl [],.sl [[dint 1,dint 0,dint 0,.sl [],.sl []]]],[dint 4,dint 0,dint 0,.sl [],.sl []]]]:=by rfl
 have hk:=z1dd
 rw [e9] at w1 w2 w3
 generalize (tickE [] tA).1=x at *
 have hcx:=Tm.cells_eq x
 have fx:=Tm.fold x
 have hna:natY.dv = .agg [dint 1,.sl []]:=rfl
 refine t_in Tryz.func7 ?_
 intro X hP hgl hf hfn hn hR hids hfit
 refine t_g0 ?_
 refine t_c1 trivial w1 ?_
 refine t_g0 ?_
 refine t_c1 trivial w2 ?_
 refine t_g0 ?_
 refine t_c1 trivial w3 ?_
 refine t_g0 ?_
 refine t_c2 (j2 @hna @e8) w4 w5 ?_
 refine t_g (j2 @hk @hcx) ?_
 refine t_r ?_
 simp [go_sem,hP,hgl,hn,hk] <;> (try omega)
end
section
variable {gl:Globs}
def limB35 (e:Int):Bool:=decide (e=4) || decide (e=5) || decide (e=3)
theorem z9j (e:Int):Con1 Tryz.prog gl 21 [dint e] [] (dbool (limB35 e)) []:=by
 unfold limB35
 refine t_in Tryz.func21 ?_
 intro X hP hgl hf hfn hn hR hids hfit
 by_cases h4:e=4
 ·refine t_g @h4 ?_
  refine t_r ?_
  simp [go_sem,hP,hgl,hn,h4] <;> (try omega)
 by_cases h5:e=5
 ·refine t_g (j2 @h4 @h5) ?_
  refine t_r ?_
  simp [go_sem,hP,hgl,hn,h4,h5] <;> (try omega)
 by_cases h3:e=3
 ·refine t_g (j2 @h4 (j2 @h5 @h3)) ?_
  refine t_r ?_
  simp [go_sem,hP,hgl,hn,h4,h5,h3] <;> (try omega)
 ·refine t_g (j2 @h4 (j2 @h5 @h3)) ?_
  refine t_r ?_
  simp [go_sem,hP,hgl,hn,h4,h5,h3] <;> (try omega)
structure PData (x:Tm)(a:T):Prop where
 plain:a.plain
 size:a.size≤3
 dn:∃ F:Env []→a.V,Dn [] x a F
 infer:x.inferN []=(a.ty,0)
 count:x.count≤1267
theorem zer {x:Tm}{r:Ty}(hc:x.checkN=0)(h:x.inferN []=(r,0)):(x.typeE []).2=0:=by
 unfold Tm.typeE Tm.typedE
 rw [if_pos (show ctxN []=0 from rfl),if_pos hc,h]
theorem PData.type {x:Tm}{a:T}(h:PData x a):(x.typeE []).2=0:=by
 obtain ⟨F,hF⟩:=h.dn
 exact zer ((Tm.checkN_iff x).2 ⟨z1g hF,by have:=h.count;omega⟩) h.infer
end
section
variable {gl:Globs}
def tstpD (l:List Int)(p:Nat):Tm × Nat:=(Tm.mk 2 0 (Ty.mk 1 []) [(termD l 2 (Ty.mk 1 []) [Ty.mk 1 []] p).1],(termD l 2 (Ty.mk 1 []) [Ty.mk 1 []] p).2)
theorem z1dh (b:Nat)(l:List Int)(p:Nat)(hl:l.length≤500)(hp:p≤l.length) :
  Con1 Tryz.prog gl 25 [ptr b] [(b,deck l p)] (tstpD l p).1.dv [(b,deck l (tstpD l p).2)]:=by
 have wn:=z1be (gl:=gl)
 have hg:∀ x ∈ [Ty.mk 1 []],x.small:=by intro x hx;rw [List.mem_singleton.1 hx];exact z1e
 have wt:=zi6 (gl:=gl) b l hl 2 (by decide) (Ty.mk 1 []) [Ty.mk 1 []] p z1e hg (by simp) hp
 unfold tstpD
 generalize termD l 2 (Ty.mk 1 []) [Ty.mk 1 []] p=xd at *
 obtain ⟨x,q⟩:=xd
 simp only at wt ⊢
 have wl:=z3u (gl:=gl) (Ty.mk 1 []) x
 have hfx:=Tm.fold x
 have hfl:=Tm.fold (Tm.mk 2 0 (Ty.mk 1 []) [x])
 generalize Tm.mk 2 0 (Ty.mk 1 []) [x]=y at *
 have e1:(Ty.mk 1 []).dv = .agg [dint 1,.sl []]:=rfl
 have e2:List.map Ty.cells [Ty.mk 1 []]=[[dint 1,.sl []]]:=rfl
 rw [e1] at wn wt wl
 rw [e2] at wt
 refine t_in Tryz.func25 ?_
 intro X hP hgl hf hfn hn hR hids hfit
 refine t_g0 ?_
 refine t_c5 @hfx wn wn wn wt wl ?_
 refine t_ro [(b,deck l q)] trivial ?_
 try simp
 try all_goals exact t_f
theorem z1di (l:List Int){p:Nat}(hp:p≤l.length):∃ F:Env []→(T.fn .nat .nat).V,Dn [] (tstpD l p).1 (T.fn .nat .nat) F∧(tstpD l p).1.count≤1500∧(tstpD l p).2≤l.length∧(tstpD l p).1.inferN []=(Ty.mk 4 [Ty.mk 1 [],Ty.mk 1 []],0):=by
 have hg:∀ x ∈ [Ty.mk 1 []],x.small:=by intro x hx;rw [List.mem_singleton.1 hx];exact z1e
 obtain ⟨F,hF⟩:=ze9 l 2 z1e hg hp (G:=[.nat]) (a:=.nat) rfl rfl
 have hc:=zdf l 2 (Ty.mk 1 []) [Ty.mk 1 []] p z1e hg hp
 rw [show drawB 2=485 from rfl] at hc
 have hle:=z4x zk5 2 (Ty.mk 1 []) [Ty.mk 1 []] p z1e hg hp
 refine ⟨_,.lam (a:=.nat) (by unfold T.ok;decide) hF,?_,hle.1,z55 hle.2 (T.ok_ty (a:=.fn .nat .nat) (by unfold T.ok;decide))⟩
 show 1+((termD l 2 (Ty.mk 1 []) [Ty.mk 1 []] p).1.count+0)≤1500
 omega
set_option maxHeartbeats 2000000 in
set_option maxRecDepth 100000 in
theorem z1dj (har:globOf gl 0=some arEls)(l:List Int):Con1 Tryz.prog gl 5 [.sl (ints l)] [] (dbool true) []:=by
 have wa:=zlf (gl:=gl) har
 refine t_in Tryz.func5 ?_
 intro X hP hgl hf hfn hn hR hids hfit
 by_cases hl:l.length≤500
 rotate_left
 ·refine t_g0 ?_
  refine t_c2 @hl wa (zad l) ?_
  refine t_g0 ?_
  refine t_c1 trivial wa ?_
  refine t_r ?_
  simp [go_sem,hP,hgl,hn] <;> (try omega)
 refine t_g0 ?_
 refine t_c2 @hl wa (zad l) ?_
 refine t_g0 ?_
 refine t_a ?_
 first|refine z05 [] fun K hK=>?_|refine z09 (by rw [hP];exact z08) [] fun K hK=>?_
 refine t_s0 ?_
 repeat (refine ⟨by omega,?_⟩)
 refine z7u hP hgl (zgs l) (by simp [go_sem]) rfl (by simp [go_sem]) (by simp) (by rw [hn];exact Nat.le_of_ble_eq_true rfl) ?_
 rintro rr φ ⟨b,rfl,rfl⟩ -
 simp [go_sem,hP,hgl,hn]
 refine t_e ?_
 clear hK K
 have wst:=z1dh (gl:=gl) b l 0 hl (by omega)
 obtain ⟨F,f1,f2,f3,f4⟩:=z1di l (p:=0) (by omega)
 generalize tstpD l 0=sd at *
 obtain ⟨t,p1⟩:=sd
 simp only at f1 f2 f3 f4 wst
 have wx1:=z1w (gl:=gl) b l p1 3 (by decide) (by omega)
 have hb1:=z0y (l:=l) (p:=p1) (n:=3) (by decide)
 have hp2:=z0s (l:=l) (p:=p1) (n:=3) f3
 generalize nextD l p1 3=nd1 at *
 obtain ⟨j1,p2⟩:=nd1
 simp only at wx1 hb1 hp2
 have wx2:=z1w (gl:=gl) b l p2 2 (by decide) (by omega)
 have hb2:=z0y (l:=l) (p:=p2) (n:=2) (by decide)
 generalize nextD l p2 2=nd2 at *
 obtain ⟨j2,p3⟩:=nd2
 simp only at wx2 hb2
 obtain ⟨n1,hn1⟩:∃ n:Nat,j1=(n:Int):=⟨j1.toNat,by omega⟩
 obtain ⟨n2,hn2⟩:∃ n:Nat,j2=(n:Int):=⟨j2.toNat,by omega⟩
 subst hn1
 subst hn2
 obtain ⟨m,hm⟩:∃ m:Nat,m=n1+n2:=⟨_,rfl⟩
 have hmi:(m:Int)=(n1:Int)+n2:=by omega
 have wk1:=z73 (gl:=gl) n1 (by omega)
 have wk2:=z73 (gl:=gl) m (by omega)
 rw [hmi] at wk2
 have wp1:=z2e (gl:=gl) t (numTm n1)
 have wp2:=z2e (gl:=gl) t (numTm m)
 have dn1:=z99 [] n1
 have dn2:=z99 [] m
 have dA1:Dn [] (nT 3 [t,numTm n1]) .nat _:=.app f1 dn1
 have dA2:Dn [] (nT 3 [t,numTm m]) .nat _:=.app f1 dn2
 have cn1:=z4u n1
 have cn2:=z4u m
 have w1:=z9h (gl:=gl) har dA1 (by simp) (by simp) (by show 1+(t.count+((numTm n1).count+0))≤4096;omega) (z54 f4 (zbf _ n1))
 have w2:=z9h (gl:=gl) har dA2 (by simp) (by simp) (by show 1+(t.count+((numTm m).count+0))≤4096;omega) (z54 f4 (zbf _ m))
 have e1:=zd5 (nT 3 [t,numTm n1]) []
 have e2:=zd5 (nT 3 [t,numTm m]) []
 have k1:=z1s [] (nT 3 [t,numTm n1])
 have k2:=z1s [] (nT 3 [t,numTm m])
 have q1:=fun h=>zkz f1 n1 h
 have q2:=fun h=>zkz f1 m h
 obtain ⟨Gt,-,-,hGt⟩:=z71 f1
 obtain ⟨Gn,hGn,hn0,hns⟩:=zky n1
 obtain ⟨Gm,hGm,-,hms⟩:=zky m
 obtain ⟨Ga,-,-,hGa⟩:=z71 dA2
 have hle:Nat.le (Prod.snd (Gn ())) (Prod.snd (Gm ())):=by
  have:(n1:Nat)≤m:=by omega
  rw [hns,hms];exact this
 have fu1:=Tm.fold (numTm n1)
 have fu2:=Tm.fold (numTm m)
 have ft:=Tm.fold t
 have fA1:=Tm.fold (nT 3 [t,numTm n1])
 have fA2:=Tm.fold (nT 3 [t,numTm m])
 have rr0:([]:List T).reverse=[]:=rfl
 rw [rr0] at w1 w2 hGt hGa
 have l4:=z9j (gl:=gl) 4
 have l5:=z9j (gl:=gl) 5
 have l0:=z9j (gl:=gl) 0
 rw [show limB35 4=true from rfl] at l4
 rw [show limB35 5=true from rfl] at l5
 rw [show limB35 0=false from rfl] at l0
 unfold tTermE at w1 w2
 clear dn1 dn2 dA1 dA2 cn1 cn2 hns hms
 generalize nT 3 [t,numTm n1]=A1 at *
 generalize nT 3 [t,numTm m]=A2 at *
 generalize hu1:(tickE [] (numTm n1))=T1 at *
 generalize hu2:(tickE [] (numTm m))=T2 at *
 generalize tickE [] t=T0 at *
 generalize tickE [] A1=R1 at *
 generalize tickE [] A2=R2 at *
 clear hu1 hu2
 generalize numTm n1=u1 at *
 generalize numTm m=u2 at *
 obtain ⟨x,er1⟩:=R1
 obtain ⟨y,er2⟩:=R2
 simp only at e1 e2 k1 k2 q1 q2 w1 w2 hGa
 have z1:zeroTm.dv = .agg [dint 0,dint 0,dint 0,.sl [],.sl []]:=rfl
 have fx:=Tm.fold x
 have fy:=Tm.fold y
 refine t_g0 ?_
 refine t_c1 trivial wst ?_
 refine t_g0 ?_
 refine t_c1 trivial wx1 ?_
 by_cases h1:er1=0
 rotate_left
 ·have h14:=er4 e1 h1
  subst h14
  rw [if_neg (by decide),z1] at w1
  rcases e2 with h2|h2
  ·subst h2
   rw [if_pos rfl] at w2
   refine t_c3 (j2 @ft (j2 @fu1 (j2 @fu2 (j2 @fA1 (j2 @fA2 @fy))))) wk1 wp1 w1 ?_
   refine t_c4 (j2 @ft (j2 @fu1 (j2 @fu2 (j2 @fA1 (j2 @fA2 @fy))))) wx2 wk2 wp2 w2 ?_
   refine t_g0 ?_
   refine t_c1 trivial l4 ?_
   refine t_r ?_
   simp [go_sem,hP,hgl,hn] <;> (try omega)
  ·subst h2
   rw [if_neg (by decide),z1] at w2
   refine t_c3 (j2 @ft (j2 @fu1 (j2 @fu2 (j2 @fA1 @fA2)))) wk1 wp1 w1 ?_
   refine t_c4 (j2 @ft (j2 @fu1 (j2 @fu2 (j2 @fA1 @fA2)))) wx2 wk2 wp2 w2 ?_
   refine t_g0 ?_
   refine t_c1 trivial l4 ?_
   refine t_r ?_
   simp [go_sem,hP,hgl,hn] <;> (try omega)
 subst h1
 rw [if_pos rfl] at w1
 by_cases h2:er2=0
 rotate_left
 ·have h24:=er4 e2 h2
  subst h24
  rw [if_neg (by decide),z1] at w2
  refine t_c3 (j2 @ft (j2 @fu1 (j2 @fu2 (j2 @fA1 (j2 @fA2 @fx))))) wk1 wp1 w1 ?_
  refine t_c4 (j2 @ft (j2 @fu1 (j2 @fu2 (j2 @fA1 (j2 @fA2 @fx))))) wx2 wk2 wp2 w2 ?_
  refine t_g0 ?_
  refine t_c2 trivial l0 l4 ?_
  refine t_r ?_
  simp [go_sem,hP,hgl,hn] <;> (try omega)
 subst h2
 rw [if_pos rfl] at w2
 obtain ⟨r1,r2,o1,o2,hx⟩:=q1 rfl
 obtain ⟨-,r3,-,-,hy⟩:=q2 rfl
 obtain ⟨Fx,Py,dx,dy,hmj⟩:=z1c0 (hGt r1) (hGn r2) (hGm r3) o1 o2 hn0 hle
 rw [← hx] at dx
 rw [← hy] at dy
 have hya:=hGa rfl
 have wm:=z1c7 (gl:=gl) y (zki _ (z1g hya)) (by omega)
 have hmd:=z1b5 hya (by simp)
 clear q1 q2 hGa hGt hGn hGm hx hy
 refine t_c3 (j2 @ft (j2 @fu1 (j2 @fu2 (j2 @fA1 (j2 @fA2 (j2 @fx @fy)))))) wk1 wp1 w1 ?_
 refine t_c4 (j2 @ft (j2 @fu1 (j2 @fu2 (j2 @fA1 (j2 @fA2 (j2 @fx @fy)))))) wx2 wk2 wp2 w2 ?_
 refine t_g0 ?_
 rcases hmd with ⟨hme,hmc,-⟩|hm4
 rotate_left
 ·generalize y.mTermE=me at *
  obtain ⟨mt,ee⟩:=me
  simp only at hm4 wm
  subst hm4
  have fm:=Tm.fold mt
  refine t_c1 @fy wm ?_
  refine t_g0 ?_
  refine t_c1 trivial l4 ?_
  refine t_r ?_
  simp [go_sem,hP,hgl,hn] <;> (try omega)
 rw [hme] at wm
 have wpl:(T.wt .nat).plain:=⟨trivial,trivial⟩
 have v1:=zkj (gl:=gl) x (T.wt .nat) Fx 20000 dx (by omega) wpl o2 (by decide) (by decide)
 have v2:=zkj (gl:=gl) (majT y) (T.wt .nat).maj Py 65536 dy (by omega) (z9c wpl) (z29 o2) (by decide) (by decide)
 have c1:=ze3 (l:=[]) (r:=T.wt .nat) dx () 20000
 have c2:=ze3 (l:=[]) (r:=(T.wt .nat).maj) dy () 65536
 have hmz:=z1bq wpl o2 hmj
 have wz:=z1c9 (gl:=gl) (valOf (T.wt .nat).maj (Py ())) (valOf (T.wt .nat) (Fx ())) (by show 3≤_;decide) (by show 3≤_;decide)
 rw [hmz] at wz
 clear hme hmz hmj dy dx
 generalize callOut x [] (r:=T.wt .nat) (Fx ()) () 20000=s1 at *
 generalize callOut (majT y) [] (r:=(T.wt .nat).maj) (Py ()) () 65536=s2 at *
 generalize majT y=mt at *
 have fm:=Tm.fold mt
 obtain ⟨a1,a2,a3⟩:=s1
 obtain ⟨b1,b2,b3⟩:=s2
 simp only at v1 v2 c1 c2
 have g1:a3=4∨a3=5∨(a3=0∧a1=valOf (T.wt .nat) (Fx ())):=c1
 have g2:b3=4∨b3=5∨(b3=0∧b1=valOf (T.wt .nat).maj (Py ())):=c2
 clear c1 c2
 generalize valOf (T.wt .nat) (Fx ())=va at *
 generalize valOf (T.wt .nat).maj (Py ())=vb at *
 have fa:=Val.fold a1
 have fb:=Val.fold b1
 refine t_c1 @fy wm ?_
 refine t_g0 ?_
 rcases g1 with h4|h5|⟨h0,hv⟩
 ·subst h4
  refine t_c1 @fx v1 ?_
  refine t_c1 @fm v2 ?_
  refine t_g0 ?_
  refine t_c1 trivial l4 ?_
  refine t_r ?_
  simp [go_sem,hP,hgl,hn] <;> (try omega)
 ·subst h5
  refine t_c1 @fx v1 ?_
  refine t_c1 @fm v2 ?_
  refine t_g0 ?_
  refine t_c1 trivial l5 ?_
  refine t_r ?_
  simp [go_sem,hP,hgl,hn] <;> (try omega)
 subst h0
 subst hv
 rcases g2 with h4|h5|⟨h0,hv⟩
 ·subst h4
  refine t_c1 @fx v1 ?_
  refine t_c1 @fm v2 ?_
  refine t_g0 ?_
  refine t_c2 trivial l0 l4 ?_
  refine t_r ?_
  simp [go_sem,hP,hgl,hn] <;> (try omega)
 ·subst h5
  refine t_c1 @fx v1 ?_
  refine t_c1 @fm v2 ?_
  refine t_g0 ?_
  refine t_c2 trivial l0 l5 ?_
  refine t_r ?_
  simp [go_sem,hP,hgl,hn] <;> (try omega)
 subst h0
 subst hv
 refine t_c1 @fx v1 ?_
 refine t_c1 @fm v2 ?_
 refine t_g0 ?_
 refine t_c1 (j2 @fa @fb) wz ?_
 refine t_r ?_
 simp [go_sem,hP,hgl,hn] <;> (try omega)
end
end Go.Proofs.YtoamlfmdkbmmpaaGreatDoor.Lift
