import Derived.Test.YtkfiobkjflmchaaGreatDoorQn1
set_option maxHeartbeats 8000000
set_option maxRecDepth 100000
set_option linter.unusedSimpArgs false
set_option linter.unusedVariables false
set_option linter.unnecessarySimpa false
namespace Go.Proofs.YtkfiobkjflmchaaGreatDoor.Lift
open Go
section
section
variable {X:Ctx}{G:Gh}{s:St}{a:Act}{w:World}
theorem mJ (w:World)(b:Nat)(c:Array Value)(e:TypeId)(h:w.heap[b]? = some (.cells c e (0,0))):w.setRow b c=w:=by
 have Ac:b<w.heap.size:=(Array.getElem?_eq_some_iff.1 h).1;have hv:w.heap[b] = .cells c e (0,0):=(Array.getElem?_eq_some_iff.1 h).2;unfold World.setRow;cases w with
 | mk heap tape drawn os output=>
  congr 1
  apply Array.ext;· simp
  ·intro k h1 h2;simp only[Array.getElem_modify];split;· rename_i hk;subst hk;simp at hv;simp[hv]
   ·rfl
abbrev VY (off:Nat)(l:List Value)(k:Nat)(c:Array Value):Array Value:=(l.zipIdx k).foldl (fun cs (p:Value × Nat)=>cs.setIfInBounds (off+p.2) p.1) c
theorem K3 {P:Program}(b off:Nat)(e:TypeId):∀(vs:List Value) (k:Nat) (c:Array Value) (w:World),w.heap[b]? = some (.cells c e (0,0))->off+k+vs.length<=c.size->(∀v∈vs,v.oneCell' = true) ->
  (storeCells ⟨b,off,none⟩ vs k).run P w = .ok () (w.setRow b (VY off vs k c))
 | [],k,c,w,h,_,_=>by simp[storeCells,VY,mJ w b c e h]
 | v::r,k,c,w,h,hle,h1=>by
  simp only[List.length_cons]at hle;have hi:off+k<c.size:=oO;have Ah:w.cell? ⟨b,off+k,none⟩=some c[off+k]:=by simp[World.cell?,h,hi]
  have hfro:w.frozen? ⟨b,off+k,none⟩=false:=by simp[World.frozen?,h]
  have Jq:(store ((⟨b,off,none⟩:Addr).add k) v).run P w = .ok () (w.setRow b (c.setIfInBounds (off+k) v)):=by
   rw[F7,run_store P w _ v _ (h1 v sS),Ah];simp[hfro,setCell_eq_setRow w b (off+k) c e (0,0) v h]
  have ih:=K3 (P:=P) b off e r (k+1) (c.setIfInBounds (off+k) v) (w.setRow b (c.setIfInBounds (off+k) v)) (setRow_heap w b c _ e _ h) (by simp;omega) (fun x hx=>h1 x (by simp[hx]));simp only[storeCells,Sem.run_bind,Jq,Result.andThen_ok,ih,setRow_setRow,VY,List.zipIdx_cons,List.foldl_cons]
theorem RK (off:Nat)(vs c:Array Value):VY off vs.toList 0 c=K1 c off vs:=by
 unfold VY K1;rw[<- Array.foldl_toList,Array.toList_zipIdx]
theorem z12 {xs:List SV}{vs:Array Value}(h:HI G w xs vs)(hc:ES xs=true):∀v∈vs.toList,v.oneCell' = true:=by
 intro v hv;obtain⟨i,hi,rfl⟩:=List.mem_iff_getElem.1 hv;have Cz:i<xs.length:=by rw[<- h.1];simpa using hi
 have hx:xs[i]? = some xs[i]:=uB Cz;have hvv:vs[i]? = some (vs.toList[i]):=sS;exact LE.one (h.2 i _ _ hx hvv) ((PV xs).1 hc _ (List.getElem_mem Cz))
theorem Rel.storeRow (R:Rel X G s a w){l:Loc}{cs:List SV}(hl:get s l=some (.row cs))(Ac:l.isTok=false){b:Nat}(hb:BC G l (.row cs)=some b){off:Nat}{xs:List SV}{vs:Array Value}
  (hx:HI G w xs vs) (hc:ES xs=true) (hle:off+xs.length<=cs.length) :
  ∃w',(storeCells ⟨b,off,none⟩ vs.toList 0).run X.P w = .ok () w'/\Rel X G (CM s l (.row (put cs off xs))) a w':=by
 have hB:LM G w b cs:=by
  have:=R.holds _ _ hl;cases l with
  | loc k=>simp only[BC,uC]at hb;subst hb;exact this
  | heap k=>simp only[BC,uC]at hb;subst hb;exact this
  | slot n=>cases hb
  | tok t=>cases hb
 obtain⟨c,e,h1,h2,h3⟩:=hB;have Bk:off+vs.size<=c.size:=by rw[hx.1];omega
 have Aq:=K3 (P:=X.P) b off e vs.toList 0 c w h1 (by simpa using Bk) (z12 hx hc);rw[RK]at Aq;refine⟨_,Aq,?_⟩;have Aw:∀o,¬G.D b o:=fun o=>R.data l _ b o hl hb Ac;have T:Trans X G a w G a (w.setRow b (K1 c off vs)) (fun b'=>b' = b):=by
  refine⟨rfl,fun h=>h.but h1 fun b' hn=>setRow_other _ _ _ _ hn,rfl,rfl,rfl,sS,fun b' Ai hn=>setRow_other _ _ _ _ hn,fun b' Ai=>?_,fun b' o hd=>⟨hd,?_⟩,fun _ _ h k=>absurd h k,R.nil⟩;· subst Ai;exact (R.own l _ b' hl hb).imp id And.left
  ·exact cell_setRow_other _ _ _ _ (fun e=>by subst e;exact Aw o hd)
 refine R.step T (fun l' u=>l' = l/\u = .row (put cs off xs)) (fun l' u h=>?_) (fun l' u h=>?_) (fun l' u l'' u' b h h' _ _=>h.1.trans h'.1.symm)
 ·rw[BM]at h;by_cases Ct:l=l';· rw[if_pos Ct]at h;cases h;exact .inl ⟨Ct.symm,rfl⟩
  ·rw[if_neg Ct]at h;refine .inr ⟨h,fun _ _=>rfl,fun b' Ai he=>?_,fun _ _=>rfl,fun _ _=>rfl⟩;subst he;exact Ct (R.sep _ _ _ _ b' hl h hb Ai)
 ·obtain⟨rfl,rfl⟩:=h;have Dj:=O8 c off vs Bk;have Jn:LM G (w.setRow b (K1 c off vs)) b (put cs off xs):=by
   refine⟨_,e,setRow_heap _ _ _ _ _ _ h1,?_,fun i x hi=>?_⟩;· rw[Dj.1,UR _ _ _ hle];exact h2
   rw[VV _ _ _ _ hle]at hi;split at hi
   ·rename_i Ca;have hj:i - off<vs.size:=by rw[hx.1];exact (uA hi).1
    refine⟨(PV xs).1 hc x (uE hi),vs[i - off],?_,(hx.2 _ _ _ hi (uG hj)).mono T.grow (fun _ _=>rfl) (fun _ _=>rfl)⟩;rw[Dj.2,if_pos ⟨Ca.1,oO⟩];exact uG hj
   ·rename_i Ca;obtain⟨k1,v,k2,k3⟩:=h3 i x hi;refine⟨k1,v,?_,k3.mono T.grow (fun _ _=>rfl) (fun _ _=>rfl)⟩;rw[Dj.2,if_neg (by rw[hx.1];exact Ca)];exact k2
  refine⟨?_,fun b' Ai=>?_⟩
  ·cases l' with
   | loc k=>simp only[BC,uC]at hb;subst hb;exact Jn
   | heap k=>simp only[BC,uC]at hb;subst hb;exact Jn
   | slot n=>cases hb
   | tok t=>cases hb
  ·have:b' = b:=by
    cases l' <;> simp_all[BC]
   subst this;exact⟨.inr rfl,R.own l' _ b' hl hb,fun _ o=>Aw o⟩
theorem UE {P:Program}{t:TypeId}{agg:Bool}{n:Nat}(hl:EE P t=some (agg,n)){v:Value}(hv:v.cells.size=n){b off:Nat}{w':World}(h:(storeCells ⟨b,off,none⟩ v.cells.toList 0).run P w = .ok () w') :
  (Instr.storeAt t (.pointer (some ⟨b,off,none⟩)) v).run P w = .ok () w':=by
 obtain⟨-,h2⟩:=aC (w:=w) hl;simp[Instr.storeAt,Instr.sureAddr,storeVar,h2,hv,h]
theorem RL {o:Oper}{t:TypeId}{p x:Operand}(ho:o.op = .store t p x)(hd:o.dst=none){k off:Nat}(hp:CS X (get s) p=some (.loc k off)){cs:List SV}(hg:get s (.loc k)=some (.row cs))
  {agg:Bool} {n:Nat} (hl:EE X.P t=some (agg,n)) {y:SV} (hy:CS X (get s) x=some y) (hc:(BV y).length=n/\off+n<=cs.length) (Ah:ES (BV y)=true) :
  ED X s o (CM s (.loc k) (.row (put cs off (BV y)))):=by
 intro G a w R next Q hK
 have Ak:HI G w (BV y) (a.eval x).cells:=IA R.nil (A8 R hy);obtain⟨w',h1,h2⟩:=R.storeRow hg rfl (b:=G.ν k) rfl Ak Ah (by rw[hc.1];exact hc.2);have hpv:a.eval p = .pointer (some ⟨G.ν k,off,none⟩):=A8 R hp;refine M5 (by first|exact E3 h|(intro c e;rw[ho]at e;cases e)) ?_;have h3:=UE (w:=w) hl (by rw[Ak.1,hc.1]) h1;rw[<- hpv]at h3;simp only[execOp,ho,Sem.run_bind,h3,Result.andThen_ok,Sem.run_pure,VX,hd];exact hK G _ w' h2
def asV:SV->Option SV
 | .v x=>some (.v x)
 | .own _ els=>some (.v (.sl els))
 | _=>none
def XG:List SV->Option (List SV)
 | []=>some []
 | x::r=>match asV x,XG r with
  | some y,some ys=>some (y::ys)
  | _,_=>none
theorem mK:∀{xs ys:List SV},XG xs=some ys->xs.length=ys.length/\∀(i:Nat) (y:SV),ys[i]? = some y->∃x,xs[i]? = some x/\asV x=some y
 | [],ys,h=>by cases h;simp
 | x::r,ys,h=>by
  simp only[XG]at h;split at h
  ·rename_i y zs hy Mg;cases h;obtain⟨h1,h2⟩:=mK Mg;refine⟨by simp[h1],fun i c hc=>?_⟩;cases i with
   | zero=>simp at hc;subst hc;exact⟨x,rfl,hy⟩
   | succ i=>obtain⟨z,hz⟩:=h2 i c (by simpa using hc);exact⟨z,by simpa using hz.1,hz.2⟩
  ·cases h
theorem HI.asV {xs ys:List SV}{c:Array Value}(h:HI G w xs c)(hy:XG xs=some ys):HI G w ys c:=by
 obtain⟨h1,h2⟩:=mK hy;refine⟨h.1.trans h1,fun i y v hi hv=>?_⟩;obtain⟨x,hx,Er⟩:=h2 i y hi;have hr:=h.2 i x v hx hv;cases x with
 | v x=>cases Er;exact hr
 | own t els=>cases Er;exact hr.2
 | loc=>cases Er
 | dp=>cases Er
 | ag=>cases Er
theorem R2 {o:Oper}{t:TypeId}{p x:Operand}(ho:o.op = .store t p x)(hd:o.dst=none){b off:Nat}(hp:CS X (get s) p=some (.v (.prim (.pointer (some ⟨b,off,none⟩))))){cs:List SV}(hg:get s (.heap b)=some (.row cs))
  {agg:Bool} {n:Nat} (hl:EE X.P t=some (agg,n)) {y:SV} (hy:CS X (get s) x=some y) {ys:List SV} (Ic:XG (BV y)=some ys) (hc:ys.length=n/\off+n<=cs.length) (Ah:ES ys=true) :
  ED X s o (CM s (.heap b) (.row (put cs off ys))):=by
 intro G a w R next Q hK
 have Xw:HI G w (BV y) (a.eval x).cells:=IA R.nil (A8 R hy);have Ak:=Xw.asV Ic;obtain⟨w',h1,h2⟩:=R.storeRow hg rfl (b:=b) rfl Ak Ah (by rw[hc.1];exact hc.2);have hpv:a.eval p = .pointer (some ⟨b,off,none⟩):=(BJ (A8 R hp)).1;refine M5 (by first|exact E3 h|(intro c e;rw[ho]at e;cases e)) ?_;have h3:=UE (w:=w) hl (by rw[Ak.1,hc.1]) h1;rw[<- hpv]at h3;simp only[execOp,ho,Sem.run_bind,h3,Result.andThen_ok,Sem.run_pure,VX,hd];exact hK G _ w' h2
def FI (P:Program)(t:TypeId):Option (Nat × Nat):=
 match P.underlying t with
 | some (.slice e)=>
  match P.info? e with
  | some i=>match i.zero with
   | some z=>if z.cells.size=i.size then some (i.size,i.bytes) else none
   | none=>none
  | none=>none
 | _=>none
theorem P3 {P:Program}{t E B:Nat}(h:FI P t=some (E,B)):∃e i z,P.underlying t=some (.slice e)/\P.info? e=some i/\i.zero=some z/\z.cells.size=E/\i.size=E/\i.bytes=B:=by
 unfold FI at h;split at h
 ·rename_i e hu;split at h
  ·rename_i i hi;split at h
   ·rename_i z hz;split at h
    ·rename_i hs;simp only[uC,uD]at h;exact⟨e,i,z,hu,hi,hz,oO,h.1,h.2⟩
    ·cases h
   ·cases h
  ·cases h
 ·cases h
def HA (X:Ctx)(g:Rd)(E:Nat):Nat->List (Nat × Operand)->Option (List (List DV))
 | _,[]=>some []
 | n,(i,x)::r=>
  if i=n then
   match CS X g x with
   | some y=>match JZ (BV y) with
    | some ds=>if ds.length=E then if JO ds then
      match HA X g E (n+1) r with
      | some rest=>some (ds::rest)
      | none=>none
     else none else none
    | none=>none
   | none=>none
  else none
theorem PW (R:Rel X G s a w)(E:Nat):∀(parts:List (Nat × Operand)) (n:Nat) (els:List (List DV)) (c:Array Value),HA X (get s) E n parts=some els->(n+els.length) * E<=c.size ->
  (∀e∈els,e.length=E)/\(∀e∈els,∀d∈e,DV.isCell d=true)/\parts.length=els.length /\
  ∃c',Instr.fill (fun i=>some (i * E,E)) c (parts.map fun q=>(q.1,a.eval q.2))=some c'/\c'.size=c.size/\(∀k,k<n * E->c'[k]? = c[k]?) /\
   ∀(i j:Nat) (e:List DV) (d:DV),els[i]? = some e->e[j]? = some d->∃v,c'[(n+i) * E+j]? = some v/\RV G.D w d v
 | [],n,els,c,h,hle=>by cases h;exact⟨sS,sS,rfl,c,rfl,rfl,fun _ _=>rfl,sS⟩
 | (i,x)::r,n,els,c,h,hle=>by
  simp only[HA]at h;split at h
  ·rename_i Ca;subst Ca;split at h
   ·rename_i y hy;split at h
    ·rename_i ds Dv;split at h
     ·rename_i hlen;split at h
      ·rename_i Mz;split at h
       ·rename_i rest Aa;cases h;have Ak:HI G w (BV y) (a.eval x).cells:=IA R.nil (A8 R hy);obtain⟨t1,t2⟩:=P0 Dv;have hvs:(a.eval x).cells.size=E:=by rw[Ak.1,t1,hlen]
        have hm:(i+(rest.length+1)) * E=i * E+E+rest.length * E:=by rw[Nat.add_mul,Nat.add_mul,Nat.one_mul];omega
        simp only[List.length_cons]at hle;rw[hm]at hle;have Dj:=O8 c (i * E) (a.eval x).cells (by rw[hvs];omega);obtain⟨q1,q2,q3,c',f1,f2,f3,f4⟩:=PW R E r (i+1) rest (K1 c (i * E) (a.eval x).cells) Aa (by rw[Dj.1,Nat.add_mul,Nat.add_mul,Nat.one_mul];omega);refine⟨fun e he=>?_,fun e he=>?_,by simp[q3],c',?_,by rw[f2,Dj.1],fun k hk=>?_,fun j l e d he hd=>?_⟩
        ·rcases List.mem_cons.1 he with rfl|he;· exact hlen
         ·exact q1 e he
        ·rcases List.mem_cons.1 he with rfl|he;· exact (P1 _).1 Mz
         ·exact q2 e he
        ·simp only[List.map_cons,Instr.fill];rw[if_neg];· exact f1
         ·simp only[Bool.or_eq_true,decide_eq_true_eq,not_or];omega
        ·rw[f3 k (by rw[Nat.add_mul];omega),Dj.2,if_neg oO]
        ·cases j with
         | zero=>
          simp at he;subst he;have hl:l<E:=by rw[<- hlen];exact (uA hd).1
          obtain⟨z,hz,hzd⟩:=t2 l d hd;have Zr:l<(a.eval x).cells.size:=oO;refine⟨(a.eval x).cells[l],?_,JN hzd (Ak.2 l z _ hz (uG Zr))⟩;rw[Nat.add_zero,f3 _ (by rw[Nat.add_mul,Nat.one_mul];omega),Dj.2,if_pos oO,Nat.add_sub_cancel_left,uG Zr]
         | succ j=>
          obtain⟨v,hv,hr⟩:=f4 j l e d (by simpa using he) hd;exact⟨v,by rw[show i+(j+1)=i+1+j from oO];exact hv,hr⟩
       ·cases h
      ·cases h
     ·cases h
    ·cases h
   ·cases h
  ·cases h
def FJ (D:Nat->Nat->Prop)(b lo hi:Nat):Nat->Nat->Prop:=fun b' o=>D b' o\/(b' = b/\lo<=o/\o<hi)
theorem bC (R:Rel X G s a w){t E B len:Nat}(he:FI X.P t=some (E,B)){parts:Array (Nat × Operand)}{els:List (List DV)}(h:HA X (get s) E 0 parts.toList=some els)(hlen:els.length=len)(hb:len * E<=16777216)(Et:len<=I6) :
  ∃c e,(Instr.buildSlice t len (parts.map fun (i,x)=>(i,a.eval x))).run X.P w = .ok (.slice (some ⟨w.heap.size,0,none⟩) len len) (w.alloc (.cells c e))/\c.size=len * E /\
   RV (FJ G.D w.heap.size 0 (len * E)) (w.alloc (.cells c e)) (.sl els) (.slice (some ⟨w.heap.size,0,none⟩) els.length len):=by
 obtain⟨e,i,z,hu,hi,hz,Mg,Pb,Wi⟩:=P3 he;subst hlen;have Np:((Array.range (els.length * E)).map fun k=>(if els.length * E=0 then #[] else z.cells)[k % (if els.length * E=0 then #[] else z.cells).size]!).size=els.length * E:=sS;obtain⟨q1,q2,q3,c',f1,f2,f3,f4⟩:=PW R E parts.toList 0 els ((Array.range (els.length * E)).map fun k=>(if els.length * E=0 then #[] else z.cells)[k % (if els.length * E=0 then #[] else z.cells).size]!) h (by rw[Np,Nat.zero_add];exact Nat.le_refl _);rw[Np]at f2;refine⟨c',e,?_,f2,?_⟩
 ·have Au:¬(els.length * E > 2 ^ 24):=oO;have hf:Instr.fill (fun k=>some (k * E,E)) ((Array.range (els.length * E)).map fun k=>(if els.length * E=0 then #[] else z.cells)[k % (if els.length * E=0 then #[] else z.cells).size]!) ((parts.map fun (q:Nat × Operand)=>(q.1,a.eval q.2)).toList)=some c':=by
   rw[Array.toList_map];exact f1
  unfold Instr.buildSlice;simp only[run_underlying hu,sizeOf,typeInfo,hi,Pb,Sem.run_bind,Sem.run_pure,run_program,Result.andThen_ok,Au,if_false];by_cases h0:els.length * E=0
  ·simp only[if_pos h0]at hf ⊢;simp only[Sem.run_bind,Sem.run_pure,Result.andThen_ok,hf,newRow,run_newObj];rfl
  ·simp only[if_neg h0]at hf ⊢;simp only[zeroValue,typeInfo,run_program,hi,hz,Sem.run_bind,Sem.run_pure,Result.andThen_ok,hf,newRow,run_newObj];rfl
 ·refine .sl els w.heap.size 0 els.length E (fun i j=>(c'[i * E+j]?).getD undef) Et (Nat.le_refl _) q1 q2 (fun i j Cz hj=>?_) (fun i j Cz hj=>.inr ⟨rfl,Nat.zero_le _,?_⟩) (fun i j e' d Qk hd=>?_)
  ·have Ac:i * E+j<c'.size:=by
    rw[f2]
    calc i * E+j<i * E+E:=oO
     _=(i+1) * E:=by rw[Nat.add_mul,Nat.one_mul]
     _<=els.length * E:=Nat.mul_le_mul_right _ Cz
   simp[World.cell?_alloc_new,Ac]
  ·calc 0+(i * E+j)<i * E+E:=oO
     _=(i+1) * E:=by rw[Nat.add_mul,Nat.one_mul]
     _<=els.length * E:=Nat.mul_le_mul_right _ Cz
  ·obtain⟨v,hv,hr⟩:=f4 i j e' d Qk hd;rw[Nat.zero_add]at hv;simp only[hv,Option.getD_some];exact hr.mono (fun b o hd=>⟨.inl hd,World.cell?_alloc_lt _ _ _ (R.wf.lt hd)⟩)
theorem bD (R:Rel X G s a w){c:Array Value}{e:TypeId}{hi:Nat}(hh:hi<=c.size){G':Gh}(hD:G'.D=FJ G.D w.heap.size 0 hi)(hn:G'.τ 0=(none,0)):Trans X G a w G' a (w.alloc (.cells c e)) (fun _=>False):=by
 refine⟨rfl,fun h=>h.heap fun b hb=>CX w _ b hb,rfl,rfl,rfl,sS,fun b hb _=>CX w _ b hb,fun _ h=>h.elim,fun b o hd=>⟨by rw[hD];exact .inl hd,World.cell?_alloc_lt _ _ _ (R.wf.lt hd)⟩,fun b o h k=>?_,hn⟩;rw[hD]at h;rcases h with h|⟨rfl,h1,h2⟩;· exact absurd h k
 ·refine⟨.inl (Nat.le_refl _),c[o]'oO,?_⟩;rw[World.cell?_alloc_new];exact uG oO
theorem R4 {o:Oper}{t len E B:Nat}{parts:Array (Nat × Operand)}(ho:o.op = .buildSlice t len parts){d:Nat}(hd:o.dst=some d)(hn:d<X.n)(he:FI X.P t=some (E,B)){els:List (List DV)}
  (h:HA X (get s) E 0 parts.toList=some els) (hc:els.length=len/\len * E<=16777216/\len<=I6):ED X s o (CM s (.slot d) (.one (.v (.sl els)))):=by
 intro G a w R next Q hK
 obtain⟨c,e,h1,h2,h3⟩:=bC R he h hc.1 hc.2.1 hc.2.2;refine M5 (by first|exact E3 h|(intro c e;rw[ho]at e;cases e)) ?_;simp only[execOp,ho,Sem.run_bind,h1,Result.andThen_ok,Sem.run_pure,D1,hd];have T:Trans X G a w { G with D:=FJ G.D w.heap.size 0 (len * E) } a (w.alloc (.cells c e)) (fun _=>False):=bD R (hi:=len * E) oO rfl R.nil;refine hK { G with D:=FJ G.D w.heap.size 0 (len * E) } _ _ (R.setSlot T rfl rfl (fun _ h=>h) hn ?_);show RV (FJ G.D w.heap.size 0 (len * E)) _ _ _;rw[<- hc.1]at h3 ⊢;exact h3
end
end
section
section
variable {X:Ctx}{G:Gh}{s:St}{a:Act}{w:World}
def VZ (D:Nat->Nat->Prop)(w:World)(E:Nat)(els:List (List DV))(f:Nat->Value):Prop:=
 ∀(i j:Nat) (e:List DV) (d:DV),els[i]? = some e->e[j]? = some d->RV D w d (f (i * E+j))
theorem VZ.mono {D D':Nat->Nat->Prop}{w w':World}{E:Nat}{els:List (List DV)}{f:Nat->Value}(g:OW D w D' w')(h:VZ D w E els f):VZ D' w' E els f:=
 fun i j e d he hd=>(h i j e d he hd).mono g
theorem NB {n E i j:Nat}(hi:i<n)(hj:j<E):i * E+j<n * E:=by
 calc i * E+j<i * E+E:=oO
  _=(i+1) * E:=by rw[Nat.add_mul,Nat.one_mul]
  _<=n * E:=Nat.mul_le_mul_right _ hi
theorem TD {D:Nat->Nat->Prop}{w:World}{els:List (List DV)}{v:Value}{E:Nat}(h:RV D w (.sl els) v)(hE:∀e∈els,e.length=E) :
  (∀e∈els,∀c∈e,DV.isCell c=true)/\∃f,VZ D w E els f/\(∀k,k<els.length * E->(f k).oneCell' = true) /\
   (els=[]/\(∃b cap,v = .slice b 0 cap)\/∃b o cap,v = .slice (some ⟨b,o,none⟩) els.length cap/\∀k,k<els.length * E->w.cell? ⟨b,o+k,none⟩=some (f k)/\D b (o+k)):=by
 cases h with
 | sl0 b cap=>exact⟨sS,fun _=>undef,by intro _ _ e d he;simp at he,sS,.inl ⟨rfl,b,cap,rfl⟩⟩
 | sl _ b o cap E' val hlen Bi Kf Ah hc hD hh=>
  refine⟨Ah,fun k=>val (k / E) (k % E),fun i j e d he hd=>?_,fun k hk=>?_,?_⟩
  ·have hj:j<E:=by rw[<- hE e (uE he)];exact (uA hd).1
   have h1:(i * E+j) / E=i:=by rw[Nat.mul_comm,Nat.mul_add_div oO];simp[Nat.div_eq_of_lt hj]
   have h2:(i * E+j) % E=j:=by rw[Nat.mul_comm,Nat.mul_add_mod];exact Nat.mod_eq_of_lt hj
   simp only[h1,h2];exact hh i j e d he hd
  ·have Yo:0<E:=by rcases Nat.eq_zero_or_pos E with h0|h0 <;> simp_all
   have hi:k / E<els.length:=(Nat.div_lt_iff_lt_mul Yo).2 hk;have he:els[k / E]? = some els[k / E]:=uB hi;have Oo:=hE _ (List.getElem_mem hi);have hj:k % E<els[k / E].length:=by rw[Oo];exact Nat.mod_lt _ Yo
   have hd:els[k / E][k % E]? = some els[k / E][k % E]:=uB hj;exact RV.one (hh _ _ _ _ he hd) (Ah _ (List.getElem_mem hi) _ (List.getElem_mem hj))
  ·cases Ie:els with
   | nil=>exact .inl ⟨rfl,_,cap,by simp;rfl⟩
   | cons e0 r=>
    rw[<- Ie];have Qs:E' = E:=by rw[<- Kf e0 (by simp[Ie]),hE e0 (by simp[Ie])]
    subst Qs;refine .inr ⟨b,o,cap,rfl,fun k hk=>?_⟩;have Yo:0<E':=by rcases Nat.eq_zero_or_pos E' with h0|h0 <;> simp_all
    have hi:k / E'<els.length:=(Nat.div_lt_iff_lt_mul Yo).2 hk;have hj:k % E'<E':=Nat.mod_lt _ Yo;have e1:k / E' * E'+k % E' = k:=by rw[Nat.mul_comm];exact Nat.div_add_mod k E'
    have:=hc _ _ hi hj;have hd:=hD _ _ hi hj;rw[e1]at this hd;exact⟨this,hd⟩
def YJ (f:Nat->Value)(n:Nat):Array Value:=((List.range n).map f).toArray
theorem LP (f:Nat->Value)(n:Nat):(YJ f n).size=n:=by simp[YJ]
theorem O9 (f:Nat->Value)(n k:Nat)(h:k<n):(YJ f n)[k]? = some (f k):=by simp[YJ,h]
theorem R5 {P:Program}{w:World}(b o n:Nat)(f:Nat->Value)(h:∀k,k<n->w.cell? ⟨b,o+k,none⟩=some (f k)):(loadCells ⟨b,o,none⟩ n).run P w = .ok (YJ f n) w:=by
 have:=run_loadCells_list (P:=P) w ⟨b,o,none⟩ ((List.range n).map f) (fun j v hj=>by
  have Jd:j<n:=by have:=(uA hj).1;simpa using this
  rw[F7];simp[Jd]at hj;rw[<- hj];exact h j Jd)
 simpa [YJ] using this
theorem E5 {P:Program}{D:Nat->Nat->Prop}{w:World}{els:List (List DV)}{v:Value}{E:Nat}{f:Nat->Value}
  (h:els=[]/\(∃b cap,v = .slice b 0 cap)\/∃b o cap,v = .slice (some ⟨b,o,none⟩) els.length cap/\∀k,k<els.length * E->w.cell? ⟨b,o+k,none⟩=some (f k)/\D b (o+k)) :
  (Builtin.firstCells E els.length v).run P w = .ok (YJ f (els.length * E)) w:=by
 rcases h with⟨rfl,b,cap,rfl⟩|⟨b,o,cap,rfl,hc⟩
 ·cases b with
  | none=>simp[Builtin.firstCells,YJ]
  | some p=>simp[Builtin.firstCells,YJ,loadCells,loadCellsFrom]
 ·simp only[Builtin.firstCells];exact R5 b o _ f (fun k hk=>(hc k hk).1)
theorem VZ.join {D:Nat->Nat->Prop}{w:World}{E:Nat}{els ys:List (List DV)}{f g h:Nat->Value}(hf:VZ D w E els f)(hg:VZ D w E ys g)(hE:∀e∈els,e.length=E)(Kf:∀e∈ys,e.length=E)
  (h1:∀k,k<els.length * E->h k=f k) (h2:∀k,k<ys.length * E->h (els.length * E+k)=g k):VZ D w E (els++ys) h:=by
 intro i j e d he hd;by_cases hi:i<els.length
 ·rw[List.getElem?_append_left hi]at he;have hj:j<E:=by rw[<- hE e (uE he)];exact (uA hd).1
  rw[h1 _ (NB hi hj)];exact hf i j e d he hd
 ·rw[List.getElem?_append_right oO]at he;have hj:j<E:=by rw[<- Kf e (uE he)];exact (uA hd).1
  have Cz:i - els.length<ys.length:=(uA he).1;have e1:i * E+j=els.length * E+((i - els.length) * E+j):=by
   have:i=els.length+(i - els.length):=oO
   conv=>lhs;rw[this,Nat.add_mul]
   omega
  rw[e1,h2 _ (NB Cz hj)];exact hg _ j e d he hd
theorem PX {D:Nat->Nat->Prop}{w:World}{E b o cap:Nat}{els:List (List DV)}{f:Nat->Value}(hb:els.length<=I6)(Bi:els.length<=cap)(hE:∀e∈els,e.length=E)(Ah:∀e∈els,∀c∈e,DV.isCell c=true)
  (hc:∀k,k<els.length * E->w.cell? ⟨b,o+k,none⟩=some (f k)/\D b (o+k)) (h:VZ D w E els f):RV D w (.sl els) (.slice (some ⟨b,o,none⟩) els.length cap):=
 .sl els b o cap E (fun i j=>f (i * E+j)) hb Bi hE Ah (fun i j hi hj=>(hc _ (NB hi hj)).1) (fun i j hi hj=>(hc _ (NB hi hj)).2) h
theorem Rel.ownNew (R:Rel X G s a w){t d E n:Nat}(hd:d<X.n)(hf:D7 d s=true){G':Gh}{w':World}{B:Nat->Prop}(T:Trans X G a w G' a w' B)(hν:G'.ν=G.ν)(hτ:∀k,k≠d->G'.τ k=G.τ k)
  (hB:∀b,B b->∃E len,get s (.tok t)=some (.tk E len)/\HQ G t len=some b) {els:List (List DV)} {v:Value} (hv:LE G' w' (.own d els) v) (Io:N9 G' w' d E n)
  (Ew:∀b,HQ G' d n=some b->w.heap.size<=b\/B b):Rel X G' (CM (CM (QZ s (.tok t)) (.slot d) (.one (.own d els))) (.tok d) (.tk E n)) (a.put (some d) v) w':=by
 have hp:=FV a (some d) v;have T':Trans X G a w G' (a.put (some d) v) w' B:=⟨hp.1,fun h=>(T.defers h).put hp.2,T.os,T.tape,T.output,T.size,T.keep,T.own,T.grow,T.new,T.nil⟩;refine R.step T' (fun l u=>(l = .slot d/\u = .one (.own d els))\/(l = .tok d/\u = .tk E n)) (fun l u h=>?_) (fun l u h=>?_) (fun l u l' u' b h h' hb Ai=>?_)
 ·rw[BM,BM,O5]at h;by_cases h1:Loc.tok d=l;· rw[if_pos h1]at h;cases h;exact .inl (.inr ⟨h1.symm,rfl⟩)
  ·rw[if_neg h1]at h;by_cases h2:Loc.slot d=l;· rw[if_pos h2]at h;cases h;exact .inl (.inl ⟨h2.symm,rfl⟩)
   ·rw[if_neg h2]at h;by_cases h3:Loc.tok t=l;· rw[if_pos h3]at h;cases h
    ·rw[if_neg h3]at h;refine .inr ⟨h,fun n hn=>FH _ _ _ _ (fun e=>h2 (by rw[hn,e])),fun b hb Qc=>?_,fun k _=>by rw[hν],fun k hk=>hτ k (s8 hf h k hk)⟩;obtain⟨E',len,hg,Ai⟩:=hB b Qc;exact h3 (R.sep _ _ _ _ b hg h Ai hb)
 ·rcases h with⟨rfl,rfl⟩|⟨rfl,rfl⟩
  ·refine⟨?_,fun b hb=>by cases hb⟩;show LE G' w' (.own d els) _;rw[E4 _ _ _ (by rw[R.size];exact hd)];exact hv
  ·refine⟨Io,fun b hb=>?_⟩;have h1:=Ew b hb;refine⟨h1,.inl ?_,fun h=>by cases h⟩;rcases h1 with h1|h1;· exact Nat.le_trans R.ext.size h1
   ·obtain⟨E',len,hg,Ai⟩:=hB b h1;rcases R.own _ _ b hg Ai with h2|⟨_,h2⟩;· exact h2
    ·cases h2
 ·rcases h with⟨rfl,rfl⟩|⟨rfl,rfl⟩;· cases hb
  ·rcases h' with⟨rfl,rfl⟩|⟨rfl,rfl⟩;· cases Ai
   ·rfl
theorem fV (n:Nat):∀(r c:Nat),c<n->Builtin.growBy n r c<=2 * n+200
 | 0,c,h=>by simp[Builtin.growBy];omega
 | r+1,c,h=>by
  simp only[Builtin.growBy];rw[if_neg oO];by_cases h2:c+(c+768) / 4<n;· exact fV n r _ h2
  ·cases r with
   | zero=>simp[Builtin.growBy];omega
   | succ r=>simp only[Builtin.growBy];rw[if_pos oO];omega
theorem R6 {need cap:Nat}(h:cap<need):Builtin.nextslicecap need cap<=2 * need+600:=by
 unfold Builtin.nextslicecap;split;· omega
 ·split;· omega
  ·have:=fV need 4 cap h;omega
def IB (G:Gh)(D:Nat->Nat->Prop)(d:Nat)(h:Option Addr × Nat):Gh:={ D:=D,ν:=G.ν,τ:=fun k=>if k=d then h else G.τ k }
theorem J9 {P:Program}{w:World}{t ty t2 E B:Nat}(he:FI P t=some (E,B))(h2:(E0 P t2).isSome=true){base:Option Addr}{len cap:Nat}{x:Value}{n:Nat}{new:Array Value}
  (hx:(Builtin.lenOf x).run P w = .ok n w) (hn:(Builtin.firstCells E n x).run P w = .ok new w) (hle:len+n<=cap) {w':World} (Jq:match base with|some a=>(storeCells (a.add (len * E)) new.toList 0).run P w = .ok () w' | none=>w' = w) :
  (Builtin.append_ #[t,t2] ty #[.slice base len cap,x]).run P w = .ok (.slice base (len+n) cap) w':=by
 obtain⟨e,i,z,hu,hi,hz,Mg,Pb,Wi⟩:=P3 he;obtain⟨E2,Db⟩:=Option.isSome_iff_exists.1 h2;obtain⟨e2,i2,Tk,-,-⟩:=IP Db;unfold Builtin.append_;cases base with
 | none=>
  subst Jq;simp[run_underlying hu,run_underlying Tk,sizeOf,typeInfo,hi,Pb,hx,hn,hle]
 | some p=>
  simp only at Jq;simp[run_underlying hu,run_underlying Tk,sizeOf,typeInfo,hi,Pb,hx,hn,hle,Jq]
theorem RM {P:Program}{w:World}{t ty t2 E B:Nat}(he:FI P t=some (E,B))(hB:0<B/\B<=1024)(h2:(E0 P t2).isSome=true){base:Option Addr}{len cap:Nat}{x:Value}{n:Nat}{old new:Array Value}
  (hx:∀w',w'.heap=w.heap->(Builtin.lenOf x).run P w' = .ok n w') (hn:∀w',w'.heap=w.heap->(Builtin.firstCells E n x).run P w' = .ok new w') (ho:∀w',w'.heap=w.heap->(Builtin.firstCells E len (.slice base len cap)).run P w' = .ok old w')
  (hle:¬len+n<=cap) (Ao:len+n<=I6) (h1:old.size=len * E) (h3:new.size=n * E) :
  ∃c e nc,(Builtin.append_ #[t,t2] ty #[.slice base len cap,x]).run P w = .ok (.slice (some ⟨w.heap.size,0,none⟩) (len+n) nc) (w.drew.alloc (.cells c e))/\len+n<=nc/\c.size=nc * E/\(∀k,k<len * E->c[k]? = old[k]?)/\(∀k,k<n * E->c[len * E+k]? = new[k]?):=by
 obtain⟨e,i,z,hu,hi,hz,Mg,Pb,Wi⟩:=P3 he;obtain⟨E2,Db⟩:=Option.isSome_iff_exists.1 h2;obtain⟨e2,i2,Tk,-,-⟩:=IP Db;unfold I6 at Ao;have Bi:¬(Builtin.nextslicecap (len+n) cap * B > 2 ^ 48):=by
  have:=R6 (need:=len+n) (cap:=cap) oO;have:Builtin.nextslicecap (len+n) cap * B<=(2 * (len+n)+600) * 1024:=Nat.mul_le_mul this hB.2;omega
 have hmax:¬((((len+n:Nat):Int) > IntKind.i64.max)/\(False\/i.bytes=0)):=by
  rintro⟨_,h|h⟩;· exact h
  ·omega
 let q:Question:=.appendCap (len+n) cap e
 let nc:=q.cut (w.tape w.drawn q)
 have Ox:len+n<=nc:=by show len+n<=_;simp[nc,q,Question.cut]
 refine⟨old++new++Builtin.zeroCells z.cells (nc - (len+n)),e,nc,?_,Ox,?_,fun k hk=>?_,fun k hk=>?_⟩
 ·unfold Builtin.append_;have Em:¬(2 ^ 48<Builtin.nextslicecap (len+n) cap * B):=Bi;simp[run_underlying hu,run_underlying Tk,sizeOf,typeInfo,hi,Pb,hx w rfl,hle,Wi,Em,Question.forced,ho (w.drew) rfl,hn (w.drew) rfl,zeroValue,hz,newRow,nc,q];intro h;omega
 ·simp[h1,h3,Builtin.zeroCells,Mg];rw[<- Nat.add_mul,<- Nat.add_mul]
  congr 1;omega
 ·rw[Array.getElem?_append_left (by simp[h1,h3];omega),Array.getElem?_append_left oO]
 ·rw[Array.getElem?_append_left (by simp[h1,h3];omega),Array.getElem?_append_right oO,h1]
  congr 1;omega
end
end
section
section
variable {X:Ctx}{G:Gh}{s:St}{a:Act}{w:World}
theorem LQ {P:Program}{w:World}{els:List (List DV)}{v:Value}(hr:RV G.D w (.sl els) v)(w':World):(Builtin.lenOf v).run P w' = .ok els.length w':=by
 cases hr <;> simp[Builtin.lenOf]
theorem IC {w w':World}(h:w'.heap=w.heap)(ad:Addr):w'.cell? ad=w.cell? ad:=by simp[World.cell?,h]
theorem jI (R:Rel X G s a w){x:Operand}{t:Nat}{els:List (List DV)}(h:CS X (get s) x=some (.own t els)):a.eval x = .slice (G.τ t).1 els.length (G.τ t).2/\RV G.D w (.sl els) (a.eval x):=A8 R h
def MM (g:Rd)(t E len:Nat):Prop:=t=0\/g (.tok t)=some (.tk E len)
theorem YK {o:Oper}{x y:Operand}{T T2:TypeId}(ho:o.op = .call { callee:=.builtin .append,args:=#[x,y],argTypes:=#[T,T2] }){d:Nat}(hd:o.dst=some d)(hn:d<X.n)(Jj:d≠0)(hf:D7 d s=true)
  {E B:Nat} (he:FI X.P T=some (E,B)) (hB:0<B/\B<=1024) (h2:(E0 X.P T2).isSome=true) {t:Nat} {els ys:List (List DV)} (hx:CS X (get s) x=some (.own t els)) (hy:(CS X (get s) y).bind LN=some ys)
  (Io:MM (get s) t E els.length) (Ao:els.length+ys.length<=I6) (Ih:∀e∈els,e.length=E) (Db:∀e∈ys,e.length=E) :
  ED X s o (CM (CM (QZ s (.tok t)) (.slot d) (.one (.own d (els++ys)))) (.tok d) (.tk E (els.length+ys.length))):=by
 intro G a w R next Q hK
 obtain⟨hv,hr⟩:=jI R hx;obtain⟨q,hq,Ft⟩:=Option.bind_eq_some_iff.1 hy;obtain⟨yb,Qb,Oj,Jc,-⟩:=GQ Ft (A8 R hq);obtain⟨c1,f,f1,f2,f3⟩:=TD hr Ih;obtain⟨c2,g,g1,g2,g3⟩:=TD Jc Db;have Se:∀e∈els++ys,e.length=E:=fun e h=>(List.mem_append.1 h).elim (Ih e) (Db e);have So:∀e∈els++ys,∀c∈e,DV.isCell c=true:=fun e h=>(List.mem_append.1 h).elim (c1 e) (c2 e);have hlen:(els++ys).length=els.length+ys.length:=List.length_append;have Az:∀(v:Value) (w':World),(Builtin.append_ #[T,T2] o.type #[a.eval x,a.eval y]).run X.P w = .ok v w'->(execOp a.eval o).run X.P w = .ok (.value v) w':=by
  intro v w' h;simp[execOp,ho,resolve,invoke,builtin,h]
 have Ra:∀(v:Value) (w':World) (G':Gh),(Builtin.append_ #[T,T2] o.type #[a.eval x,a.eval y]).run X.P w = .ok v w' ->
   Rel X G' (CM (CM (QZ s (.tok t)) (.slot d) (.one (.own d (els++ys)))) (.tok d) (.tk E (els.length+ys.length))) (a.put (some d) v) w'->o.wpIn X.F 0 X.P a w next Q:=by
  intro v w' G' h hR;refine M5 (by first|exact E3 h|(intro c e;rw[ho]at e;cases e)) ?_;rw[Az v w' h,D1,hd];exact hK G' _ w' hR
 have Zp:N9 G w t E els.length:=by
  rcases Io with rfl|h
  ·have h0:=R.nil;rw[h0]at hv;simp only[N9,h0,and_true];rw[hv]at hr;cases hr;rfl
  ·exact R.holds _ _ h
 have Lu:∀D h,(IB G D d h).τ 0=(none,0):=fun D h=>by
  simp only[IB,if_neg (Ne.symm Jj)];exact R.nil
 have hBt:∀b,(∃n,t≠0/\n=els.length/\HQ G t n=some b)->∃E len,get s (.tok t)=some (.tk E len)/\HQ G t len=some b:=by
  rintro b ⟨n,ht,rfl,hb⟩;exact⟨E,_,Io.resolve_left ht,hb⟩
 by_cases hle:els.length+ys.length<=(G.τ t).2
 ·
  cases hh:G.τ t with
  | mk base cap=>
   rw[hh]at hv hle;simp only at hv hle;cases base with
   | none=>
    have Bi:els.length=0/\cap=0:=by simpa [N9,hh] using Zp
    have Ic:ys=[]:=List.eq_nil_of_length_eq_zero oO;have Ie:els=[]:=List.eq_nil_of_length_eq_zero Bi.1;subst Ic Ie;obtain⟨-,rfl⟩:=Bi;have Aq:=J9 (ty:=o.type) (w:=w) he h2 (base:=none) (len:=0) (cap:=0) (LQ (P:=X.P) Jc w) (E5 (P:=X.P) g3) hle (w':=w) rfl;refine Ra _ _ (IB G G.D d (none,0)) (by rw[hv];exact Aq) ?_;have T0:=Trans.refl X G a w R.nil;have T1:Trans X G a w (IB G G.D d (none,0)) a w (fun _=>False):=⟨T0.tmps,T0.defers,T0.os,T0.tape,T0.output,T0.size,T0.keep,T0.own,T0.grow,T0.new,Lu _ _⟩;refine R.ownNew hn hf T1 rfl (fun k hk=>by simp[IB,hk]) (fun b h=>h.elim) ?_ ?_ (fun b hb=>?_)
    ·simp only[LE,IB,if_true];exact⟨rfl,.sl0 _ _⟩
    ·simp[N9,IB]
    ·simp[HQ,IB]at hb
   | some p=>
    have htk:els.length<=cap/\(els.length<cap->p.spot=none/\∃c e,w.heap[p.block]? = some (.cells c e (0,0))/\p.off+cap * E<=c.size/\∀j,p.off+els.length * E<=j->j<p.off+cap * E->¬G.D p.block j):=by
     simpa [N9,hh] using Zp
    obtain⟨hlc,Tg⟩:=htk;obtain⟨pb,po,ps⟩:=p;simp only at Tg;have Zx:t≠0:=fun e=>by subst e;rw[R.nil]at hh;cases hh
    rcases Nat.lt_or_ge els.length cap with Ac|Uk
    ·obtain⟨rfl,c,e,k1,k2,k3⟩:=Tg Ac;have Mv:(YJ g (ys.length * E)).size=ys.length * E:=LP _ _;have hmul:els.length * E+ys.length * E<=cap * E:=by rw[<- Nat.add_mul];exact Nat.mul_le_mul_right _ hle
     have Jq:=K3 (P:=X.P) pb (po+els.length * E) e (YJ g (ys.length * E)).toList 0 c w k1 (by simp[Mv];omega) (fun v Dd=>by
      simp only[YJ,List.mem_map,List.mem_range]at Dd;obtain⟨k,hk,rfl⟩:=Dd;exact g2 k hk)
     rw[RK]at Jq;have Aq:=J9 (ty:=o.type) (w:=w) he h2 (base:=some ⟨pb,po,none⟩) (len:=els.length) (cap:=cap) (LQ (P:=X.P) Jc w) (E5 (P:=X.P) g3) hle (w':=w.setRow pb (K1 c (po+els.length * E) (YJ g (ys.length * E)))) (by simp only[F7];exact Jq);have Dj:=O8 c (po+els.length * E) (YJ g (ys.length * E)) (by rw[Mv];omega);rw[Mv]at Dj;have Ew:HQ G t els.length=some pb:=by simp[HQ,hh,Ac]
     have Kw:X.w0.heap.size<=pb:=by
      rcases R.own _ _ pb (Io.resolve_left Zx) Ew with h|⟨_,h⟩;· exact h
      ·cases h
     have Kn:∀k,(w.setRow pb (K1 c (po+els.length * E) (YJ g (ys.length * E)))).cell? ⟨pb,k,none⟩=(K1 c (po+els.length * E) (YJ g (ys.length * E)))[k]?:=fun k=>cell_setRow_same _ _ _ _ _ _ _ k1;have Ui:∀k,w.cell? ⟨pb,k,none⟩=c[k]?:=fun k=>by simp[World.cell?,k1]
     refine Ra _ _ (IB G (FJ G.D pb (po+els.length * E) (po+(els.length+ys.length) * E)) d (some ⟨pb,po,none⟩,cap)) (by rw[hv];exact Aq) ?_;have T:Trans X G a w (IB G (FJ G.D pb (po+els.length * E) (po+(els.length+ys.length) * E)) d (some ⟨pb,po,none⟩,cap)) a (w.setRow pb (K1 c (po+els.length * E) (YJ g (ys.length * E)))) (fun b=>b=pb):=by
      refine⟨rfl,fun h=>h.but k1 fun b Gy=>setRow_other _ _ _ _ Gy,rfl,rfl,rfl,sS,fun b hb Gy=>setRow_other _ _ _ _ Gy,fun b hb=>by subst hb;exact .inl Kw,fun b k hD=>⟨.inl hD,?_⟩,fun b k hD Ia=>?_,Lu _ _⟩
      ·by_cases hb:b=pb
       ·subst hb;rw[Kn,Ui,Dj.2];have:¬(po+els.length * E<=k/\k<po+els.length * E+ys.length * E):=fun ⟨q1,q2⟩=>k3 k q1 oO hD;rw[if_neg this]
       ·exact cell_setRow_other _ _ _ _ hb
      ·rcases hD with hD|⟨rfl,q1,q2⟩;· exact absurd hD Ia
       ·refine⟨.inr ⟨rfl,Kw⟩,_,(Kn k).trans (uG ?_)⟩;rw[Dj.1];rw[Nat.add_mul]at q2;omega
     refine R.ownNew hn hf T rfl (fun k hk=>by simp[IB,hk]) (fun b hb=>by subst hb;exact⟨E,_,Io.resolve_left Zx,Ew⟩) ?_ ?_ (fun b hb=>?_)
     ·simp only[LE,IB,if_true,hlen];refine⟨trivial,?_⟩
      have hj:VZ (FJ G.D pb (po+els.length * E) (po+(els.length+ys.length) * E)) (w.setRow pb (K1 c (po+els.length * E) (YJ g (ys.length * E)))) E (els++ys) (fun k=>if k<els.length * E then f k else g (k - els.length * E)):=
       VZ.join (f1.mono T.grow) (g1.mono T.grow) Ih Db (fun k hk=>by rw[if_pos hk]) (fun k hk=>by rw[if_neg oO,Nat.add_sub_cancel_left])
      have:=PX (cap:=cap) (b:=pb) (o:=po) (by rw[hlen];exact Ao) (by rw[hlen];exact hle) Se So (fun k hk=>?_) hj;· rw[hlen]at this;exact this
      ·rw[hlen,Nat.add_mul]at hk;by_cases Fk:k<els.length * E
       ·rw[if_pos Fk];rcases f3 with⟨rfl,-⟩|⟨b',o',Ba,Dd,Em⟩;· simp at Fk
        ·rw[hv]at Dd;cases Dd;obtain⟨m1,m2⟩:=Em k Fk;exact⟨(T.grow _ _ m2).2.trans m1,.inl m2⟩
       ·rw[if_neg Fk];refine⟨?_,.inr ⟨rfl,oO,by rw[Nat.add_mul];omega⟩⟩;rw[Kn,Dj.2,if_pos oO,show po+k - (po+els.length * E)=k - els.length * E from oO];exact O9 _ _ _ oO
     ·simp only[N9,IB,if_true];refine⟨hle,fun hc=>⟨trivial,_,e,setRow_heap _ _ _ _ _ _ k1,by rw[Dj.1];exact k2,fun j j1 j2 hD=>?_⟩⟩;rcases hD with hD|⟨-,q1,q2⟩;· exact k3 j (by rw[Nat.add_mul]at j1;omega) j2 hD
      ·omega
     ·simp only[HQ,IB,if_true]at hb;split at hb;· cases hb;exact .inr rfl
      ·cases hb
    ·have Ic:ys=[]:=List.eq_nil_of_length_eq_zero oO;subst Ic;have Bn:cap=els.length:=oO;subst Bn;have Aq:=J9 (ty:=o.type) (w:=w) he h2 (base:=some ⟨pb,po,ps⟩) (len:=els.length) (cap:=els.length) (LQ (P:=X.P) Jc w) (E5 (P:=X.P) g3) hle (w':=w) (by simp[YJ,storeCells]);refine Ra _ _ (IB G G.D d (some ⟨pb,po,ps⟩,els.length)) (by rw[hv];exact Aq) ?_;have T0:=Trans.refl X G a w R.nil;have T1:Trans X G a w (IB G G.D d (some ⟨pb,po,ps⟩,els.length)) a w (fun _=>False):=⟨T0.tmps,T0.defers,T0.os,T0.tape,T0.output,T0.size,T0.keep,T0.own,T0.grow,T0.new,Lu _ _⟩;refine R.ownNew hn hf T1 rfl (fun k hk=>by simp[IB,hk]) (fun b h=>h.elim) ?_ ?_ (fun b hb=>?_)
     ·simp only[LE,IB,if_true,List.append_nil,List.length_nil,Nat.add_zero];refine⟨trivial,?_⟩;rw[hv]at hr;exact hr
     ·simp[N9,IB]
     ·simp[HQ,IB]at hb
 ·
  have Tq:∀w':World,w'.heap=w.heap->(Builtin.firstCells E ys.length (a.eval y)).run X.P w' = .ok (YJ g (ys.length * E)) w':=fun w' hw=>by
   refine E5 (D:=G.D) ?_;rcases g3 with h|⟨b,o',cap,h,hc⟩;· exact .inl h
   ·exact .inr ⟨b,o',cap,h,fun k hk=>by rw[IC hw];exact hc k hk⟩
  have Km:∀w':World,w'.heap=w.heap->(Builtin.firstCells E els.length (.slice (G.τ t).1 els.length (G.τ t).2)).run X.P w' = .ok (YJ f (els.length * E)) w':=fun w' hw=>by
   rw[<- hv];refine E5 (D:=G.D) ?_;rcases f3 with h|⟨b,o',cap,h,hc⟩;· exact .inl h
   ·exact .inr ⟨b,o',cap,h,fun k hk=>by rw[IC hw];exact hc k hk⟩
  obtain⟨c,e,nc,r1,r2,r3,r4,r5⟩:=RM (ty:=o.type) (w:=w) he hB h2 (fun w' _=>LQ (P:=X.P) Jc w') Tq Km hle Ao (LP _ _) (LP _ _);rw[<- hv]at r1;refine Ra _ _ (IB G (FJ G.D w.heap.size 0 ((els.length+ys.length) * E)) d (some ⟨w.heap.size,0,none⟩,nc)) r1 ?_;have hcsz:(els.length+ys.length) * E<=c.size:=by rw[r3];exact Nat.mul_le_mul_right _ r2
  have Cq:∀k,(w.drew.alloc (.cells c e)).cell? ⟨w.heap.size,k,none⟩=c[k]?:=fun k=>World.cell?_alloc_new w.drew c e k;have T:Trans X G a w (IB G (FJ G.D w.heap.size 0 ((els.length+ys.length) * E)) d (some ⟨w.heap.size,0,none⟩,nc)) a (w.drew.alloc (.cells c e)) (fun _=>False):=by
   refine⟨rfl,fun h=>h.heap fun b hb=>CX w.drew _ b hb,rfl,rfl,rfl,sS,fun b hb _=>CX w.drew _ b hb,fun _ h=>h.elim,fun b k hD=>⟨.inl hD,World.cell?_alloc_lt w.drew _ _ (R.wf.lt hD)⟩,fun b k hD Ia=>?_,Lu _ _⟩;rcases hD with hD|⟨rfl,q1,q2⟩;· exact absurd hD Ia
   ·exact⟨.inl (Nat.le_refl _),_,(Cq k).trans (uG oO)⟩
  refine R.ownNew hn hf T rfl (fun k hk=>by simp[IB,hk]) (fun b h=>h.elim) ?_ ?_ (fun b hb=>?_)
  ·simp only[LE,IB,if_true,hlen];refine⟨trivial,?_⟩
   have hj:VZ (FJ G.D w.heap.size 0 ((els.length+ys.length) * E)) (w.drew.alloc (.cells c e)) E (els++ys) (fun k=>if k<els.length * E then f k else g (k - els.length * E)):=
    VZ.join (f1.mono T.grow) (g1.mono T.grow) Ih Db (fun k hk=>by rw[if_pos hk]) (fun k hk=>by rw[if_neg oO,Nat.add_sub_cancel_left])
   have:=PX (cap:=nc) (b:=w.heap.size) (o:=0) (by rw[hlen];exact Ao) (by rw[hlen];exact r2) Se So (fun k hk=>?_) hj;· rw[hlen]at this;exact this
   ·rw[hlen]at hk;refine⟨?_,.inr ⟨rfl,oO,oO⟩⟩;rw[Nat.zero_add,Cq];rw[Nat.add_mul]at hk;by_cases Fk:k<els.length * E;· rw[if_pos Fk,r4 k Fk];exact O9 _ _ _ Fk
    ·rw[if_neg Fk,show k=els.length * E+(k - els.length * E) from oO,r5 _ oO,Nat.add_sub_cancel_left];exact O9 _ _ _ oO
  ·simp only[N9,IB,if_true];refine⟨r2,fun _=>⟨trivial,c,e,JP w.drew _,by rw[r3];omega,fun j j1 j2 hD=>?_⟩⟩;rcases hD with hD|⟨-,q1,q2⟩;· exact absurd (R.wf.lt hD) (Nat.lt_irrefl _)
   ·omega
  ·simp only[HQ,IB,if_true]at hb;split at hb;· cases hb;exact .inl (Nat.le_refl _)
   ·cases hb
theorem YL {o:Oper}{T:TypeId}{x m:Operand}{lo hi:Option Operand}(ho:o.op = .slice T x lo hi (some m)){d:Nat}(hd:o.dst=some d)(hn:d<X.n)(Jj:d≠0)(hf:D7 d s=true){E:Nat}(hE:E0 X.P T=some E){els:List (List DV)}
  (hx:(CS X (get s) x).bind LN=some els) {l h k:Int} (La:EZ X (get s) 0 lo=some l) (Jb:EZ X (get s) els.length hi=some h) (hm:EZ X (get s) 0 (some m)=some k) (Za:hi.isSome=true)
  (hc:0<=l/\l<=h/\h<=els.length/\h=k/\∀e∈els,e.length=E) :
  ED X s o (CM (CM (QZ s (.tok 0)) (.slot d) (.one (.own d ((els.take h.toNat).drop l.toNat)))) (.tok d) (.tk E (h.toNat - l.toNat))):=by
 intro G a w R next Q hK
 obtain⟨h0,h1,h2,rfl,h3⟩:=hc;obtain⟨e',ie,hu,Dz,rfl⟩:=IP hE;obtain⟨q,hq,Ft⟩:=Option.bind_eq_some_iff.1 hx;obtain⟨b,cap,hv,hr,Bi⟩:=GQ Ft (A8 R hq);have Og:(lo.map a.eval=none/\l=0)\/∃k,lo.map a.eval=some (.int k l):=by
  rcases HR R La with⟨rfl,h⟩|⟨z,k,rfl,h⟩;· exact .inl ⟨rfl,h⟩
  ·exact .inr ⟨k,by simp[h]⟩
 obtain⟨Nt,rfl⟩:=Option.isSome_iff_exists.1 Za;have Oc:∃k,a.eval Nt = .int k h:=by
  rcases HR R Jb with⟨h,_⟩|⟨z,k,hz,h⟩;· cases h
  ·cases hz;exact⟨k,h⟩
 have Nq:∃k,a.eval m = .int k h:=by
  rcases HR R hm with⟨h,_⟩|⟨z,k,hz,h⟩;· cases h
  ·cases hz;exact⟨k,h⟩
 obtain⟨k1,Fk⟩:=Oc;obtain⟨k2,Ax⟩:=Nq;have hh':(h.toNat:Int)=h:=Int.toNat_of_nonneg oO;have Bk:(sizeOf e').run X.P w = .ok ie.size w:=by simp[sizeOf,typeInfo,Dz]
 have Aq:(Instr.sliceAt T (.slice b els.length cap) (lo.map a.eval) (some (a.eval Nt)) (some (a.eval m))).run X.P w =
   .ok (.slice (if h.toNat=l.toNat then b else b.map fun q=>q.add (l.toNat * ie.size)) (h.toNat - l.toNat) (h.toNat - l.toNat)) w:=by
  have b1:0<=h/\h<=(cap:Int):=⟨oO,oO⟩;have b2:0<=h/\h<=(h.toNat:Int):=⟨oO,oO⟩;have b3:0<=l/\l<=(h.toNat:Int):=⟨h0,oO⟩;rcases Og with⟨hl,rfl⟩|⟨k,hl⟩
  ·rw[hl,Fk,Ax];simp only[Instr.sliceAt,Instr.slice,run_underlying hu,Instr.sliceBounds,Instr.sliceBound,asIntOf,Sem.run_bind,Sem.run_pure,Result.andThen_ok,if_pos b1,if_pos b2,Bk];simp
  ·rw[hl,Fk,Ax];simp only[Instr.sliceAt,Instr.slice,run_underlying hu,Instr.sliceBounds,Instr.sliceBound,asIntOf,Sem.run_bind,Sem.run_pure,Result.andThen_ok,if_pos b1,if_pos b2,if_pos b3,Bk]
 have Ju:=mE (w:=w) (E:=ie.size) (hv ▸ hr) h3 l.toNat h.toNat oO oO Bi;have hlen:((els.take h.toNat).drop l.toNat).length=h.toNat - l.toNat:=by simp;omega
 obtain⟨base,Kw,Tz⟩:∃base:Option Addr,base=(if h.toNat=l.toNat then b else b.map fun q=>q.add (l.toNat * ie.size))/\RV G.D w (.sl ((els.take h.toNat).drop l.toNat)) (.slice base (h.toNat - l.toNat) (h.toNat - l.toNat)):=by
  refine⟨_,rfl,?_⟩;by_cases he:h.toNat=l.toNat
  ·have:(els.take h.toNat).drop l.toNat=[]:=by rw[he];simp
   rw[this,he,Nat.sub_self];exact .sl0 _ _
  ·have Au:cap≠l.toNat:=oO;rw[if_neg Au]at Ju;rw[if_neg he];generalize (els.take h.toNat).drop l.toNat=L at *;generalize hb:b.map (fun q=>q.add (l.toNat * ie.size))=bb at *;rw[<- hlen]at Ju ⊢;cases Ju with
   | sl0=>simp at hlen;omega
   | sl _ b' o' _ E' val q1 q2 q3 q4 q5 q6 q7=>exact .sl L b' o' _ E' val q1 (Nat.le_refl _) q3 q4 q5 q6 q7
 rw[<- Kw]at Aq;have Lu:(IB G G.D d (base,h.toNat - l.toNat)).τ 0=(none,0):=by simp only[IB,if_neg (Ne.symm Jj)];exact R.nil
 have T0:=Trans.refl X G a w R.nil;have T1:Trans X G a w (IB G G.D d (base,h.toNat - l.toNat)) a w (fun _=>False):=⟨T0.tmps,T0.defers,T0.os,T0.tape,T0.output,T0.size,T0.keep,T0.own,T0.grow,T0.new,Lu⟩;refine M5 (by first|exact E3 h|(intro c e;rw[ho]at e;cases e)) ?_;simp only[execOp,ho,hv,Option.map_some,Aq,Sem.run_bind,Result.andThen_ok,Sem.run_pure,D1,hd];refine hK (IB G G.D d (base,h.toNat - l.toNat)) _ w (R.ownNew (t:=0) hn hf T1 rfl (fun k hk=>by simp[IB,hk]) (fun b h=>h.elim) ?_ ?_ (fun b hb=>?_))
 ·simp only[LE,IB,if_true,hlen];exact⟨trivial,Tz⟩
 ·simp only[N9,IB,if_true];cases base with
  | none=>
   have:h.toNat - l.toNat=0:=by
    rw[<- hlen]at Tz ⊢;generalize (els.take h.toNat).drop l.toNat=L at *;cases Tz with
    | sl0=>rfl
   exact⟨this,this⟩
  | some p=>exact⟨Nat.le_refl _,fun h=>absurd h (Nat.lt_irrefl _)⟩
 ·cases base <;> simp[HQ,IB]at hb
end
end
section
abbrev BS:=List (Nat × List DV)
structure HeapOK (D:Nat->Nat->Prop)(w:World)(φ:BS):Prop where
 rows:∀b cs,(b,cs)∈φ->∃c e,w.heap[b]? = some (.cells c e (0,0))/\cs.length<=c.size/\∀(i:Nat) (x:DV),cs[i]? = some x->x.isCell=true/\∃v,c[i]? = some v/\RV D w x v
 nodata:∀b cs,(b,cs)∈φ->∀o,¬D b o
 nodup:(φ.map (·.1)).Nodup
def LC (P:Program)(gl:AB)(f:FuncId)(args:List DV)(φ:BS)(R:DV->BS->Prop):Prop:=
 ∀(D:Nat->Nat->Prop) (w:World) (vs:Array Value),Wf gl D w->vs.size=args.length->(∀(i:Nat) (x:DV) (v:Value),args[i]? = some x->vs[i]? = some v->RV D w x v)->HeapOK D w φ ->
  Calls P f vs w fun e w'=>∃v D' r Ag,e = .returned v/\R r Ag/\Ext (φ.map (·.1)) D w D' w'/\Wf gl D' w'/\RV D' w' r v/\HeapOK D' w' Ag/\∀b∈Ag.map (·.1),b∈φ.map (·.1)\/w.heap.size<=b
def Aft (X:Ctx)(D':Nat->Nat->Prop)(w':World)(Ag:BS):Prop:=
 Ext X.ids X.D0 X.w0 D' w'/\Wf X.gl D' w'/\HeapOK D' w' Ag/\∀b∈Ag.map (·.1),b∈X.ids\/X.w0.heap.size<=b
def Ctx.Post (X:Ctx)(v:Value)(w':World):Prop:=
 ∃D' r Ag,X.R r Ag/\Ext X.ids X.D0 X.w0 D' w'/\Wf X.gl D' w'/\RV D' w' r v/\HeapOK D' w' Ag/\∀b∈Ag.map (·.1),b∈X.ids\/X.w0.heap.size<=b
def zkh:Option Code->List Item->Prop
 | none,k=>k=[]
 | some .ret,k=>∃k1,k = .code .ret::k1
 | some (.exit id),k=>∃k1,k = .code (.exit id)::k1/\exitTo id k1=none
 | some (.goto l),k=>∃k1,k = .code (.goto l)::k1/\gotoIn l k1=none
 | _,_=>False
def Fin (X:Ctx)(b fr:Frame)(w':World):Prop:=
 match X.md with
 | .fn=>∃v,X.Post v w'/\fr.fn=X.f/\fr.leaving X.P w' (.returned v)
 | .it l R=>∃v D' Ag r',R Ag r'/\Aft X D' w' Ag/\w'.heap[l]? = some (.loop r')/\fr.fn=X.f/\fr.leaving X.P w' (.returned v)
 | .fm bm R=>∃v D' r Gd,R r Gd/\(Ext X.ids X.D0 X.w0 D' w'/\Wf X.gl D' w'/\RV D' w' r v/\mA ⟨D',fun _=>0,fun _=>(none,0)⟩ w' bm Gd/\∀o,¬D' bm o)/\fr.fn=X.f/\fr.leaving X.P w' (.returned v)
 | .rd l r R=>∃a k j D' Ag,fr=b.atR a k/\zkh j k/\R j Ag/\Aft X D' w' Ag/\w'.heap[l]? = some (.loop { r with state:=.busy })
def W (X:Ctx)(k:List Item)(s:St):Prop:=
 ∀(G:Gh) (a:Act) (w:World) (b:Frame) (cs:List Frame),b.fn=X.f->b.kind = .normal->b.roundOf=X.rd->Rel X G s a w ->
  ∃w' fr,Fin X b fr w'/\Steps X.P (lone (b.atR a k) cs w) (lone fr cs w')
section
variable {X:Ctx}{s:St}{k:List Item}
theorem RN {k k':List Item}(h:∀(a:Act) (w:World) (b:Frame) (cs:List Frame),step X.P (lone (b.atR a k) cs w) = .next (lone (b.atR a k') cs w))(hw:W X k' s):W X k s:=by
 intro G a w b cs hf hk hr R;obtain⟨w',fr,h1,h2⟩:=hw G a w b cs hf hk hr R;exact⟨w',fr,h1,.head (h a w b cs) h2⟩
theorem DA {x y:Code}(h:W X (.code x::.code y::k) s):W X (.code (.seq x y)::k) s:=RN (fun _ _ _ _=>stepR_seq) h
theorem BX (h:W X k s):W X (.code .skip::k) s:=RN (fun _ _ _ _=>stepR_skip) h
theorem B7 {l:Nat}(h:W X k s):W X (.code (.label l)::k) s:=RN (fun _ _ _ _=>stepR_label) h
theorem C4 {id:Nat}{c:Code}(h:W X (.code c::.inBlock id::k) s):W X (.code (.block id c)::k) s:=RN (fun _ _ _ _=>stepR_block) h
theorem AN {id:Nat}(h:W X k s):W X (.inBlock id::k) s:=RN (fun _ _ _ _=>stepR_inBlock) h
theorem D4 {c:Code}(h:W X (.code c::.inLoop c::k) s):W X (.code (.loop c)::k) s:=RN (fun _ _ _ _=>stepR_loop) h
theorem CN {c:Code}(h:W X (.code c::.inLoop c::k) s):W X (.inLoop c::k) s:=RN (fun _ _ _ _=>stepR_inLoop) h
theorem CC {id:Nat}{k':List Item}(he:exitTo id k=some k')(h:W X k' s):W X (.code (.exit id)::k) s:=RN (fun _ _ _ _=>stepR_exit he) h
theorem BN {c:Operand}{x y:Code}{t:Bool}(hc:CS X (get s) c=some (.v (.prim (.bool t))))(ht:t=true->W X (.code x::k) s)(hf:t=false->W X (.code y::k) s):W X (.code (.cond c x y)::k) s:=by
 intro G a w b cs hbf hbk hr R;have hv:=(BJ (A8 R hc)).1;cases t with
 | true=>
  obtain⟨w',fr,h1,h2⟩:=ht rfl G a w b cs hbf hbk hr R;exact⟨w',fr,h1,.head (by have:=stepR_cond (P:=X.P) (b:=b) (k:=k) (cs:=cs) (w:=w) (x:=x) (y:=y) hv;simpa using this) h2⟩
 | false=>
  obtain⟨w',fr,h1,h2⟩:=hf rfl G a w b cs hbf hbk hr R;exact⟨w',fr,h1,.head (by have:=stepR_cond (P:=X.P) (b:=b) (k:=k) (cs:=cs) (w:=w) (x:=x) (y:=y) hv;simpa using this) h2⟩
def PY (X:Ctx)(g:Rd):ResultVar->Option DV
 | .tmp t=>match g (.slot t) with
  | some (.one x)=>f8 x
  | _=>none
 | .cell t ty=>match g (.slot t) with
  | some (.one x)=>(loadAt X g ty x).bind f8
  | _=>none
def bE (X:Ctx)(g:Rd):List ResultVar->Option (List DV)
 | []=>some []
 | r::l=>match PY X g r,bE X g l with
  | some x,some xs=>some (x::xs)
  | _,_=>none
def UT (X:Ctx)(g:Rd)(l:List ResultVar):Option DV:=
 match bE X g l with
 | some [x]=>some x
 | some xs=>some (.tup xs)
 | none=>none
def z61 (tmps:Array Value):ResultVar->Sem Value
 | .tmp t=>pure (tmps.getD t undef)
 | .cell p t=>do loadVar t (<- asAddr (tmps.getD p undef))
theorem W0 (fn:Func)(tmps:Array Value):results fn tmps=(do let vs <- fn.results.mapM (z61 tmps);pure (if h:vs.size=1 then vs[0] else .tuple vs)):=by
 unfold results
 congr 1
theorem bF {G:Gh}{a:Act}{w:World}(R:Rel X G s a w):∀{l:List ResultVar} {xs:List DV},bE X (get s) l=some xs ->
  ∃vs:List Value,(l.mapM (z61 a.tmps)).run X.P w = .ok vs w/\vs.length=xs.length/\∀(i:Nat) (x:DV) (v:Value),xs[i]? = some x->vs[i]? = some v->RV G.D w x v
 | [],xs,h=>by cases h;exact⟨[],sS,rfl,sS⟩
 | r::l,xs,h=>by
  simp only[bE]at h;split at h
  ·rename_i x ys hx Ic;cases h;obtain⟨vs,h1,h2,h3⟩:=bF R Ic;have key:∃v,(z61 a.tmps r).run X.P w = .ok v w/\RV G.D w x v:=by
    cases r with
    | tmp t=>
     simp only[PY]at hx;split at hx
     ·rename_i y hy;exact⟨_,rfl,JN hx (R.holds _ _ hy)⟩
     ·cases hx
    | cell p t=>
     simp only[PY]at hx;split at hx
     ·rename_i y hy;obtain⟨z,hz,Pv⟩:=Option.bind_eq_some_iff.1 hx;obtain⟨u,q1,q2⟩:=VT R (R.holds _ _ hy) hz;refine⟨u,?_,JN Pv q2⟩;simp only[Instr.loadAt,Sem.run_bind]at q1;simp only[z61,Sem.run_bind];cases hv:a.tmps.getD p undef with
      | pointer o=>
       cases o with
       | none=>simp[hv,Instr.sureAddr]at q1
       | some ad=>simpa [hv,Instr.sureAddr,asAddr] using q1
      | _=>simp[hv,Instr.sureAddr]at q1
     ·cases hx
   obtain⟨v,k1,k2⟩:=key;refine⟨v::vs,?_,by simp[h2],fun i c u hc hu=>?_⟩
   ·rw[List.mapM_cons];simp only[Sem.run_bind];rw[k1];simp only[Result.andThen_ok,h1,Sem.run_pure]
   ·cases i with
    | zero=>simp at hc hu;subst hc hu;exact k2
    | succ i=>exact h3 i c u (by simpa using hc) (by simpa using hu)
  ·cases h
theorem UU {G:Gh}{a:Act}{w:World}(R:Rel X G s a w){fn:Func}{r:DV}(h:UT X (get s) fn.results.toList=some r):∃v,(results fn a.tmps).run X.P w = .ok v w/\RV G.D w r v:=by
 unfold UT at h;have main:∀xs,bE X (get s) fn.results.toList=some xs->∃vs:Array Value,(fn.results.mapM (z61 a.tmps)).run X.P w = .ok vs w/\vs.size=xs.length/\∀(i:Nat) (x:DV) (v:Value),xs[i]? = some x->vs[i]? = some v->RV G.D w x v:=by
  intro xs hx;obtain⟨vs,h1,h2,h3⟩:=bF R hx;refine⟨vs.toArray,?_,by simpa using h2,fun i x v hx hv=>h3 i x v hx (by simpa using hv)⟩;rw[Array.mapM_eq_mapM_toList];simp only[Sem.run_map,h1,Result.andThen_ok]
 split at h
 ·rename_i x hx;cases h;obtain⟨vs,h1,h2,h3⟩:=main _ hx;have hs:vs.size=1:=by simpa using h2
  refine⟨vs[0],?_,h3 0 _ _ rfl (by simp[hs])⟩;rw[W0,Sem.run_bind,h1];simp[hs]
 ·rename_i xs Au hx;cases h;obtain⟨vs,h1,h2,h3⟩:=main _ hx;have hs:vs.size≠1:=by
   intro e;rw[h2]at e
   match xs,e with
   | [x],_=>exact Au x rfl
  refine⟨.tuple vs,?_,.tup _ _ h2 h3⟩;rw[W0,Sem.run_bind,h1];simp[hs]
 ·cases h
def BW (g:Rd)(φ:BS):Prop:=∀b cs,(b,cs)∈φ->g (.heap b)=some (.row (cs.map SV.v))
theorem TE {G:Gh}{a:Act}{w:World}(R:Rel X G s a w){φ:BS}(h:BW (get s) φ)(hn:(φ.map (·.1)).Nodup):HeapOK G.D w φ:=by
 refine⟨fun b cs hm=>?_,fun b cs hm o=>?_,hn⟩
 ·obtain⟨c,e,h1,h2,h3⟩:=R.holds _ _ (h b cs hm);refine⟨c,e,h1,by simpa using h2,fun i x hx=>?_⟩;obtain⟨k1,v,k2,k3⟩:=h3 i (.v x) (by simp[hx]);exact⟨k1,v,k2,k3⟩
 ·exact R.data _ _ b o (h b cs hm) rfl rfl
theorem z62 {Ds Es:List Nat}(h:Ds.map U8=Es.map U8):Ds=Es:=by
 induction Ds generalizing Es with
 | nil=>cases Es <;> simp_all
 | cons d r ih=>
  cases Es with
  | nil=>simp at h
  | cons e t=>
   simp only[List.map_cons,List.cons.injEq]at h;have h1:d=e:=by have:=h.1;simp only[U8,Deferred.mk.injEq,Target.collected.injEq,and_true]at this;exact this
   rw[h1,ih h.2]
theorem Rel.pop {G:Gh}{a:Act}{w:World}(R:Rel X G s a w){D:Nat}{Ds:List Nat}(ha:a.defers=U8 D::Ds.map U8) :
  (Instr.takeDeferred D).run X.P w = .ok [] (w.putObj D (.deferred none))/\Rel X G s { a with defers:=Ds.map U8 } (w.putObj D (.deferred none)):=by
 obtain⟨Ds',h1,h2,h3⟩:=R.defers;obtain rfl:Ds' = D::Ds:=z62 (by rw[<- h1,ha];rfl);obtain⟨hD,Ac⟩:=h3 D sS;have Au:∀b,b≠D->(w.putObj D (.deferred none)).heap[b]? = w.heap[b]?:=fun b hb=>World.putObj_heap_other hb
 have Lp:∀b o,G.D b o->b≠D:=fun b o hd e=>by
  subst e;obtain⟨v,hv⟩:=R.wf.there b o hd;simp[World.cell?,hD]at hv
 refine⟨run_takeDeferred hD,?_⟩;have T:Trans X G a w G { a with defers:=Ds.map U8 } (w.putObj D (.deferred none)) (fun b=>b=D):=by
  refine⟨rfl,fun _=>⟨Ds,rfl,(List.nodup_cons.1 h2).2,fun E hE=>?_⟩,rfl,rfl,rfl,sS,fun b _ hb=>Au b hb,fun b hb=>by subst hb;exact .inl Ac,fun b o hd=>⟨hd,?_⟩,fun _ _ h k=>absurd h k,R.nil⟩
  ·have hED:E≠D:=fun e=>by subst e;exact (List.nodup_cons.1 h2).1 hE
   exact⟨(Au E hED).trans (h3 E (by simp[hE])).1,(h3 E (by simp[hE])).2⟩
  ·simp only[World.cell?];rw[Au b (Lp b o hd)]
 refine R.step T (fun _ _=>False) (fun l v h=>.inr ⟨h,fun _ _=>rfl,fun b hb he=>?_,fun _ _=>rfl,fun _ _=>rfl⟩) (fun _ _ h=>h.elim) (fun _ _ _ _ _ h=>h.elim);subst he;have hh:=R.holds _ _ h;cases l with
 | slot n=>cases v <;> cases hb
 | loc n=>
  cases v with
  | row cs=>simp only[BC,uC]at hb;subst hb;obtain⟨c,e,h4,_⟩:=hh;rw[hD]at h4;cases h4
  | _=>first|exact hh.elim|cases hb
 | heap n=>
  cases v with
  | row cs=>simp only[BC,uC]at hb;subst hb;obtain⟨c,e,h4,_⟩:=hh;rw[hD]at h4;cases h4
  | ob r=>simp only[BC,uC]at hb;subst hb;simp only[ME]at hh;rw[hD]at hh;cases r <;> cases hh
  | mp l=>simp only[BC,uC]at hb;subst hb;obtain⟨es,cl,h4,_⟩:=hh;rw[hD]at h4;cases h4
  | _=>first|exact hh.elim|cases hb
 | tok n=>
  cases v with
  | tk E len=>
   simp only[BC,HQ,ME,N9]at hb hh;split at hb
   ·rename_i aa cap heq;rw[heq]at hh;split at hb
    ·rename_i Pw;obtain⟨-,c,e,h4,_⟩:=hh.2 Pw;cases hb;rw[hD]at h4;cases h4
    ·cases hb
   ·cases hb
  | _=>first|exact hh.elim|cases hb
theorem RO {G:Gh}{cs:List Frame}:∀(Ds:List Nat) (a:Act) (w:World) (fr:Frame),a.defers=Ds.map U8->Rel X G s a w->fr.mode = .returning->fr.defers=a.defers ->
  ∃w' Jw,Steps X.P (lone fr cs w) (lone Jw cs w')/\Rel X G s { a with defers:=[] } w'/\Jw.mode = .returning/\Jw.defers=[]/\Jw.fn=fr.fn/\Jw.kind=fr.kind/\Jw.tmps=fr.tmps:=by
 intro Ds
 induction Ds with
 | nil=>
  intro a w fr ha R hm hd;refine⟨w,fr,.refl _ _,?_,hm,by rw[hd,ha];rfl,rfl,rfl,rfl⟩;have:{ a with defers:=[] } = a:=by cases a;simp only at ha;rw[ha];rfl
  rw[this];exact R
 | cons D Ds ih=>
  intro a w fr ha R hm hd;obtain⟨h1,h2⟩:=R.pop ha;have hs:=step_collected (P:=X.P) (cs:=cs) (by rw[hm];simp) (hd.trans ha) rfl h1;obtain⟨w',Jw,k1,k2,k3,k4,k5,k6,k7⟩:=ih _ _ { fr with defers:=[]++Ds.map U8 } rfl h2 hm rfl;exact⟨w',Jw,.head hs k1,k2,k3,k4,k5,k6,k7⟩
theorem zg7 (h:X.md = .fn):X.rd=none:=by simp[Ctx.rd,h]
theorem zkj {l:Nat}{R:BS->Loop->Prop}(h:X.md = .it l R):X.rd=none:=by simp[Ctx.rd,h]
theorem s9 {G:Gh}{a:Act}{w:World}(R:Rel X G s a w){φ:BS}(Bb:BW (get s) φ)(hn:(φ.map (·.1)).Nodup):Aft X G.D w φ:=by
 refine⟨R.ext,R.wf,TE R Bb hn,fun b hb=>?_⟩;obtain⟨⟨b',Cu⟩,hm,rfl⟩:=List.mem_map.1 hb;rcases R.own _ _ b' (Bb b' Cu hm) rfl with h|⟨h,_⟩;· exact .inr h
 ·exact .inl h
def z63 (X:Ctx)(m:List Item):Prop:=
 ∀(a:Act) (w:World) (b:Frame) (cs:List Frame),b.roundOf=none->step X.P (lone (b.atR a m) cs w) = .next (lone { b.atR a m with mode:=.returning } cs w)
theorem W2:z63 X (.code .ret::k):=fun _ _ _ _ h=>stepR_ret h
theorem RP:z63 X []:=fun _ _ _ _ h=>stepR_end h
theorem zg8 (Cw:X.md = .fn)(Av:X.P.funcs[X.f]? = some X.fn){r:DV}(hr:UT X (get s) X.fn.results.toList=some r){φ:BS}(Bb:BW (get s) φ)(hn:(φ.map (·.1)).Nodup)(hR:X.R r φ){m:List Item}(Dl:z63 X m):W X m s:=by
 intro G a w b cs hf hk Hb R;obtain⟨Ds,Zc,-⟩:=R.defers;obtain⟨w',Jw,k1,R',k3,k4,k5,k6,k7⟩:=RO (cs:=cs) Ds a w { b.atR a m with mode:=.returning } Zc R rfl rfl;obtain⟨v,h1,h2⟩:=UU R' hr;obtain⟨q1,q2,q3,q4⟩:=s9 R' Bb hn;refine⟨w',Jw,?_,.head (Dl a w b cs (Hb.trans (zg7 Cw))) k1⟩;simp only[Fin,Cw];exact⟨v,⟨G.D,r,φ,hR,q1,q2,h2,q3,q4⟩,k5.trans hf,k3,k4,k6.trans hk,X.fn,by rw[k5];exact (congrArg _ hf).trans Av,by rw[k7];exact h1⟩
theorem zg9 (Cw:X.md = .fn)(Av:X.P.funcs[X.f]? = some X.fn){r:DV}(hr:UT X (get s) X.fn.results.toList=some r){φ:BS}(Bb:BW (get s) φ)(hn:(φ.map (·.1)).Nodup)(hR:X.R r φ):W X (.code .ret::k) s:=
 zg8 Cw Av hr Bb hn hR W2
theorem zga (Cw:X.md = .fn)(Av:X.P.funcs[X.f]? = some X.fn){r:DV}(hr:UT X (get s) X.fn.results.toList=some r){φ:BS}(Bb:BW (get s) φ)(hn:(φ.map (·.1)).Nodup)(hR:X.R r φ):W X [] s:=
 zg8 Cw Av hr Bb hn hR RP
theorem W3 {l:Nat}{Q:BS->Loop->Prop}(Cw:X.md = .it l Q)(Av:X.P.funcs[X.f]? = some X.fn){r:DV}(hr:UT X (get s) X.fn.results.toList=some r){φ:BS}(Bb:BW (get s) φ)(hn:(φ.map (·.1)).Nodup){q:Loop}(hl:get s (.heap l)=some (.ob q))(hR:Q φ q){m:List Item}(Dl:z63 X m):W X m s:=by
 intro G a w b cs hf hk Hb R;obtain⟨Ds,Zc,-⟩:=R.defers;obtain⟨w',Jw,k1,R',k3,k4,k5,k6,k7⟩:=RO (cs:=cs) Ds a w { b.atR a m with mode:=.returning } Zc R rfl rfl;obtain⟨v,h1,h2⟩:=UU R' hr;refine⟨w',Jw,?_,.head (Dl a w b cs (Hb.trans (zkj Cw))) k1⟩;simp only[Fin,Cw];exact⟨v,G.D,φ,q,hR,s9 R' Bb hn,R'.holds _ _ hl,k5.trans hf,k3,k4,k6.trans hk,X.fn,by rw[k5];exact (congrArg _ hf).trans Av,by rw[k7];exact h1⟩
theorem W4 {l:Nat}{r:Loop}{Q:Option Code->BS->Prop}(Cw:X.md = .rd l r Q){φ:BS}(Bb:BW (get s) φ)(hn:(φ.map (·.1)).Nodup)(hl:get s (.heap l)=some (.ob (.lp { r with state:=.busy })))(j:Option Code){m:List Item}(hj:zkh j m)(hR:Q j φ):W X m s:=by
 intro G a w b cs hf hk Hb R;refine⟨w,b.atR a m,?_,.refl _ _⟩;simp only[Fin,Cw];exact⟨a,m,j,G.D,φ,rfl,hj,hR,s9 R Bb hn,R.holds _ _ hl⟩
def Nrm (X:Ctx)(K:St->Prop):Exit->Act->World->Prop:=fun e a w=>e = .normal/\∃G s,K s/\Rel X G s a w
def VL (X:Ctx)(ops:Array Oper)(l:List Oper)(s:St)(K:St->Prop):Prop:=
 ∀n,ops.toList.drop n=l->∀(G:Gh) (a:Act) (w:World),Rel X G s a w->wpOpsIn X.F 0 X.P ops (Nrm X K) (List.range' n l.length) a w
theorem zgs {ops:Array Oper}{K:St->Prop}(h:K s):VL X ops [] s K:=fun _ _ G _ _ R=>⟨rfl,G,s,h,R⟩
theorem EQ {ops:Array Oper}{n:Nat}{o:Oper}{l:List Oper}(h:ops.toList.drop n=o::l):ops[n]? = some o/\ops.toList.drop (n+1)=l:=by
 constructor
 ·have:(ops.toList.drop n)[0]? = some o:=by rw[h];rfl
  rw[List.getElem?_drop]at this
  simpa using this
 ·rw[<- List.drop_drop,h];rfl
theorem OA {ops:Array Oper}{o:Oper}{l:List Oper}{K:St->Prop}{s':St}(hg:o.guard=none)(ho:ED X s o s')(h:VL X ops l s' K):VL X ops (o::l) s K:=by
 intro n hn G a w R;obtain⟨h1,h2⟩:=EQ hn;simp only[List.length_cons,List.range'_succ,wpOpsIn,h1,Region.wanted,hg,if_true];exact (ho G a w R _ _ fun G' a' w' R'=>h (n+1) h2 G' a' w' R')
theorem Rel.congr {G:Gh}{a:Act}{w:World}(R:Rel X G s a w){s':St}(h:∀l,get s' l=get s l):Rel X G s' a w:=
 ⟨R.size,R.defers,R.ext,R.wf,R.nil,fun l v hl=>R.holds l v (by rw[<- h];exact hl),fun l v l' v' b h1 h2=>R.sep l v l' v' b (by rw[<- h];exact h1) (by rw[<- h];exact h2),fun l v b h1=>R.own l v b (by rw[<- h];exact h1),fun l v b o h1=>R.data l v b o (by rw[<- h];exact h1)⟩
abbrev f0:LV:=.one (.v (.tup []))
theorem jJ {G:Gh}{w:World}:LE G w (.v (.tup [])) undef:=.tup [] #[] rfl sS
theorem bG {ops:Array Oper}{G:Gh}{a:Act}{w:World}(R:Rel X G s a w){j dj:Nat}(hj:(ops[j]?).bind (·.dst)=some dj)(hb:get s (.slot dj)=some f0):yielded ops a.tmps j=none:=by
 have hv:RV G.D w (.tup []) (a.tmps.getD dj undef):=R.holds _ _ hb;unfold yielded;rw[hj];simp only[Option.bind_some];cases hq:a.tmps[dj]? with
 | none=>rfl
 | some v=>
  have:a.tmps.getD dj undef=v:=by simp[Array.getD_eq_getD_getElem?,hq]
  rw[this]at hv;cases hv;rfl
theorem z64 {ops:Array Oper}{o:Oper}{l:List Oper}{K:St->Prop}{j dj:Nat}{want b:Bool}(hg:o.guard=some (j,want))(hj:(ops[j]?).bind (·.dst)=some dj)(Xd:dj<X.n)(hb:get s (.slot dj)=some (.one (.v (.prim (.bool b)))))
  (hyes:b=want->∃s',ED X (CM s (.slot dj) (.one (.v (.prim (.bool want))))) o s'/\VL X ops l s' K)
  {d:Nat} (hd:o.dst=some d) (Ci:d<X.n) (Wl:b = !want->VL X ops l (CM (CM s (.slot dj) (.one (.v (.prim (.bool (!want)))))) (.slot d) f0) K):VL X ops (o::l) s K:=by
 intro n hn G a w R;obtain⟨h1,h2⟩:=EQ hn;have hv:=(BJ (R.holds _ _ hb)).1;have Ac:dj<a.tmps.size:=by rw[R.size];exact Xd
 have Dd:a.tmps[dj]? = some (.bool b):=by
  have h3:a.tmps.getD dj undef=a.tmps[dj]:=by simp[Ac]
  rw[uG Ac,<- h3,hv]
 have hy:yielded ops a.tmps j=some b:=by
  unfold yielded;rw[hj];simp[Dd]
 have R':∀c,b=c->Rel X G (CM s (.slot dj) (.one (.v (.prim (.bool c))))) a w:=fun c hc=>R.congr fun l=>by
  rw[BM];split
  ·subst_vars;exact hb.symm
  ·rfl
 simp only[List.length_cons,List.range'_succ,wpOpsIn,h1,Region.wanted,hg,hy];by_cases Kb:b=want
 ·subst Kb;simp only[beq_self_eq_true,if_true];obtain⟨s',k1,k2⟩:=hyes rfl;exact (k1 G a w (R' _ rfl) _ _ fun G' a' w' R'=>k2 (n+1) h2 G' a' w' R')
 ·have Et:b = !want:=by cases b <;> cases want <;> simp_all
  have:(some b==some want)=false:=by simp[Kb]
  simp only[this,Bool.false_eq_true,if_false,hd];exact⟨fun _ _=>trivial,Wl Et (n+1) h2 G _ w ((R' _ Et).setSlot (Trans.refl X G a w R.nil) rfl rfl (fun _ h=>h) Ci (x:=.v (.tup [])) jJ)⟩
theorem z13 {ops:Array Oper}{o:Oper}{l:List Oper}{K:St->Prop}{j dj:Nat}{want:Bool}(hg:o.guard=some (j,want))(hj:(ops[j]?).bind (·.dst)=some dj)(hb:get s (.slot dj)=some f0)
  {d:Nat} (hd:o.dst=some d) (Ci:d<X.n) (Wl:VL X ops l (CM s (.slot d) f0) K):VL X ops (o::l) s K:=by
 intro n hn G a w R;obtain⟨h1,h2⟩:=EQ hn;have hy:=bG (ops:=ops) R hj hb;simp only[List.length_cons,List.range'_succ,wpOpsIn,h1,Region.wanted,hg,hy,hd];have:(none==some want)=false:=by cases want <;> rfl
 simp only[this,Bool.false_eq_true,if_false];exact⟨fun _ _=>trivial,Wl (n+1) h2 G _ w (R.setSlot (Trans.refl X G a w R.nil) rfl rfl (fun _ h=>h) Ci (x:=.v (.tup [])) jJ)⟩
theorem z65 (n:Nat):X.F.room n:=fun _ h=>by simp[Ctx.F,Fence.wide]at h
theorem z66 {id:Nat}{ops:Array Oper}(h:∀K:St->Prop,(∀s',W X k s'->K s')->VL X ops ops.toList s K):W X (.code (.region id ops false)::k) s:=by
 intro G a w b cs hf hk hr R;have hv:=h (fun s'=>W X k s') (fun _ h=>h) 0 rfl G a w R;have e:List.range' 0 ops.toList.length=List.range ops.size:=by rw[List.range_eq_range'];simp
 rw[e]at hv;obtain⟨e',a',w',⟨rfl,G',s',hK,R'⟩,Mq⟩:=wp_opsIn _ a w hv b k cs hr tT (z65 _);obtain⟨Jt,fr,h1,h2⟩:=hK G' a' w' b cs hf hk hr R';exact⟨Jt,fr,h1,.head stepR_region (Steps.trans (StepsIn.steps Mq) h2)⟩
end
end
section
def W5 (P:Program)(f:FuncId):Prop:=
 ∃ fn, P.funcs[f]? = some fn /\ fn.body.isSome = true /\ (fn.name == "runtime.NumGoroutine") = false
def Con (P:Program)(gl:AB)(f:FuncId)(args:List DV)(φ:BS)(R:DV->BS->Prop):Prop:=W5 P f/\LC P gl f args φ R
def RC (P:Program)(gl:AB)(f:FuncId)(args:List DV)(φ:BS)(r:DV)(Ag:BS):Prop:=Con P gl f args φ fun x ψ=>x=r/\ψ=Ag
def DO:BS->St
 | []=>[]
 | (b,cs)::r=>(.heap b,.row (cs.map SV.v))::DO r
def MH:Nat->List DV->St
 | _,[]=>[]
 | n,x::r=>(.slot n,.one (.v x))::MH (n+1) r
def entry (args:List DV)(φ:BS):St:=MH 0 args++DO φ
def DX (s:St):BS->St
 | []=>s
 | (b,_)::r=>DX (QZ s (.heap b)) r
def D8 (s:St):BS->St
 | []=>s
 | (b,cs)::r=>CM (D8 s r) (.heap b) (.row (cs.map SV.v))
theorem HS (s t:St)(l:Loc):get (s++t) l=(get s l).or (get t l):=by
 induction s with
 | nil=>simp[get]
 | cons p r ih=>
  obtain⟨m,v⟩:=p;simp only[List.cons_append,get];split <;> simp[ih]
theorem NC {φ:BS}{l:Loc}{v:LV}(h:get (DO φ) l=some v):∃b cs,l = .heap b/\v = .row (cs.map SV.v)/\(b,cs)∈φ:=by
 induction φ with
 | nil=>cases h
 | cons p r ih=>
  obtain⟨b,cs⟩:=p;simp only[DO,get]at h;split at h;· rename_i hl;cases h;exact⟨b,cs,hl.symm,rfl,sS⟩
  ·obtain⟨b',Cu,h1,h2,h3⟩:=ih h;exact⟨b',Cu,h1,h2,List.mem_cons_of_mem _ h3⟩
theorem TF {l:Loc}{v:LV}:∀{args:List DV} {n:Nat},get (MH n args) l=some v->∃i x,l = .slot (n+i)/\v = .one (.v x)/\args[i]? = some x
 | [],_,h=>by cases h
 | x::r,n,h=>by
  simp only[MH,get]at h;split at h;· rename_i hl;cases h;exact⟨0,x,by rw[<- hl];rfl,rfl,rfl⟩
  ·obtain⟨i,y,h1,h2,h3⟩:=TF h;exact⟨i+1,y,by rw[h1];congr 1;omega,h2,by simpa using h3⟩
theorem RQ (φ:BS):∀(s:St) (l:Loc) (v:LV),get (DX s φ) l=some v->get s l=some v/\∀b∈φ.map (·.1),l≠.heap b:=by
 induction φ with
 | nil=>intro s l v h;exact⟨h,sS⟩
 | cons p r ih=>
  obtain⟨b,cs⟩:=p;intro s l v h;obtain⟨h1,h2⟩:=ih _ l v h;rw[O5]at h1;by_cases hl:Loc.heap b=l;· rw[if_pos hl]at h1;cases h1
  ·rw[if_neg hl]at h1;refine⟨h1,fun b' Ai=>?_⟩;simp only[List.map_cons,List.mem_cons]at Ai;rcases Ai with rfl|Ai;· exact fun e=>hl e.symm
   ·exact h2 b' Ai
theorem OB (s:St):∀(φ:BS) (l:Loc) (v:LV),get (D8 s φ) l=some v->(∃b cs,l = .heap b/\v = .row (cs.map SV.v)/\(b,cs)∈φ)\/(get s l=some v/\∀b∈φ.map (·.1),l≠.heap b)
 | [],l,v,h=>.inr ⟨h,sS⟩
 | (b,cs)::r,l,v,h=>by
  simp only[D8,BM]at h;split at h;· rename_i hl;cases h;exact .inl ⟨b,cs,hl.symm,rfl,sS⟩
  ·rename_i hl;rcases OB s r l v h with⟨b',Cu,h1,h2,h3⟩|⟨h1,h2⟩;· exact .inl ⟨b',Cu,h1,h2,List.mem_cons_of_mem _ h3⟩
   ·refine .inr ⟨h1,fun b' Ai=>?_⟩;simp only[List.map_cons,List.mem_cons]at Ai;rcases Ai with rfl|Ai;· exact fun e=>hl e.symm
    ·exact h2 b' Ai
section
variable {X:Ctx}{s:St}{k:List Item}
theorem H3 {G:Gh}{D':Nat->Nat->Prop}{w':World}{φ:BS}(h:HeapOK D' w' φ){b:Nat}{cs:List DV}(hm:(b,cs)∈φ):LM { D:=D',ν:=G.ν,τ:=G.τ } w' b (cs.map SV.v):=by
 obtain⟨c,e,h1,h2,h3⟩:=h.rows b cs hm;refine⟨c,e,h1,by simpa using h2,fun i x hx=>?_⟩;rw[List.getElem?_map]at hx;cases hq:cs[i]? with
 | none=>simp[hq]at hx
 | some y=>
  simp[hq]at hx;subst hx;exact h3 i y hq
theorem Rel.call {G:Gh}{a:Act}{w:World}(R:Rel X G s a w){φ Ag:BS}(Bb:BW (get s) φ){D':Nat->Nat->Prop}{w':World}(hx:Ext (φ.map (·.1)) G.D w D' w')(Fr:Wf X.gl D' w'){r:DV}{v:Value}(hr:RV D' w' r v)
  (hh:HeapOK D' w' Ag) (u5:∀b∈Ag.map (·.1),b∈φ.map (·.1)\/w.heap.size<=b) {d:Nat} (hd:d<X.n) :
  Rel X { D:=D',ν:=G.ν,τ:=G.τ } (D8 (DX (CM s (.slot d) (.one (.v r))) φ) Ag) (a.put (some d) v) w':=by
 have hp:=FV a (some d) v;have En:∀b∈φ.map (·.1),∃cs,get s (.heap b)=some (.row (List.map SV.v cs)):=by
  intro b hb;obtain⟨⟨b',Cu⟩,hm,rfl⟩:=List.mem_map.1 hb;exact⟨Cu,Bb b' Cu hm⟩
 have T:Trans X G a w { D:=D',ν:=G.ν,τ:=G.τ } (a.put (some d) v) w' (fun b=>b∈φ.map (·.1)):=by
  refine⟨hp.1,fun h=>h.keep hp.2 fun D hD=>(hx.block D (Array.getElem?_eq_some_iff.1 hD).1 fun hm=>?_).trans hD,hx.os,hx.tape,hx.output,hx.size,fun b hb hn=>hx.block b hb hn,fun b hb=>?_,hx.grow,fun b o hD hn=>⟨.inl (hx.new b o hD hn),Fr.there b o hD⟩,R.nil⟩
  ·obtain⟨cs,hg⟩:=En D hm;obtain⟨c,e,h4,_⟩:=R.holds _ _ hg;rw[hD]at h4;cases h4
  ·obtain⟨cs,hg⟩:=En b hb;exact (R.own _ _ b hg rfl).imp id And.left
 refine R.step T (fun l u=>(l = .slot d/\u = .one (.v r))\/∃b cs,l = .heap b/\u = .row (cs.map SV.v)/\(b,cs)∈Ag) (fun l u h=>?_) (fun l u h=>?_) (fun l u l' u' b h h' hb Ai=>?_)
 ·rcases OB _ _ _ _ h with h|⟨h,Au⟩;· exact .inl (.inr h)
  ·obtain⟨h,hn⟩:=RQ _ _ _ _ h
   ·rw[BM]at h;split at h;· rename_i hl;cases h;exact .inl (.inl ⟨hl.symm,rfl⟩)
    ·rename_i hl;refine .inr ⟨h,fun n hn=>FH _ _ _ _ (fun e=>hl (by rw[hn,e])),fun b hb hB=>?_,fun _ _=>rfl,fun _ _=>rfl⟩;obtain⟨cs,hg⟩:=En b hB;exact hn b hB (R.sep _ _ _ _ b hg h rfl hb).symm
 ·rcases h with⟨rfl,rfl⟩|⟨b,cs,rfl,rfl,hm⟩
  ·refine⟨?_,fun b hb=>by cases hb⟩;show RV D' w' r _;rw[E4 _ _ _ (by rw[R.size];exact hd)];exact hr
  ·refine⟨H3 hh hm,fun b' Ai=>?_⟩;simp only[BC,uC]at Ai;subst Ai;have Kj:b∈Ag.map (·.1):=List.mem_map.2 ⟨_,hm,rfl⟩;refine⟨(u5 b Kj).symm,?_,fun _ o=>hh.nodata b cs hm o⟩;rcases u5 b Kj with h1|h1
   ·obtain⟨Cu,hg⟩:=En b h1;exact R.own _ _ b hg rfl
   ·exact .inl (Nat.le_trans R.ext.size h1)
 ·rcases h with⟨rfl,rfl⟩|⟨b1,cs,rfl,rfl,hm⟩;· cases hb
  ·rcases h' with⟨rfl,rfl⟩|⟨b2,Cu,rfl,rfl,Nq⟩;· cases Ai
   ·simp only[BC,uC]at hb Ai;rw[hb,Ai]
theorem PZ {P:Program}{f:FuncId}(h:W5 P f)(args:Array Value)(w:World):(callFunc f args).run P w = .ok (.enter f args) w:=by
 obtain⟨fn,h1,h2,h3⟩:=h;have h4:fn.body.isNone=false:=by cases hb:fn.body <;> simp_all
 simp only[callFunc,Sem.run_bind,run_program,Result.andThen_ok,h1,h3,h4,Bool.false_eq_true,if_false,Sem.run_pure]
theorem bH {o:Oper}{f:FuncId}{x:Operand}{args:Array Operand}{Bo:Array TypeId}(ho:o.op = .call { callee:=.value x,args:=args,argTypes:=Bo }){fi ca:Array Value}
  (hx:CS X (get s) x=some (.v (.prim (.func (.func f) fi ca)))) {ds:List DV} (u9:∃d0,GK X (get s) args.toList=some d0/\ds=fi.toList.map DV.prim++d0++ca.toList.map DV.prim) (Hl:∀v∈fi.toList++ca.toList,D5 v)
  {φ:BS} {R:DV->BS->Prop} (hc:Con X.P X.gl f ds φ R) (Bb:BW (get s) φ) (Aw:(φ.map (·.1)).Nodup) {d:Nat} (hd:o.dst=some d) (Ci:d<X.n) {G:Gh} {a:Act} {w:World} (R0:Rel X G s a w) (next:Act->World->Prop) (Q:Exit->Act->World->Prop)
  (hk:∀r Ag G' a' w',R r Ag->(∀b∈Ag.map (·.1),b∈φ.map (·.1)\/∀l v,get s l=some v->BC G l v≠some b)->Rel X G' (D8 (DX (CM s (.slot d) (.one (.v r))) φ) Ag) a' w'->next a' w'):o.wpIn X.F 0 X.P a w next Q:=by
 obtain⟨d0,Jj,rfl⟩:=u9;have hxv:=(BJ (A8 R0 hx)).1;obtain⟨q1,q2⟩:=O7 R0 Jj;have Yx:args.size=d0.length:=by simpa using q1
 refine M5 (by intro c e;rw[ho]at e;cases e) ?_;have Aq:(execOp a.eval o).run X.P w = .ok (.enter f (fi++args.map a.eval++ca)) w:=by
  simp[execOp,ho,resolve,hxv,Deferred.ofValue,invoke,PZ hc.1]
 rw[Aq,fU];have hpr:∀v∈fi.toList++ca.toList,RV G.D w (.prim v) v:=fun v hv=>.prim v (Hl v hv);refine (hc.2 G.D w _ R0.wf ?_ ?_ (TE R0 Bb Aw)).mono ?_;· simp[<- q1]
 ·intro i x v hx hv;have hl:(fi++args.map a.eval++ca).toList=fi.toList++args.toList.map a.eval++ca.toList:=sS;have Dd:(fi.toList++args.toList.map a.eval++ca.toList)[i]? = some v:=by rw[<- hl,Array.getElem?_toList];exact hv
  by_cases h1:i<fi.size
  ·rw[List.append_assoc,List.getElem?_append_left (by simpa using h1)]at hx Dd;rw[List.getElem?_map]at hx;rw[Dd]at hx;cases hx;exact hpr v (List.mem_append.2 (.inl (uE Dd)))
  ·by_cases h2:i<fi.size+args.size
   ·rw[List.append_assoc,List.getElem?_append_right (by simp;omega),List.getElem?_append_left (by simp;omega)]at hx Dd;simp only[List.length_map,Array.length_toList]at hx Dd;exact q2 _ _ _ hx Dd
   ·rw[List.getElem?_append_right (by simp;omega)]at hx Dd;simp only[List.length_append,List.length_map,Array.length_toList,<- Yx]at hx Dd;rw[List.getElem?_map]at hx;rw[Dd]at hx;cases hx;exact hpr v (List.mem_append.2 (.inr (uE Dd)))
 ·rintro e w' ⟨v,D',r,Ag,rfl,hR,Lv,Fr,Uu,hh,u5⟩;rw[hd];refine hk r Ag _ _ w' hR (fun b hb=>?_) (R0.call Bb Lv Fr Uu hh u5 Ci);rcases u5 b hb with h|h;· exact .inl h
  ·exact .inr fun l v hg Jz=>by
    have:=H9 (R0.holds l v hg) Jz;omega
theorem MN {o:Oper}{f:FuncId}{args:Array Operand}{Bo:Array TypeId}(ho:o.op = .call { callee:=.value (.func f),args:=args,argTypes:=Bo })
  {ds:List DV} (u9:GK X (get s) args.toList=some ds) {φ Ag:BS} {r:DV} (hc:RC X.P X.gl f ds φ r Ag) (Bb:BW (get s) φ) (Aw:(φ.map (·.1)).Nodup) {d:Nat} (hd:o.dst=some d) (Ci:d<X.n) :
  ED X s o (D8 (DX (CM s (.slot d) (.one (.v r))) φ) Ag):=by
 intro G a w R next Q hK
 refine bH (fi:=#[]) (ca:=#[]) ho rfl ⟨ds,u9,sS⟩ sS hc Bb Aw hd Ci R next Q ?_
 rintro r' ψ G' a' w' ⟨rfl,rfl⟩ _ R';exact hK G' a' w' R'
theorem z15 {P : Program} {gl : AB} {f : FuncId} {args : List DV} {φ : BS} {R : DV -> BS -> Prop} {fn : Func} {body : Code} (hf : P.funcs[f]? = some fn) (hb : fn.body = some body) (Gi : (fn.name == "runtime.NumGoroutine") = false)
  (hn:args.length<=fn.ntmps)
  (h:∀X:Ctx,X.P=P->X.gl=gl->X.f=f->X.fn=fn->X.n=fn.ntmps->X.R=R/\X.md = .fn->X.ids=φ.map (·.1)->(∀x∈args,DV.fit x)->W X [.code body] (entry args φ)):Con P gl f args φ R:=by
 refine⟨⟨fn,hf,by simp[hb],Gi⟩,?_⟩;intro D w vs Fr Bk u9 Cs cs
 let X:Ctx:={ P:=P,gl:=gl,f:=f,fn:=fn,n:=fn.ntmps,ids:=φ.map (·.1),D0:=D,w0:=w,R:=R,md:=.fn }
 have u4:∀x∈args,DV.fit x:=by
  intro x hx;obtain⟨i,hi,rfl⟩:=List.mem_iff_getElem.1 hx;exact RV.fit (u9 i _ vs[i] (uB hi) (uG oO))
 have hW:=h X rfl rfl rfl rfl rfl ⟨rfl,rfl⟩ rfl u4
 let a:Act:={ tmps:=vs++Array.replicate (fn.ntmps - vs.size) undef,defers:=[] }
 have Rl:Rel X { D:=D,ν:=fun _=>0,τ:=fun _=>(none,0) } (entry args φ) a w:=by
  have Ay:∀l v,get (entry args φ) l=some v->(∃i x,l = .slot i/\v = .one (.v x)/\args[i]? = some x)\/∃b cs,l = .heap b/\v = .row (cs.map SV.v)/\(b,cs)∈φ:=by
   intro l v hl;unfold entry at hl;rw[HS]at hl;rcases Option.or_eq_some_iff.1 hl with hl|⟨-,hl⟩
   ·obtain⟨i,x,h1,h2,h3⟩:=TF hl;exact .inl ⟨i,x,by simpa using h1,h2,h3⟩
   ·exact .inr (NC hl)
  refine⟨by simp[a,X];omega,⟨[],rfl,List.nodup_nil,sS⟩,Ext.refl _ _ _,Fr,rfl,fun l v hl=>?_,fun l v l' v' b hl Ct hb Ai=>?_,fun l v b hl hb=>?_,fun l v b o hl hb _=>?_⟩
  ·rcases Ay l v hl with⟨i,x,rfl,rfl,hx⟩|⟨b,cs,rfl,rfl,hm⟩
   ·have hi:i<vs.size:=by rw[Bk];exact (uA hx).1
    have hv:vs[i]? = some vs[i]:=uG hi;show RV D w x _;have:a.tmps.getD i undef=vs[i]:=by
     simp[a,Array.getElem?_append_left hi,hv]
    rw[this];exact u9 i x _ hx hv
   ·exact H3 (G:={ D:=D,ν:=fun _=>0,τ:=fun _=>(none,0) }) Cs hm
  ·rcases Ay l v hl with⟨i,x,rfl,rfl,hx⟩|⟨b1,cs,rfl,rfl,hm⟩;· cases hb
   ·rcases Ay l' v' Ct with⟨i,x,rfl,rfl,hx⟩|⟨b2,Cu,rfl,rfl,Nq⟩;· cases Ai
    ·simp only[BC,uC]at hb Ai;rw[hb,Ai]
  ·rcases Ay l v hl with⟨i,x,rfl,rfl,hx⟩|⟨b1,cs,rfl,rfl,hm⟩;· cases hb
   ·simp only[BC,uC]at hb;subst hb;exact .inr ⟨List.mem_map.2 ⟨_,hm,rfl⟩,rfl⟩
  ·rcases Ay l v hl with⟨i,x,rfl,rfl,hx⟩|⟨b1,cs,rfl,rfl,hm⟩;· cases hb
   ·simp only[BC,uC]at hb;subst hb;exact Cs.nodata _ _ hm o
 let b:Frame:={ (default:Frame) with fn:=f,kind:=.normal }
 have Ec:Frame.enter P f vs .normal=b.atR a [.code body]:=by
  simp[Frame.enter,Frame.atR,hf,hb,b,a];rfl
 obtain⟨w',fr,⟨v,⟨D',r,Ag,k1,k2,k3,k4,k5,k6⟩,h3,h4⟩,h2⟩:=hW _ a w b cs rfl rfl rfl Rl;rw[<- Ec]at h2;exact⟨.returned v,w',fr,⟨v,D',r,Ag,rfl,k1,k2,k3,k4,k5,k6⟩,h2,h3,h4⟩
def RD (σ:Nat->Nat):SV->SV->Prop
 | .v x,.v y=>x=y
 | .v x,.own _ els=>x = .sl els
 | .loc k off,.loc k' Uz=>k=k'/\off=Uz
 | .dp els i off,.dp Ul i' Uz=>els=Ul/\i=i'/\off=Uz
 | .own t els,.own t' Ul=>σ t=t'/\els=Ul
 | .v x,.ag cs _=>x = .agg cs
 | .ag cs ns,.ag Cu ns'=>cs=Cu/\ns=ns'
 | _,_=>False
def KL (σ:Nat->Nat):List SV->List SV->Prop
 | [],[]=>True
 | x::r,y::t=>RD σ x y/\KL σ r t
 | _,_=>False
def bI (σ:Nat->Nat):LV->Option LV->Prop
 | .one x,some (.one y)=>RD σ x y
 | .row cs,some (.row ds)=>KL σ cs ds
 | .ob r,some (.ob q)=>r=q
 | .mp l,some (.mp q)=>l=q
 | _,_=>False
def UV (σ:Nat->Nat)(s:St)(l:Loc)(v:LV):Prop:=
 match l,v with
 | .tok t,.tk E n=>(σ t=0/\n=0)\/(σ t≠0/\get s (.tok (σ t))=some (.tk E n))
 | l,v=>bI σ v (get s l)
def K4 (σ:Nat->Nat)(s:St):St->Prop
 | []=>True
 | (l,v)::r=>UV σ s l v/\K4 σ s r
def XH:List (Nat × Nat)->Nat->Nat
 | [],n=>n
 | (x,y)::r,n=>if n=x then y else XH r n
def HB:St->List Nat
 | []=>[]
 | (.tok t,_)::r=>t::HB r
 | _::r=>HB r
theorem bJ {G:Gh}{w:World}{σ:Nat->Nat}{x y:SV}{v:Value}(h:RD σ x y)(hr:LE G w y v):LE { D:=G.D,ν:=G.ν,τ:=fun t=>G.τ (σ t) } w x v:=by
 cases x <;> cases y <;> simp only[RD]at h;· subst h;exact hr
 ·subst h;exact hr.2
 ·subst h;exact hr.1
 ·obtain⟨rfl,rfl⟩:=h;exact hr
 ·obtain⟨rfl,rfl,rfl⟩:=h;exact hr
 ·obtain⟨rfl,rfl⟩:=h;exact hr
 ·obtain⟨rfl,rfl⟩:=h;exact hr
theorem z16 {σ:Nat->Nat}{x y:SV}(h:RD σ x y)(hc:y.isCell=true):x.isCell=true:=by
 cases x <;> cases y <;> simp only[RD]at h;· subst h;exact hc
 ·subst h;rfl
 ·cases hc
 ·rfl
 ·rfl
 ·rfl
 ·cases hc
theorem YM {σ:Nat->Nat}:∀{cs ds:List SV},KL σ cs ds->cs.length=ds.length/\∀(i:Nat) (x:SV),cs[i]? = some x->∃y,ds[i]? = some y/\RD σ x y
 | [],[],_=>⟨rfl,sS⟩
 | x::r,y::t,h=>by
  obtain⟨h1,h2⟩:=h;obtain⟨k1,k2⟩:=YM h2;refine⟨by simp[k1],fun i z hz=>?_⟩;cases i with
  | zero=>simp at hz;subst hz;exact⟨y,rfl,h1⟩
  | succ i=>obtain⟨q,hq⟩:=k2 i z (by simpa using hz);exact⟨q,by simpa using hq.1,hq.2⟩
 | [],_::_,h=>h.elim
 | _::_,[],h=>h.elim
theorem fW {σ:Nat->Nat}{s:St}:∀{s':St},K4 σ s s'->∀l v,get s' l=some v->UV σ s l v
 | [],_,l,v,h=>by cases h
 | (m,u)::r,h,l,v,hg=>by
  simp only[get]at hg;split at hg;· cases hg;subst_vars;exact h.1
  ·exact fW h.2 l v hg
theorem bK {s:St}{t:Nat}{v:LV}(h:get s (.tok t)=some v):t∈HB s:=by
 induction s with
 | nil=>cases h
 | cons p r ih=>
  obtain⟨m,u⟩:=p;simp only[get]at h;split at h
  ·subst_vars;simp[HB]
  ·cases m <;> simp only[HB] <;> first|exact ih h|exact List.mem_cons_of_mem _ (ih h)
def Q0 (σ:Nat->Nat):List Nat->Prop
 | []=>True
 | t::r=>(σ t=0\/∀t'∈r,t' = t\/σ t'≠σ t)/\Q0 σ r
theorem YN {σ:Nat->Nat}:∀{l:List Nat},Q0 σ l->∀t∈l,∀t'∈l,σ t≠0->σ t=σ t'->t=t'
 | [],_,t,h,_,_,_,_=>by cases h
 | x::r,h,t,ht,t',ht',Au,he=>by
  obtain⟨h1,h2⟩:=h;rcases List.mem_cons.1 ht with e1|m1
  ·rcases List.mem_cons.1 ht' with e2|m2;· rw[e1,e2]
   ·rw[e1]at Au he;rcases h1 with h1|h1;· exact absurd h1 Au
    ·rcases h1 t' m2 with h|h;· rw[e1,h]
     ·exact absurd he.symm h
  ·rcases List.mem_cons.1 ht' with e2|m2
   ·rw[e2]at he;rcases h1 with h1|h1;· exact absurd (he.trans h1) Au
    ·rcases h1 t m1 with h|h;· rw[e2,h]
     ·exact absurd he h
   ·exact YN h2 t m1 t' m2 Au he
theorem Rel.sub {G:Gh}{a:Act}{w:World}(R:Rel X G s a w)(l:List (Nat × Nat)){s':St}(h0:XH l 0=0)(hs:K4 (XH l) s s')(hi:Q0 (XH l) (HB s')):Rel X { D:=G.D,ν:=G.ν,τ:=fun t=>G.τ (XH l t) } s' a w:=by
 have key:∀m v,get s' m=some v->(∃t E n,m = .tok t/\v = .tk E n/\((XH l t=0/\n=0)\/(XH l t≠0/\get s (.tok (XH l t))=some (.tk E n))))\/(m.isTok=false/\∃u,get s m=some u/\bI (XH l) v (some u)):=by
  intro m v hg;have hf:=fW hs m v hg;unfold UV at hf;split at hf;· rename_i t E n;exact .inl ⟨t,E,n,rfl,rfl,hf⟩
  ·rename_i Au;cases hu:get s m with
   | none=>rw[hu]at hf;cases v <;> exact hf.elim
   | some u=>
    rw[hu]at hf;refine .inr ⟨?_,u,rfl,hf⟩;cases m with
    | tok t=>
     cases v with
     | tk E n=>exact (Au t E n rfl rfl).elim
     | one x=>
      have:=R.holds _ _ hu;cases u with
      | tk E n=>exact hf.elim
      | one y=>exact this.elim
      | row cs=>exact this.elim
      | ob r=>exact this.elim
      | mp l=>exact this.elim
     | row cs=>
      have:=R.holds _ _ hu;cases u with
      | tk E n=>exact hf.elim
      | one y=>exact this.elim
      | row cs=>exact this.elim
      | ob r=>exact this.elim
      | mp l=>exact this.elim
     | mp l=>
      have:=R.holds _ _ hu;cases u with
      | tk E n=>exact hf.elim
      | one y=>exact this.elim
      | row cs=>exact this.elim
      | ob r=>exact this.elim
      | mp l=>exact this.elim
     | ob r=>
      have:=R.holds _ _ hu;cases u with
      | tk E n=>exact hf.elim
      | one y=>exact this.elim
      | row cs=>exact this.elim
      | ob r=>exact this.elim
      | mp l=>exact this.elim
    | _=>rfl
 have Ew:∀m v b,get s' m=some v->BC { D:=G.D,ν:=G.ν,τ:=fun t=>G.τ (XH l t) } m v=some b->(∃t E n,m = .tok t/\v = .tk E n/\XH l t≠0/\get s (.tok (XH l t))=some (.tk E n)/\BC G (.tok (XH l t)) (.tk E n)=some b)\/(m.isTok=false/\∃u,get s m=some u/\BC G m u=some b):=by
  intro m v b hg hb;rcases key m v hg with⟨t,E,n,rfl,rfl,h⟩|⟨h1,u,h2,h3⟩
  ·rcases h with⟨h1,rfl⟩|⟨h1,h2⟩
   ·simp only[BC,HQ,h1,R.nil]at hb;cases hb
   ·exact .inl ⟨t,E,n,rfl,rfl,h1,h2,hb⟩
  ·refine .inr ⟨h1,u,h2,?_⟩;cases m with
   | slot n=>cases v <;> cases hb
   | tok t=>cases h1
   | loc q=>cases v with
    | row cs=>cases u with
     | row ds=>exact hb
     | _=>exact h3.elim
    | ob r=>cases u with
     | ob q=>exact hb
     | _=>exact h3.elim
    | mp r=>cases u with
     | mp q=>exact hb
     | _=>exact h3.elim
    | _=>cases hb
   | heap q=>cases v with
    | row cs=>cases u with
     | row ds=>exact hb
     | _=>exact h3.elim
    | ob r=>cases u with
     | ob q=>exact hb
     | _=>exact h3.elim
    | mp r=>cases u with
     | mp q=>exact hb
     | _=>exact h3.elim
    | _=>cases hb
 have Ak:∀b cs ds,KL (XH l) cs ds->LM G w b ds->LM { D:=G.D,ν:=G.ν,τ:=fun t=>G.τ (XH l t) } w b cs:=by
  rintro b cs ds hle ⟨c,e,h1,h2,h3⟩;obtain⟨k1,k2⟩:=YM hle;refine⟨c,e,h1,oO,fun i x hx=>?_⟩;obtain⟨y,hy,Er⟩:=k2 i x hx;obtain⟨q1,v,q2,q3⟩:=h3 i y hy;exact⟨z16 Er q1,v,q2,bJ Er q3⟩
 refine⟨R.size,R.defers,R.ext,R.wf,by simp only[h0];exact R.nil,fun m v hg=>?_,fun m v m' v' b hg Fs hb Ai=>?_,fun m v b hg hb=>?_,fun m v b o hg hb ht=>?_⟩
 ·rcases key m v hg with⟨t,E,n,rfl,rfl,h⟩|⟨h1,u,h2,h3⟩
  ·rcases h with⟨h1,rfl⟩|⟨h1,h2⟩;· simp only[ME,N9,h1,R.nil,and_self]
   ·exact R.holds _ _ h2
  ·have hh:=R.holds _ _ h2;cases m with
   | tok t=>cases h1
   | slot n=>cases v with
    | one x=>cases u with
     | one y=>exact bJ h3 hh
     | _=>exact h3.elim
    | _=>cases u <;> first|exact hh.elim|exact h3.elim
   | loc q=>cases v with
    | row cs=>cases u with
     | row ds=>exact Ak _ _ _ h3 hh
     | _=>exact h3.elim
    | _=>cases u <;> first|exact hh.elim|exact h3.elim
   | heap q=>cases v with
    | row cs=>cases u with
     | row ds=>exact Ak _ _ _ h3 hh
     | _=>exact h3.elim
    | ob r=>cases u with
     | ob q=>obtain rfl:r=q:=h3;exact hh
     | _=>exact h3.elim
    | mp r=>cases u with
     | mp q=>obtain rfl:r=q:=h3;exact hh
     | _=>exact h3.elim
    | _=>cases u <;> first|exact hh.elim|exact h3.elim
 ·rcases Ew m v b hg hb with⟨t,E,n,rfl,rfl,h1,h2,h3⟩|⟨h1,u,h2,h3⟩
  ·rcases Ew m' v' b Fs Ai with⟨t',E',n',rfl,rfl,k1,k2,k3⟩|⟨k1,u',k2,k3⟩
   ·have:=R.sep _ _ _ _ b h2 k2 h3 k3;simp only[Loc.tok.injEq]at this;rw[YN hi t (bK hg) t' (bK Fs) h1 this]
   ·have:=R.sep _ _ _ _ b h2 k2 h3 k3;subst this;cases k1
  ·rcases Ew m' v' b Fs Ai with⟨t',E',n',rfl,rfl,k1,k2,k3⟩|⟨k1,u',k2,k3⟩
   ·have:=R.sep _ _ _ _ b h2 k2 h3 k3;subst this;cases h1
   ·exact R.sep _ _ _ _ b h2 k2 h3 k3
 ·rcases Ew m v b hg hb with⟨t,E,n,rfl,rfl,h1,h2,h3⟩|⟨h1,u,h2,h3⟩
  ·rcases R.own _ _ b h2 h3 with h|⟨_,h⟩;· exact .inl h
   ·cases h
  ·rcases R.own _ _ b h2 h3 with h|⟨h,_⟩;· exact .inl h
   ·exact .inr ⟨h,h1⟩
 ·rcases Ew m v b hg hb with⟨t,E,n,rfl,rfl,h1,h2,h3⟩|⟨h1,u,h2,h3⟩;· cases ht
  ·exact R.data _ _ b o h2 h3 h1
theorem CR (l:List (Nat × Nat)){s':St}(h0:XH l 0=0)(hs:K4 (XH l) s s')(hi:Q0 (XH l) (HB s'))(h:W X k s'):W X k s:=
 fun _ a w b cs hf hk hr R=>h _ a w b cs hf hk hr (R.sub l h0 hs hi)
theorem E6 {α:Type}(I:α->Prop)(S:α->St)(μ:α->Nat){c:Code}(x0:α)(h0:I x0)
  (round:∀x,I x->(∀y,I y->μ y<μ x->W X (.inLoop c::k) (S y))->W X (.code c::.inLoop c::k) (S x)):W X (.code (.loop c)::k) (S x0):=by
 refine D4 ?_;have key:∀n x,μ x=n->I x->W X (.code c::.inLoop c::k) (S x):=by
  intro n
  induction n using Nat.strongRecOn with
  | _ n ih=>
   intro x hx hi;exact round x hi fun y hy Ac=>CN (ih (μ y) (hx ▸ Ac) y rfl hy)
 exact key _ x0 rfl h0
end
end
end Go.Proofs.YtkfiobkjflmchaaGreatDoor.Lift
