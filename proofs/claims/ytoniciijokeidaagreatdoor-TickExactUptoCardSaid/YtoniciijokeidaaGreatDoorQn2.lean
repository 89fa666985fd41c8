import Derived.Test.YtoniciijokeidaaGreatDoorQn1
set_option maxHeartbeats 8000000
set_option maxRecDepth 100000
set_option linter.unusedSimpArgs false
set_option linter.unusedVariables false
set_option linter.unnecessarySimpa false
namespace Go.Proofs.YtoniciijokeidaaGreatDoor.Lift
open Go
section
section
variable {X:Ctx}{G:Gh}{s:St}{a:Act}{w:World}
theorem l7 (w:World)(b:Nat)(c:Array Value)(e:TypeId)(h:w.heap[b]? = some (.cells c e (0,0))):w.setRow b c=w:=by
 have Ag:b<w.heap.size:=(Array.getElem?_eq_some_iff.1 h).1;have hv:w.heap[b] = .cells c e (0,0):=(Array.getElem?_eq_some_iff.1 h).2;unfold World.setRow;cases w with
 | mk heap tape drawn os output=>
  congr 1
  apply Array.ext;· simp
  ·intro k h1 h2;simp only[Array.getElem_modify];split;· rename_i hk;subst hk;simp at hv;simp[hv]
   ·rfl
abbrev UZ (off:Nat)(l:List Value)(k:Nat)(c:Array Value):Array Value:=(l.zipIdx k).foldl (fun cs (p:Value × Nat)=>cs.setIfInBounds (off+p.2) p.1) c
theorem K3 {P:Program}(b off:Nat)(e:TypeId):∀(vs:List Value) (k:Nat) (c:Array Value) (w:World),w.heap[b]? = some (.cells c e (0,0))->off+k+vs.length<=c.size->(∀v∈vs,v.oneCell' = true) ->
  (storeCells ⟨b,off,none⟩ vs k).run P w = .ok () (w.setRow b (UZ off vs k c))
 | [],k,c,w,h,_,_=>by simp[storeCells,UZ,l7 w b c e h]
 | v::r,k,c,w,h,hle,h1=>by
  simp only[List.length_cons]at hle;have hi:off+k<c.size:=oO;have Aj:w.cell? ⟨b,off+k,none⟩=some c[off+k]:=by simp[World.cell?,h,hi]
  have hfro:w.frozen? ⟨b,off+k,none⟩=false:=by simp[World.frozen?,h]
  have Fd:(store ((⟨b,off,none⟩:Addr).add k) v).run P w = .ok () (w.setRow b (c.setIfInBounds (off+k) v)):=by
   rw[F0,run_store P w _ v _ (h1 v sS),Aj];simp[hfro,setCell_eq_setRow w b (off+k) c e (0,0) v h]
  have ih:=K3 (P:=P) b off e r (k+1) (c.setIfInBounds (off+k) v) (w.setRow b (c.setIfInBounds (off+k) v)) (setRow_heap w b c _ e _ h) (by simp;omega) (fun x hx=>h1 x (by simp[hx]));simp only[storeCells,Sem.run_bind,Fd,Result.andThen_ok,ih,setRow_setRow,UZ,List.zipIdx_cons,List.foldl_cons]
theorem RI (off:Nat)(vs c:Array Value):UZ off vs.toList 0 c=K1 c off vs:=by
 unfold UZ K1;rw[<- Array.foldl_toList,Array.toList_zipIdx]
theorem zZ {xs:List SV}{vs:Array Value}(h:H0 G w xs vs)(hc:EV xs=true):∀v∈vs.toList,v.oneCell' = true:=by
 intro v hv;obtain⟨i,hi,rfl⟩:=List.mem_iff_getElem.1 hv;have Gg:i<xs.length:=by rw[<- h.1];simpa using hi
 have hx:xs[i]? = some xs[i]:=uB Gg;have hvv:vs[i]? = some (vs.toList[i]):=sS;exact LX.one (h.2 i _ _ hx hvv) ((PU xs).1 hc _ (List.getElem_mem Gg))
theorem Rel.storeRow (R:Rel X G s a w){l:Loc}{cs:List SV}(hl:get s l=some (.row cs))(Ag:l.isTok=false){b:Nat}(hb:BI G l (.row cs)=some b){off:Nat}{xs:List SV}{vs:Array Value}
  (hx:H0 G w xs vs) (hc:EV xs=true) (hle:off+xs.length<=cs.length) :
  ∃w',(storeCells ⟨b,off,none⟩ vs.toList 0).run X.P w = .ok () w'/\Rel X G (CV s l (.row (put cs off xs))) a w':=by
 have hB:KM G w b cs:=by
  have:=R.holds _ _ hl;cases l with
  | loc k=>simp only[BI,uC]at hb;subst hb;exact this
  | heap k=>simp only[BI,uC]at hb;subst hb;exact this
  | slot n=>cases hb
  | tok t=>cases hb
 obtain⟨c,e,h1,h2,h3⟩:=hB;have Bb:off+vs.size<=c.size:=by rw[hx.1];omega
 have Bf:=K3 (P:=X.P) b off e vs.toList 0 c w h1 (by simpa using Bb) (zZ hx hc);rw[RI]at Bf;refine⟨_,Bf,?_⟩;have Ai:∀o,¬G.D b o:=fun o=>R.data l _ b o hl hb Ag;have T:Trans X G a w G a (w.setRow b (K1 c off vs)) (fun b'=>b' = b):=by
  refine⟨rfl,fun h=>h.but h1 fun b' hn=>setRow_other _ _ _ _ hn,rfl,rfl,rfl,sS,fun b' Ab hn=>setRow_other _ _ _ _ hn,fun b' Ab=>?_,fun b' o hd=>⟨hd,?_⟩,fun _ _ h k=>absurd h k,R.nil⟩;· subst Ab;exact (R.own l _ b' hl hb).imp id And.left
  ·exact cell_setRow_other _ _ _ _ (fun e=>by subst e;exact Ai o hd)
 refine R.step T (fun l' u=>l' = l/\u = .row (put cs off xs)) (fun l' u h=>?_) (fun l' u h=>?_) (fun l' u l'' u' b h h' _ _=>h.1.trans h'.1.symm)
 ·rw[C1]at h;by_cases Ha:l=l';· rw[if_pos Ha]at h;cases h;exact .inl ⟨Ha.symm,rfl⟩
  ·rw[if_neg Ha]at h;refine .inr ⟨h,fun _ _=>rfl,fun b' Ab he=>?_,fun _ _=>rfl,fun _ _=>rfl⟩;subst he;exact Ha (R.sep _ _ _ _ b' hl h hb Ab)
 ·obtain⟨rfl,rfl⟩:=h;have Co:=O2 c off vs Bb;have Kb:KM G (w.setRow b (K1 c off vs)) b (put cs off xs):=by
   refine⟨_,e,setRow_heap _ _ _ _ _ _ h1,?_,fun i x hi=>?_⟩;· rw[Co.1,U5 _ _ _ hle];exact h2
   rw[UX _ _ _ _ hle]at hi;split at hi
   ·rename_i Ip;have hj:i - off<vs.size:=by rw[hx.1];exact (uA hi).1
    refine⟨(PU xs).1 hc x (uE hi),vs[i - off],?_,(hx.2 _ _ _ hi (uG hj)).mono T.grow (fun _ _=>rfl) (fun _ _=>rfl)⟩;rw[Co.2,if_pos ⟨Ip.1,oO⟩];exact uG hj
   ·rename_i Ip;obtain⟨k1,v,k2,k3⟩:=h3 i x hi;refine⟨k1,v,?_,k3.mono T.grow (fun _ _=>rfl) (fun _ _=>rfl)⟩;rw[Co.2,if_neg (by rw[hx.1];exact Ip)];exact k2
  refine⟨?_,fun b' Ab=>?_⟩
  ·cases l' with
   | loc k=>simp only[BI,uC]at hb;subst hb;exact Kb
   | heap k=>simp only[BI,uC]at hb;subst hb;exact Kb
   | slot n=>cases hb
   | tok t=>cases hb
  ·have:b' = b:=by
    cases l' <;> simp_all[BI]
   subst this;exact⟨.inr rfl,R.own l' _ b' hl hb,fun _ o=>Ai o⟩
theorem TM {P:Program}{t:TypeId}{agg:Bool}{n:Nat}(hl:E9 P t=some (agg,n)){v:Value}(hv:v.cells.size=n){b off:Nat}{w':World}(h:(storeCells ⟨b,off,none⟩ v.cells.toList 0).run P w = .ok () w') :
  (Instr.storeAt t (.pointer (some ⟨b,off,none⟩)) v).run P w = .ok () w':=by
 obtain⟨-,h2⟩:=Z5 (w:=w) hl;simp[Instr.storeAt,Instr.sureAddr,storeVar,h2,hv,h]
theorem RJ {o:Oper}{t:TypeId}{p x:Operand}(ho:o.op = .store t p x)(hd:o.dst=none){k off:Nat}(hp:D4 X (get s) p=some (.loc k off)){cs:List SV}(hg:get s (.loc k)=some (.row cs))
  {agg:Bool} {n:Nat} (hl:E9 X.P t=some (agg,n)) {y:SV} (hy:D4 X (get s) x=some y) (hc:(BV y).length=n/\off+n<=cs.length) (Aj:EV (BV y)=true) :
  EU X s o (CV s (.loc k) (.row (put cs off (BV y)))):=by
 intro G a w R next Q hK
 have Ak:H0 G w (BV y) (a.eval x).cells:=I8 R.nil (AD R hy);obtain⟨w',h1,h2⟩:=R.storeRow hg rfl (b:=G.ν k) rfl Ak Aj (by rw[hc.1];exact hc.2);have hpv:a.eval p = .pointer (some ⟨G.ν k,off,none⟩):=AD R hp;refine PT (by first|exact DU h|(intro c e;rw[ho]at e;cases e)) ?_;have h3:=TM (w:=w) hl (by rw[Ak.1,hc.1]) h1;rw[<- hpv]at h3;simp only[execOp,ho,Sem.run_bind,h3,Result.andThen_ok,Sem.run_pure,kZ,hd];exact hK G _ w' h2
def asV:SV->Option SV
 | .v x=>some (.v x)
 | .own _ els=>some (.v (.sl els))
 | _=>none
def WN:List SV->Option (List SV)
 | []=>some []
 | x::r=>match asV x,WN r with
  | some y,some ys=>some (y::ys)
  | _,_=>none
theorem l8:∀{xs ys:List SV},WN xs=some ys->xs.length=ys.length/\∀(i:Nat) (y:SV),ys[i]? = some y->∃x,xs[i]? = some x/\asV x=some y
 | [],ys,h=>by cases h;simp
 | x::r,ys,h=>by
  simp only[WN]at h;split at h
  ·rename_i y zs hy Lr;cases h;obtain⟨h1,h2⟩:=l8 Lr;refine⟨by simp[h1],fun i c hc=>?_⟩;cases i with
   | zero=>simp at hc;subst hc;exact⟨x,rfl,hy⟩
   | succ i=>obtain⟨z,hz⟩:=h2 i c (by simpa using hc);exact⟨z,by simpa using hz.1,hz.2⟩
  ·cases h
theorem H0.asV {xs ys:List SV}{c:Array Value}(h:H0 G w xs c)(hy:WN xs=some ys):H0 G w ys c:=by
 obtain⟨h1,h2⟩:=l8 hy;refine⟨h.1.trans h1,fun i y v hi hv=>?_⟩;obtain⟨x,hx,Qe⟩:=h2 i y hi;have hr:=h.2 i x v hx hv;cases x with
 | v x=>cases Qe;exact hr
 | own t els=>cases Qe;exact hr.2
 | loc=>cases Qe
 | dp=>cases Qe
 | ag=>cases Qe
theorem QU {o:Oper}{t:TypeId}{p x:Operand}(ho:o.op = .store t p x)(hd:o.dst=none){b off:Nat}(hp:D4 X (get s) p=some (.v (.prim (.pointer (some ⟨b,off,none⟩))))){cs:List SV}(hg:get s (.heap b)=some (.row cs))
  {agg:Bool} {n:Nat} (hl:E9 X.P t=some (agg,n)) {y:SV} (hy:D4 X (get s) x=some y) {ys:List SV} (Ko:WN (BV y)=some ys) (hc:ys.length=n/\off+n<=cs.length) (Aj:EV ys=true) :
  EU X s o (CV s (.heap b) (.row (put cs off ys))):=by
 intro G a w R next Q hK
 have Zp:H0 G w (BV y) (a.eval x).cells:=I8 R.nil (AD R hy);have Ak:=Zp.asV Ko;obtain⟨w',h1,h2⟩:=R.storeRow hg rfl (b:=b) rfl Ak Aj (by rw[hc.1];exact hc.2);have hpv:a.eval p = .pointer (some ⟨b,off,none⟩):=(BT (AD R hp)).1;refine PT (by first|exact DU h|(intro c e;rw[ho]at e;cases e)) ?_;have h3:=TM (w:=w) hl (by rw[Ak.1,hc.1]) h1;rw[<- hpv]at h3;simp only[execOp,ho,Sem.run_bind,h3,Result.andThen_ok,Sem.run_pure,kZ,hd];exact hK G _ w' h2
def DW (P:Program)(t:TypeId):Option (Nat × Nat):=
 match P.underlying t with
 | some (.slice e)=>
  match P.info? e with
  | some i=>match i.zero with
   | some z=>if z.cells.size=i.size then some (i.size,i.bytes) else none
   | none=>none
  | none=>none
 | _=>none
theorem MU {P:Program}{t E B:Nat}(h:DW P t=some (E,B)):∃e i z,P.underlying t=some (.slice e)/\P.info? e=some i/\i.zero=some z/\z.cells.size=E/\i.size=E/\i.bytes=B:=by
 unfold DW at h;split at h
 ·rename_i e hu;split at h
  ·rename_i i hi;split at h
   ·rename_i z hz;split at h
    ·rename_i hs;simp only[uC,uD]at h;exact⟨e,i,z,hu,hi,hz,oO,h.1,h.2⟩
    ·cases h
   ·cases h
  ·cases h
 ·cases h
def Jj1 (X:Ctx)(g:Rd)(E:Nat):Nat->List (Nat × Operand)->Option (List (List DV))
 | _,[]=>some []
 | n,(i,x)::r=>
  if i=n then
   match D4 X g x with
   | some y=>match GZ (BV y) with
    | some ds=>if ds.length=E then if HE ds then
      match Jj1 X g E (n+1) r with
      | some rest=>some (ds::rest)
      | none=>none
     else none else none
    | none=>none
   | none=>none
  else none
theorem PV (R:Rel X G s a w)(E:Nat):∀(parts:List (Nat × Operand)) (n:Nat) (els:List (List DV)) (c:Array Value),Jj1 X (get s) E n parts=some els->(n+els.length) * E<=c.size ->
  (∀e∈els,e.length=E)/\(∀e∈els,∀d∈e,DV.isCell d=true)/\parts.length=els.length /\
  ∃c',Instr.fill (fun i=>some (i * E,E)) c (parts.map fun q=>(q.1,a.eval q.2))=some c'/\c'.size=c.size/\(∀k,k<n * E->c'[k]? = c[k]?) /\
   ∀(i j:Nat) (e:List DV) (d:DV),els[i]? = some e->e[j]? = some d->∃v,c'[(n+i) * E+j]? = some v/\RV G.D w d v
 | [],n,els,c,h,hle=>by cases h;exact⟨sS,sS,rfl,c,rfl,rfl,fun _ _=>rfl,sS⟩
 | (i,x)::r,n,els,c,h,hle=>by
  simp only[Jj1]at h;split at h
  ·rename_i Ip;subst Ip;split at h
   ·rename_i y hy;split at h
    ·rename_i ds Fs;split at h
     ·rename_i hlen;split at h
      ·rename_i Sf;split at h
       ·rename_i rest Ac;cases h;have Ak:H0 G w (BV y) (a.eval x).cells:=I8 R.nil (AD R hy);obtain⟨t1,t2⟩:=OV Fs;have hvs:(a.eval x).cells.size=E:=by rw[Ak.1,t1,hlen]
        have hm:(i+(rest.length+1)) * E=i * E+E+rest.length * E:=by rw[Nat.add_mul,Nat.add_mul,Nat.one_mul];omega
        simp only[List.length_cons]at hle;rw[hm]at hle;have Co:=O2 c (i * E) (a.eval x).cells (by rw[hvs];omega);obtain⟨q1,q2,q3,c',f1,f2,f3,f4⟩:=PV R E r (i+1) rest (K1 c (i * E) (a.eval x).cells) Ac (by rw[Co.1,Nat.add_mul,Nat.add_mul,Nat.one_mul];omega);refine⟨fun e he=>?_,fun e he=>?_,by simp[q3],c',?_,by rw[f2,Co.1],fun k hk=>?_,fun j l e d he hd=>?_⟩
        ·rcases List.mem_cons.1 he with rfl|he;· exact hlen
         ·exact q1 e he
        ·rcases List.mem_cons.1 he with rfl|he;· exact (MT _).1 Sf
         ·exact q2 e he
        ·simp only[List.map_cons,Instr.fill];rw[if_neg];· exact f1
         ·simp only[Bool.or_eq_true,decide_eq_true_eq,not_or];omega
        ·rw[f3 k (by rw[Nat.add_mul];omega),Co.2,if_neg oO]
        ·cases j with
         | zero=>
          simp at he;subst he;have hl:l<E:=by rw[<- hlen];exact (uA hd).1
          obtain⟨z,hz,hzd⟩:=t2 l d hd;have Us:l<(a.eval x).cells.size:=oO;refine⟨(a.eval x).cells[l],?_,JM hzd (Ak.2 l z _ hz (uG Us))⟩;rw[Nat.add_zero,f3 _ (by rw[Nat.add_mul,Nat.one_mul];omega),Co.2,if_pos oO,Nat.add_sub_cancel_left,uG Us]
         | succ j=>
          obtain⟨v,hv,hr⟩:=f4 j l e d (by simpa using he) hd;exact⟨v,by rw[show i+(j+1)=i+1+j from oO];exact hv,hr⟩
       ·cases h
      ·cases h
     ·cases h
    ·cases h
   ·cases h
  ·cases h
def EB (D:Nat->Nat->Prop)(b lo hi:Nat):Nat->Nat->Prop:=fun b' o=>D b' o\/(b' = b/\lo<=o/\o<hi)
theorem RK (R:Rel X G s a w){t E B len:Nat}(he:DW X.P t=some (E,B)){parts:Array (Nat × Operand)}{els:List (List DV)}(h:Jj1 X (get s) E 0 parts.toList=some els)(hlen:els.length=len)(hb:len * E<=16777216)(Bt:len<=HL) :
  ∃c e,(Instr.buildSlice t len (parts.map fun (i,x)=>(i,a.eval x))).run X.P w = .ok (.slice (some ⟨w.heap.size,0,none⟩) len len) (w.alloc (.cells c e))/\c.size=len * E /\
   RV (EB G.D w.heap.size 0 (len * E)) (w.alloc (.cells c e)) (.sl els) (.slice (some ⟨w.heap.size,0,none⟩) els.length len):=by
 obtain⟨e,i,z,hu,hi,hz,Lr,Nj,Mt⟩:=MU he;subst hlen;have Oq:((Array.range (els.length * E)).map fun k=>(if els.length * E=0 then #[] else z.cells)[k % (if els.length * E=0 then #[] else z.cells).size]!).size=els.length * E:=sS;obtain⟨q1,q2,q3,c',f1,f2,f3,f4⟩:=PV R E parts.toList 0 els ((Array.range (els.length * E)).map fun k=>(if els.length * E=0 then #[] else z.cells)[k % (if els.length * E=0 then #[] else z.cells).size]!) h (by rw[Oq,Nat.zero_add];exact Nat.le_refl _);rw[Oq]at f2;refine⟨c',e,?_,f2,?_⟩
 ·have Ba:¬(els.length * E > 2 ^ 24):=oO;have hf:Instr.fill (fun k=>some (k * E,E)) ((Array.range (els.length * E)).map fun k=>(if els.length * E=0 then #[] else z.cells)[k % (if els.length * E=0 then #[] else z.cells).size]!) ((parts.map fun (q:Nat × Operand)=>(q.1,a.eval q.2)).toList)=some c':=by
   rw[Array.toList_map];exact f1
  unfold Instr.buildSlice;simp only[run_underlying hu,sizeOf,typeInfo,hi,Nj,Sem.run_bind,Sem.run_pure,run_program,Result.andThen_ok,Ba,if_false];by_cases h0:els.length * E=0
  ·simp only[if_pos h0]at hf ⊢;simp only[Sem.run_bind,Sem.run_pure,Result.andThen_ok,hf,newRow,run_newObj];rfl
  ·simp only[if_neg h0]at hf ⊢;simp only[zeroValue,typeInfo,run_program,hi,hz,Sem.run_bind,Sem.run_pure,Result.andThen_ok,hf,newRow,run_newObj];rfl
 ·refine .sl els w.heap.size 0 els.length E (fun i j=>(c'[i * E+j]?).getD undef) Bt (Nat.le_refl _) q1 q2 (fun i j Gg hj=>?_) (fun i j Gg hj=>.inr ⟨rfl,Nat.zero_le _,?_⟩) (fun i j e' d Lf hd=>?_)
  ·have Ag:i * E+j<c'.size:=by
    rw[f2]
    calc i * E+j<i * E+E:=oO
     _=(i+1) * E:=by rw[Nat.add_mul,Nat.one_mul]
     _<=els.length * E:=Nat.mul_le_mul_right _ Gg
   simp[World.cell?_alloc_new,Ag]
  ·calc 0+(i * E+j)<i * E+E:=oO
     _=(i+1) * E:=by rw[Nat.add_mul,Nat.one_mul]
     _<=els.length * E:=Nat.mul_le_mul_right _ Gg
  ·obtain⟨v,hv,hr⟩:=f4 i j e' d Lf hd;rw[Nat.zero_add]at hv;simp only[hv,Option.getD_some];exact hr.mono (fun b o hd=>⟨.inl hd,World.cell?_alloc_lt _ _ _ (R.wf.lt hd)⟩)
theorem U7 (R:Rel X G s a w){c:Array Value}{e:TypeId}{hi:Nat}(hh:hi<=c.size){G':Gh}(hD:G'.D=EB G.D w.heap.size 0 hi)(hn:G'.τ 0=(none,0)):Trans X G a w G' a (w.alloc (.cells c e)) (fun _=>False):=by
 refine⟨rfl,fun h=>h.heap fun b hb=>DL w _ b hb,rfl,rfl,rfl,sS,fun b hb _=>DL w _ b hb,fun _ h=>h.elim,fun b o hd=>⟨by rw[hD];exact .inl hd,World.cell?_alloc_lt _ _ _ (R.wf.lt hd)⟩,fun b o h k=>?_,hn⟩;rw[hD]at h;rcases h with h|⟨rfl,h1,h2⟩;· exact absurd h k
 ·refine⟨.inl (Nat.le_refl _),c[o]'oO,?_⟩;rw[World.cell?_alloc_new];exact uG oO
theorem QV {o:Oper}{t len E B:Nat}{parts:Array (Nat × Operand)}(ho:o.op = .buildSlice t len parts){d:Nat}(hd:o.dst=some d)(hn:d<X.n)(he:DW X.P t=some (E,B)){els:List (List DV)}
  (h:Jj1 X (get s) E 0 parts.toList=some els) (hc:els.length=len/\len * E<=16777216/\len<=HL):EU X s o (CV s (.slot d) (.one (.v (.sl els)))):=by
 intro G a w R next Q hK
 obtain⟨c,e,h1,h2,h3⟩:=RK R he h hc.1 hc.2.1 hc.2.2;refine PT (by first|exact DU h|(intro c e;rw[ho]at e;cases e)) ?_;simp only[execOp,ho,Sem.run_bind,h1,Result.andThen_ok,Sem.run_pure,E8,hd];have T:Trans X G a w { G with D:=EB G.D w.heap.size 0 (len * E) } a (w.alloc (.cells c e)) (fun _=>False):=U7 R (hi:=len * E) oO rfl R.nil;refine hK { G with D:=EB G.D w.heap.size 0 (len * E) } _ _ (R.setSlot T rfl rfl (fun _ h=>h) hn ?_);show RV (EB G.D w.heap.size 0 (len * E)) _ _ _;rw[<- hc.1]at h3 ⊢;exact h3
end
end
section
section
variable {X:Ctx}{G:Gh}{s:St}{a:Act}{w:World}
def V0 (D:Nat->Nat->Prop)(w:World)(E:Nat)(els:List (List DV))(f:Nat->Value):Prop:=
 ∀(i j:Nat) (e:List DV) (d:DV),els[i]? = some e->e[j]? = some d->RV D w d (f (i * E+j))
theorem V0.mono {D D':Nat->Nat->Prop}{w w':World}{E:Nat}{els:List (List DV)}{f:Nat->Value}(g:OJ D w D' w')(h:V0 D w E els f):V0 D' w' E els f:=
 fun i j e d he hd=>(h i j e d he hd).mono g
theorem N9 {n E i j:Nat}(hi:i<n)(hj:j<E):i * E+j<n * E:=by
 calc i * E+j<i * E+E:=oO
  _=(i+1) * E:=by rw[Nat.add_mul,Nat.one_mul]
  _<=n * E:=Nat.mul_le_mul_right _ hi
theorem V1 {D:Nat->Nat->Prop}{w:World}{els:List (List DV)}{v:Value}{E:Nat}(h:RV D w (.sl els) v)(hE:∀e∈els,e.length=E) :
  (∀e∈els,∀c∈e,DV.isCell c=true)/\∃f,V0 D w E els f/\(∀k,k<els.length * E->(f k).oneCell' = true) /\
   (els=[]/\(∃b cap,v = .slice b 0 cap)\/∃b o cap,v = .slice (some ⟨b,o,none⟩) els.length cap/\∀k,k<els.length * E->w.cell? ⟨b,o+k,none⟩=some (f k)/\D b (o+k)):=by
 cases h with
 | sl0 b cap=>exact⟨sS,fun _=>undef,by intro _ _ e d he;simp at he,sS,.inl ⟨rfl,b,cap,rfl⟩⟩
 | sl _ b o cap E' val hlen Bj Lz Aj hc hD hh=>
  refine⟨Aj,fun k=>val (k / E) (k % E),fun i j e d he hd=>?_,fun k hk=>?_,?_⟩
  ·have hj:j<E:=by rw[<- hE e (uE he)];exact (uA hd).1
   have h1:(i * E+j) / E=i:=by rw[Nat.mul_comm,Nat.mul_add_div oO];simp[Nat.div_eq_of_lt hj]
   have h2:(i * E+j) % E=j:=by rw[Nat.mul_comm,Nat.mul_add_mod];exact Nat.mod_eq_of_lt hj
   simp only[h1,h2];exact hh i j e d he hd
  ·have Zu:0<E:=by rcases Nat.eq_zero_or_pos E with h0|h0 <;> simp_all
   have hi:k / E<els.length:=(Nat.div_lt_iff_lt_mul Zu).2 hk;have he:els[k / E]? = some els[k / E]:=uB hi;have Cq:=hE _ (List.getElem_mem hi);have hj:k % E<els[k / E].length:=by rw[Cq];exact Nat.mod_lt _ Zu
   have hd:els[k / E][k % E]? = some els[k / E][k % E]:=uB hj;exact RV.one (hh _ _ _ _ he hd) (Aj _ (List.getElem_mem hi) _ (List.getElem_mem hj))
  ·cases Jk:els with
   | nil=>exact .inl ⟨rfl,_,cap,by simp;rfl⟩
   | cons e0 r=>
    rw[<- Jk];have Rh:E' = E:=by rw[<- Lz e0 (by simp[Jk]),hE e0 (by simp[Jk])]
    subst Rh;refine .inr ⟨b,o,cap,rfl,fun k hk=>?_⟩;have Zu:0<E':=by rcases Nat.eq_zero_or_pos E' with h0|h0 <;> simp_all
    have hi:k / E'<els.length:=(Nat.div_lt_iff_lt_mul Zu).2 hk;have hj:k % E'<E':=Nat.mod_lt _ Zu;have e1:k / E' * E'+k % E' = k:=by rw[Nat.mul_comm];exact Nat.div_add_mod k E'
    have:=hc _ _ hi hj;have hd:=hD _ _ hi hj;rw[e1]at this hd;exact⟨this,hd⟩
def WO (f:Nat->Value)(n:Nat):Array Value:=((List.range n).map f).toArray
theorem LK (f:Nat->Value)(n:Nat):(WO f n).size=n:=by simp[WO]
theorem O3 (f:Nat->Value)(n k:Nat)(h:k<n):(WO f n)[k]? = some (f k):=by simp[WO,h]
theorem M0 {P:Program}{w:World}(b o n:Nat)(f:Nat->Value)(h:∀k,k<n->w.cell? ⟨b,o+k,none⟩=some (f k)):(loadCells ⟨b,o,none⟩ n).run P w = .ok (WO f n) w:=by
 have:=run_loadCells_list (P:=P) w ⟨b,o,none⟩ ((List.range n).map f) (fun j v hj=>by
  have Lb:j<n:=by have:=(uA hj).1;simpa using this
  rw[F0];simp[Lb]at hj;rw[<- hj];exact h j Lb)
 simpa [WO] using this
theorem EL {P:Program}{D:Nat->Nat->Prop}{w:World}{els:List (List DV)}{v:Value}{E:Nat}{f:Nat->Value}
  (h:els=[]/\(∃b cap,v = .slice b 0 cap)\/∃b o cap,v = .slice (some ⟨b,o,none⟩) els.length cap/\∀k,k<els.length * E->w.cell? ⟨b,o+k,none⟩=some (f k)/\D b (o+k)) :
  (Builtin.firstCells E els.length v).run P w = .ok (WO f (els.length * E)) w:=by
 rcases h with⟨rfl,b,cap,rfl⟩|⟨b,o,cap,rfl,hc⟩
 ·cases b with
  | none=>simp[Builtin.firstCells,WO]
  | some p=>simp[Builtin.firstCells,WO,loadCells,loadCellsFrom]
 ·simp only[Builtin.firstCells];exact M0 b o _ f (fun k hk=>(hc k hk).1)
theorem V0.join {D:Nat->Nat->Prop}{w:World}{E:Nat}{els ys:List (List DV)}{f g h:Nat->Value}(hf:V0 D w E els f)(hg:V0 D w E ys g)(hE:∀e∈els,e.length=E)(Lz:∀e∈ys,e.length=E)
  (h1:∀k,k<els.length * E->h k=f k) (h2:∀k,k<ys.length * E->h (els.length * E+k)=g k):V0 D w E (els++ys) h:=by
 intro i j e d he hd;by_cases hi:i<els.length
 ·rw[List.getElem?_append_left hi]at he;have hj:j<E:=by rw[<- hE e (uE he)];exact (uA hd).1
  rw[h1 _ (N9 hi hj)];exact hf i j e d he hd
 ·rw[List.getElem?_append_right oO]at he;have hj:j<E:=by rw[<- Lz e (uE he)];exact (uA hd).1
  have Gg:i - els.length<ys.length:=(uA he).1;have e1:i * E+j=els.length * E+((i - els.length) * E+j):=by
   have:i=els.length+(i - els.length):=oO
   conv=>lhs;rw[this,Nat.add_mul]
   omega
  rw[e1,h2 _ (N9 Gg hj)];exact hg _ j e d he hd
theorem PW {D:Nat->Nat->Prop}{w:World}{E b o cap:Nat}{els:List (List DV)}{f:Nat->Value}(hb:els.length<=HL)(Bj:els.length<=cap)(hE:∀e∈els,e.length=E)(Aj:∀e∈els,∀c∈e,DV.isCell c=true)
  (hc:∀k,k<els.length * E->w.cell? ⟨b,o+k,none⟩=some (f k)/\D b (o+k)) (h:V0 D w E els f):RV D w (.sl els) (.slice (some ⟨b,o,none⟩) els.length cap):=
 .sl els b o cap E (fun i j=>f (i * E+j)) hb Bj hE Aj (fun i j hi hj=>(hc _ (N9 hi hj)).1) (fun i j hi hj=>(hc _ (N9 hi hj)).2) h
theorem Rel.ownNew (R:Rel X G s a w){t d E n:Nat}(hd:d<X.n)(hf:DQ d s=true){G':Gh}{w':World}{B:Nat->Prop}(T:Trans X G a w G' a w' B)(hν:G'.ν=G.ν)(hτ:∀k,k≠d->G'.τ k=G.τ k)
  (hB:∀b,B b->∃E len,get s (.tok t)=some (.tk E len)/\HA G t len=some b) {els:List (List DV)} {v:Value} (hv:LX G' w' (.own d els) v) (Jp:MB G' w' d E n)
  (Ff:∀b,HA G' d n=some b->w.heap.size<=b\/B b):Rel X G' (CV (CV (OU s (.tok t)) (.slot d) (.one (.own d els))) (.tok d) (.tk E n)) (a.put (some d) v) w':=by
 have hp:=IR a (some d) v;have T':Trans X G a w G' (a.put (some d) v) w' B:=⟨hp.1,fun h=>(T.defers h).put hp.2,T.os,T.tape,T.output,T.size,T.keep,T.own,T.grow,T.new,T.nil⟩;refine R.step T' (fun l u=>(l = .slot d/\u = .one (.own d els))\/(l = .tok d/\u = .tk E n)) (fun l u h=>?_) (fun l u h=>?_) (fun l u l' u' b h h' hb Ab=>?_)
 ·rw[C1,C1,LH]at h;by_cases h1:Loc.tok d=l;· rw[if_pos h1]at h;cases h;exact .inl (.inr ⟨h1.symm,rfl⟩)
  ·rw[if_neg h1]at h;by_cases h2:Loc.slot d=l;· rw[if_pos h2]at h;cases h;exact .inl (.inl ⟨h2.symm,rfl⟩)
   ·rw[if_neg h2]at h;by_cases h3:Loc.tok t=l;· rw[if_pos h3]at h;cases h
    ·rw[if_neg h3]at h;refine .inr ⟨h,fun n hn=>KW _ _ _ _ (fun e=>h2 (by rw[hn,e])),fun b hb hBb=>?_,fun k _=>by rw[hν],fun k hk=>hτ k (pU hf h k hk)⟩;obtain⟨E',len,hg,Ab⟩:=hB b hBb;exact h3 (R.sep _ _ _ _ b hg h Ab hb)
 ·rcases h with⟨rfl,rfl⟩|⟨rfl,rfl⟩
  ·refine⟨?_,fun b hb=>by cases hb⟩;show LX G' w' (.own d els) _;rw[I9 _ _ _ (by rw[R.size];exact hd)];exact hv
  ·refine⟨Jp,fun b hb=>?_⟩;have h1:=Ff b hb;refine⟨h1,.inl ?_,fun h=>by cases h⟩;rcases h1 with h1|h1;· exact Nat.le_trans R.ext.size h1
   ·obtain⟨E',len,hg,Ab⟩:=hB b h1;rcases R.own _ _ b hg Ab with h2|⟨_,h2⟩;· exact h2
    ·cases h2
 ·rcases h with⟨rfl,rfl⟩|⟨rfl,rfl⟩;· cases hb
  ·rcases h' with⟨rfl,rfl⟩|⟨rfl,rfl⟩;· cases Ab
   ·rfl
theorem fB (n:Nat):∀(r c:Nat),c<n->Builtin.growBy n r c<=2 * n+200
 | 0,c,h=>by simp[Builtin.growBy];omega
 | r+1,c,h=>by
  simp only[Builtin.growBy];rw[if_neg oO];by_cases h2:c+(c+768) / 4<n;· exact fB n r _ h2
  ·cases r with
   | zero=>simp[Builtin.growBy];omega
   | succ r=>simp only[Builtin.growBy];rw[if_pos oO];omega
theorem QW {need cap:Nat}(h:cap<need):Builtin.nextslicecap need cap<=2 * need+600:=by
 unfold Builtin.nextslicecap;split;· omega
 ·split;· omega
  ·have:=fB need 4 cap h;omega
def FY (G:Gh)(D:Nat->Nat->Prop)(d:Nat)(h:Option Addr × Nat):Gh:={ D:=D,ν:=G.ν,τ:=fun k=>if k=d then h else G.τ k }
theorem JA {P:Program}{w:World}{t ty t2 E B:Nat}(he:DW P t=some (E,B))(h2:(DB P t2).isSome=true){base:Option Addr}{len cap:Nat}{x:Value}{n:Nat}{new:Array Value}
  (hx:(Builtin.lenOf x).run P w = .ok n w) (hn:(Builtin.firstCells E n x).run P w = .ok new w) (hle:len+n<=cap) {w':World} (Fd:match base with|some a=>(storeCells (a.add (len * E)) new.toList 0).run P w = .ok () w' | none=>w' = w) :
  (Builtin.append_ #[t,t2] ty #[.slice base len cap,x]).run P w = .ok (.slice base (len+n) cap) w':=by
 obtain⟨e,i,z,hu,hi,hz,Lr,Nj,Mt⟩:=MU he;obtain⟨E2,Dk⟩:=Option.isSome_iff_exists.1 h2;obtain⟨e2,i2,Wy,-,-⟩:=IQ Dk;unfold Builtin.append_;cases base with
 | none=>
  subst Fd;simp[run_underlying hu,run_underlying Wy,sizeOf,typeInfo,hi,Nj,hx,hn,hle]
 | some p=>
  simp only at Fd;simp[run_underlying hu,run_underlying Wy,sizeOf,typeInfo,hi,Nj,hx,hn,hle,Fd]
theorem ZO {P:Program}{w:World}{t ty t2 E B:Nat}(he:DW P t=some (E,B))(hB:0<B/\B<=1024)(h2:(DB P t2).isSome=true){base:Option Addr}{len cap:Nat}{x:Value}{n:Nat}{old new:Array Value}
  (hx:∀w',w'.heap=w.heap->(Builtin.lenOf x).run P w' = .ok n w') (hn:∀w',w'.heap=w.heap->(Builtin.firstCells E n x).run P w' = .ok new w') (ho:∀w',w'.heap=w.heap->(Builtin.firstCells E len (.slice base len cap)).run P w' = .ok old w')
  (hle:¬len+n<=cap) (Al:len+n<=HL) (h1:old.size=len * E) (h3:new.size=n * E) :
  ∃c e nc,(Builtin.append_ #[t,t2] ty #[.slice base len cap,x]).run P w = .ok (.slice (some ⟨w.heap.size,0,none⟩) (len+n) nc) (w.drew.alloc (.cells c e))/\len+n<=nc/\c.size=nc * E/\(∀k,k<len * E->c[k]? = old[k]?)/\(∀k,k<n * E->c[len * E+k]? = new[k]?):=by
 obtain⟨e,i,z,hu,hi,hz,Lr,Nj,Mt⟩:=MU he;obtain⟨E2,Dk⟩:=Option.isSome_iff_exists.1 h2;obtain⟨e2,i2,Wy,-,-⟩:=IQ Dk;unfold HL at Al;have Bj:¬(Builtin.nextslicecap (len+n) cap * B > 2 ^ 48):=by
  have:=QW (need:=len+n) (cap:=cap) oO;have:Builtin.nextslicecap (len+n) cap * B<=(2 * (len+n)+600) * 1024:=Nat.mul_le_mul this hB.2;omega
 have hmax:¬((((len+n:Nat):Int) > IntKind.i64.max)/\(False\/i.bytes=0)):=by
  rintro⟨_,h|h⟩;· exact h
  ·omega
 let q:Question:=.appendCap (len+n) cap e
 let nc:=q.cut (w.tape w.drawn q)
 have Ic:len+n<=nc:=by show len+n<=_;simp[nc,q,Question.cut]
 refine⟨old++new++Builtin.zeroCells z.cells (nc - (len+n)),e,nc,?_,Ic,?_,fun k hk=>?_,fun k hk=>?_⟩
 ·unfold Builtin.append_;have Eu:¬(2 ^ 48<Builtin.nextslicecap (len+n) cap * B):=Bj;simp[run_underlying hu,run_underlying Wy,sizeOf,typeInfo,hi,Nj,hx w rfl,hle,Mt,Eu,Question.forced,ho (w.drew) rfl,hn (w.drew) rfl,zeroValue,hz,newRow,nc,q];intro h;omega
 ·simp[h1,h3,Builtin.zeroCells,Lr];rw[<- Nat.add_mul,<- Nat.add_mul]
  congr 1;omega
 ·rw[Array.getElem?_append_left (by simp[h1,h3];omega),Array.getElem?_append_left oO]
 ·rw[Array.getElem?_append_left (by simp[h1,h3];omega),Array.getElem?_append_right oO,h1]
  congr 1;omega
end
end
section
section
variable {X:Ctx}{G:Gh}{s:St}{a:Act}{w:World}
theorem NA {P:Program}{w:World}{els:List (List DV)}{v:Value}(hr:RV G.D w (.sl els) v)(w':World):(Builtin.lenOf v).run P w' = .ok els.length w':=by
 cases hr <;> simp[Builtin.lenOf]
theorem IA {w w':World}(h:w'.heap=w.heap)(ad:Addr):w'.cell? ad=w.cell? ad:=by simp[World.cell?,h]
theorem zdg (R:Rel X G s a w){x:Operand}{t:Nat}{els:List (List DV)}(h:D4 X (get s) x=some (.own t els)):a.eval x = .slice (G.τ t).1 els.length (G.τ t).2/\RV G.D w (.sl els) (a.eval x):=AD R h
def MK (g:Rd)(t E len:Nat):Prop:=t=0\/g (.tok t)=some (.tk E len)
theorem XP {o:Oper}{x y:Operand}{T T2:TypeId}(ho:o.op = .call { callee:=.builtin .append,args:=#[x,y],argTypes:=#[T,T2] }){d:Nat}(hd:o.dst=some d)(hn:d<X.n)(Jr:d≠0)(hf:DQ d s=true)
  {E B:Nat} (he:DW X.P T=some (E,B)) (hB:0<B/\B<=1024) (h2:(DB X.P T2).isSome=true) {t:Nat} {els ys:List (List DV)} (hx:D4 X (get s) x=some (.own t els)) (hy:(D4 X (get s) y).bind LJ=some ys)
  (Jp:MK (get s) t E els.length) (Al:els.length+ys.length<=HL) (Ek:∀e∈els,e.length=E) (Dk:∀e∈ys,e.length=E) :
  EU X s o (CV (CV (OU s (.tok t)) (.slot d) (.one (.own d (els++ys)))) (.tok d) (.tk E (els.length+ys.length))):=by
 intro G a w R next Q hK
 obtain⟨hv,hr⟩:=zdg R hx;obtain⟨q,hq,Ju⟩:=Option.bind_eq_some_iff.1 hy;obtain⟨yb,Up,Yz,Mu,-⟩:=HQ Ju (AD R hq);obtain⟨c1,f,f1,f2,f3⟩:=V1 hr Ek;obtain⟨c2,g,g1,g2,g3⟩:=V1 Mu Dk;have Sg:∀e∈els++ys,e.length=E:=fun e h=>(List.mem_append.1 h).elim (Ek e) (Dk e);have Sz:∀e∈els++ys,∀c∈e,DV.isCell c=true:=fun e h=>(List.mem_append.1 h).elim (c1 e) (c2 e);have hlen:(els++ys).length=els.length+ys.length:=List.length_append;have Dr:∀(v:Value) (w':World),(Builtin.append_ #[T,T2] o.type #[a.eval x,a.eval y]).run X.P w = .ok v w'->(execOp a.eval o).run X.P w = .ok (.value v) w':=by
  intro v w' h;simp[execOp,ho,resolve,invoke,builtin,h]
 have Qs:∀(v:Value) (w':World) (G':Gh),(Builtin.append_ #[T,T2] o.type #[a.eval x,a.eval y]).run X.P w = .ok v w' ->
   Rel X G' (CV (CV (OU s (.tok t)) (.slot d) (.one (.own d (els++ys)))) (.tok d) (.tk E (els.length+ys.length))) (a.put (some d) v) w'->o.wpIn X.F 0 X.P a w next Q:=by
  intro v w' G' h hR;refine PT (by first|exact DU h|(intro c e;rw[ho]at e;cases e)) ?_;rw[Dr v w' h,E8,hd];exact hK G' _ w' hR
 have Zi:MB G w t E els.length:=by
  rcases Jp with rfl|h
  ·have h0:=R.nil;rw[h0]at hv;simp only[MB,h0,and_true];rw[hv]at hr;cases hr;rfl
  ·exact R.holds _ _ h
 have Kf:∀D h,(FY G D d h).τ 0=(none,0):=fun D h=>by
  simp only[FY,if_neg (Ne.symm Jr)];exact R.nil
 have hBt:∀b,(∃n,t≠0/\n=els.length/\HA G t n=some b)->∃E len,get s (.tok t)=some (.tk E len)/\HA G t len=some b:=by
  rintro b ⟨n,ht,rfl,hb⟩;exact⟨E,_,Jp.resolve_left ht,hb⟩
 by_cases hle:els.length+ys.length<=(G.τ t).2
 ·
  cases hh:G.τ t with
  | mk base cap=>
   rw[hh]at hv hle;simp only at hv hle;cases base with
   | none=>
    have Bj:els.length=0/\cap=0:=by simpa [MB,hh] using Zi
    have Ko:ys=[]:=List.eq_nil_of_length_eq_zero oO;have Jk:els=[]:=List.eq_nil_of_length_eq_zero Bj.1;subst Ko Jk;obtain⟨-,rfl⟩:=Bj;have Bf:=JA (ty:=o.type) (w:=w) he h2 (base:=none) (len:=0) (cap:=0) (NA (P:=X.P) Mu w) (EL (P:=X.P) g3) hle (w':=w) rfl;refine Qs _ _ (FY G G.D d (none,0)) (by rw[hv];exact Bf) ?_;have T0:=Trans.refl X G a w R.nil;have T1:Trans X G a w (FY G G.D d (none,0)) a w (fun _=>False):=⟨T0.tmps,T0.defers,T0.os,T0.tape,T0.output,T0.size,T0.keep,T0.own,T0.grow,T0.new,Kf _ _⟩;refine R.ownNew hn hf T1 rfl (fun k hk=>by simp[FY,hk]) (fun b h=>h.elim) ?_ ?_ (fun b hb=>?_)
    ·simp only[LX,FY,if_true];exact⟨rfl,.sl0 _ _⟩
    ·simp[MB,FY]
    ·simp[HA,FY]at hb
   | some p=>
    have Nq:els.length<=cap/\(els.length<cap->p.spot=none/\∃c e,w.heap[p.block]? = some (.cells c e (0,0))/\p.off+cap * E<=c.size/\∀j,p.off+els.length * E<=j->j<p.off+cap * E->¬G.D p.block j):=by
     simpa [MB,hh] using Zi
    obtain⟨Wz,Ti⟩:=Nq;obtain⟨pb,po,ps⟩:=p;simp only at Ti;have Nx:t≠0:=fun e=>by subst e;rw[R.nil]at hh;cases hh
    rcases Nat.lt_or_ge els.length cap with Ag|Un
    ·obtain⟨rfl,c,e,k1,k2,k3⟩:=Ti Ag;have Ou:(WO g (ys.length * E)).size=ys.length * E:=LK _ _;have hmul:els.length * E+ys.length * E<=cap * E:=by rw[<- Nat.add_mul];exact Nat.mul_le_mul_right _ hle
     have Fd:=K3 (P:=X.P) pb (po+els.length * E) e (WO g (ys.length * E)).toList 0 c w k1 (by simp[Ou];omega) (fun v Di=>by
      simp only[WO,List.mem_map,List.mem_range]at Di;obtain⟨k,hk,rfl⟩:=Di;exact g2 k hk)
     rw[RI]at Fd;have Bf:=JA (ty:=o.type) (w:=w) he h2 (base:=some ⟨pb,po,none⟩) (len:=els.length) (cap:=cap) (NA (P:=X.P) Mu w) (EL (P:=X.P) g3) hle (w':=w.setRow pb (K1 c (po+els.length * E) (WO g (ys.length * E)))) (by simp only[F0];exact Fd);have Co:=O2 c (po+els.length * E) (WO g (ys.length * E)) (by rw[Ou];omega);rw[Ou]at Co;have Ff:HA G t els.length=some pb:=by simp[HA,hh,Ag]
     have Mp:X.w0.heap.size<=pb:=by
      rcases R.own _ _ pb (Jp.resolve_left Nx) Ff with h|⟨_,h⟩;· exact h
      ·cases h
     have Lv:∀k,(w.setRow pb (K1 c (po+els.length * E) (WO g (ys.length * E)))).cell? ⟨pb,k,none⟩=(K1 c (po+els.length * E) (WO g (ys.length * E)))[k]?:=fun k=>cell_setRow_same _ _ _ _ _ _ _ k1;have Vh:∀k,w.cell? ⟨pb,k,none⟩=c[k]?:=fun k=>by simp[World.cell?,k1]
     refine Qs _ _ (FY G (EB G.D pb (po+els.length * E) (po+(els.length+ys.length) * E)) d (some ⟨pb,po,none⟩,cap)) (by rw[hv];exact Bf) ?_;have T:Trans X G a w (FY G (EB G.D pb (po+els.length * E) (po+(els.length+ys.length) * E)) d (some ⟨pb,po,none⟩,cap)) a (w.setRow pb (K1 c (po+els.length * E) (WO g (ys.length * E)))) (fun b=>b=pb):=by
      refine⟨rfl,fun h=>h.but k1 fun b Np=>setRow_other _ _ _ _ Np,rfl,rfl,rfl,sS,fun b hb Np=>setRow_other _ _ _ _ Np,fun b hb=>by subst hb;exact .inl Mp,fun b k hD=>⟨.inl hD,?_⟩,fun b k hD Ma=>?_,Kf _ _⟩
      ·by_cases hb:b=pb
       ·subst hb;rw[Lv,Vh,Co.2];have:¬(po+els.length * E<=k/\k<po+els.length * E+ys.length * E):=fun ⟨q1,q2⟩=>k3 k q1 oO hD;rw[if_neg this]
       ·exact cell_setRow_other _ _ _ _ hb
      ·rcases hD with hD|⟨rfl,q1,q2⟩;· exact absurd hD Ma
       ·refine⟨.inr ⟨rfl,Mp⟩,_,(Lv k).trans (uG ?_)⟩;rw[Co.1];rw[Nat.add_mul]at q2;omega
     refine R.ownNew hn hf T rfl (fun k hk=>by simp[FY,hk]) (fun b hb=>by subst hb;exact⟨E,_,Jp.resolve_left Nx,Ff⟩) ?_ ?_ (fun b hb=>?_)
     ·simp only[LX,FY,if_true,hlen];refine⟨trivial,?_⟩
      have hj:V0 (EB G.D pb (po+els.length * E) (po+(els.length+ys.length) * E)) (w.setRow pb (K1 c (po+els.length * E) (WO g (ys.length * E)))) E (els++ys) (fun k=>if k<els.length * E then f k else g (k - els.length * E)):=
       V0.join (f1.mono T.grow) (g1.mono T.grow) Ek Dk (fun k hk=>by rw[if_pos hk]) (fun k hk=>by rw[if_neg oO,Nat.add_sub_cancel_left])
      have:=PW (cap:=cap) (b:=pb) (o:=po) (by rw[hlen];exact Al) (by rw[hlen];exact hle) Sg Sz (fun k hk=>?_) hj;· rw[hlen]at this;exact this
      ·rw[hlen,Nat.add_mul]at hk;by_cases Dx:k<els.length * E
       ·rw[if_pos Dx];rcases f3 with⟨rfl,-⟩|⟨b',o',Au,Di,Eu⟩;· simp at Dx
        ·rw[hv]at Di;cases Di;obtain⟨m1,m2⟩:=Eu k Dx;exact⟨(T.grow _ _ m2).2.trans m1,.inl m2⟩
       ·rw[if_neg Dx];refine⟨?_,.inr ⟨rfl,oO,by rw[Nat.add_mul];omega⟩⟩;rw[Lv,Co.2,if_pos oO,show po+k - (po+els.length * E)=k - els.length * E from oO];exact O3 _ _ _ oO
     ·simp only[MB,FY,if_true];refine⟨hle,fun hc=>⟨trivial,_,e,setRow_heap _ _ _ _ _ _ k1,by rw[Co.1];exact k2,fun j j1 j2 hD=>?_⟩⟩;rcases hD with hD|⟨-,q1,q2⟩;· exact k3 j (by rw[Nat.add_mul]at j1;omega) j2 hD
      ·omega
     ·simp only[HA,FY,if_true]at hb;split at hb;· cases hb;exact .inr rfl
      ·cases hb
    ·have Ko:ys=[]:=List.eq_nil_of_length_eq_zero oO;subst Ko;have Ci:cap=els.length:=oO;subst Ci;have Bf:=JA (ty:=o.type) (w:=w) he h2 (base:=some ⟨pb,po,ps⟩) (len:=els.length) (cap:=els.length) (NA (P:=X.P) Mu w) (EL (P:=X.P) g3) hle (w':=w) (by simp[WO,storeCells]);refine Qs _ _ (FY G G.D d (some ⟨pb,po,ps⟩,els.length)) (by rw[hv];exact Bf) ?_;have T0:=Trans.refl X G a w R.nil;have T1:Trans X G a w (FY G G.D d (some ⟨pb,po,ps⟩,els.length)) a w (fun _=>False):=⟨T0.tmps,T0.defers,T0.os,T0.tape,T0.output,T0.size,T0.keep,T0.own,T0.grow,T0.new,Kf _ _⟩;refine R.ownNew hn hf T1 rfl (fun k hk=>by simp[FY,hk]) (fun b h=>h.elim) ?_ ?_ (fun b hb=>?_)
     ·simp only[LX,FY,if_true,List.append_nil,List.length_nil,Nat.add_zero];refine⟨trivial,?_⟩;rw[hv]at hr;exact hr
     ·simp[MB,FY]
     ·simp[HA,FY]at hb
 ·
  have Pr:∀w':World,w'.heap=w.heap->(Builtin.firstCells E ys.length (a.eval y)).run X.P w' = .ok (WO g (ys.length * E)) w':=fun w' hw=>by
   refine EL (D:=G.D) ?_;rcases g3 with h|⟨b,o',cap,h,hc⟩;· exact .inl h
   ·exact .inr ⟨b,o',cap,h,fun k hk=>by rw[IA hw];exact hc k hk⟩
  have Kz:∀w':World,w'.heap=w.heap->(Builtin.firstCells E els.length (.slice (G.τ t).1 els.length (G.τ t).2)).run X.P w' = .ok (WO f (els.length * E)) w':=fun w' hw=>by
   rw[<- hv];refine EL (D:=G.D) ?_;rcases f3 with h|⟨b,o',cap,h,hc⟩;· exact .inl h
   ·exact .inr ⟨b,o',cap,h,fun k hk=>by rw[IA hw];exact hc k hk⟩
  obtain⟨c,e,nc,r1,r2,r3,r4,r5⟩:=ZO (ty:=o.type) (w:=w) he hB h2 (fun w' _=>NA (P:=X.P) Mu w') Pr Kz hle Al (LK _ _) (LK _ _);rw[<- hv]at r1;refine Qs _ _ (FY G (EB G.D w.heap.size 0 ((els.length+ys.length) * E)) d (some ⟨w.heap.size,0,none⟩,nc)) r1 ?_;have hcsz:(els.length+ys.length) * E<=c.size:=by rw[r3];exact Nat.mul_le_mul_right _ r2
  have hcn:∀k,(w.drew.alloc (.cells c e)).cell? ⟨w.heap.size,k,none⟩=c[k]?:=fun k=>World.cell?_alloc_new w.drew c e k;have T:Trans X G a w (FY G (EB G.D w.heap.size 0 ((els.length+ys.length) * E)) d (some ⟨w.heap.size,0,none⟩,nc)) a (w.drew.alloc (.cells c e)) (fun _=>False):=by
   refine⟨rfl,fun h=>h.heap fun b hb=>DL w.drew _ b hb,rfl,rfl,rfl,sS,fun b hb _=>DL w.drew _ b hb,fun _ h=>h.elim,fun b k hD=>⟨.inl hD,World.cell?_alloc_lt w.drew _ _ (R.wf.lt hD)⟩,fun b k hD Ma=>?_,Kf _ _⟩;rcases hD with hD|⟨rfl,q1,q2⟩;· exact absurd hD Ma
   ·exact⟨.inl (Nat.le_refl _),_,(hcn k).trans (uG oO)⟩
  refine R.ownNew hn hf T rfl (fun k hk=>by simp[FY,hk]) (fun b h=>h.elim) ?_ ?_ (fun b hb=>?_)
  ·simp only[LX,FY,if_true,hlen];refine⟨trivial,?_⟩
   have hj:V0 (EB G.D w.heap.size 0 ((els.length+ys.length) * E)) (w.drew.alloc (.cells c e)) E (els++ys) (fun k=>if k<els.length * E then f k else g (k - els.length * E)):=
    V0.join (f1.mono T.grow) (g1.mono T.grow) Ek Dk (fun k hk=>by rw[if_pos hk]) (fun k hk=>by rw[if_neg oO,Nat.add_sub_cancel_left])
   have:=PW (cap:=nc) (b:=w.heap.size) (o:=0) (by rw[hlen];exact Al) (by rw[hlen];exact r2) Sg Sz (fun k hk=>?_) hj;· rw[hlen]at this;exact this
   ·rw[hlen]at hk;refine⟨?_,.inr ⟨rfl,oO,oO⟩⟩;rw[Nat.zero_add,hcn];rw[Nat.add_mul]at hk;by_cases Dx:k<els.length * E;· rw[if_pos Dx,r4 k Dx];exact O3 _ _ _ Dx
    ·rw[if_neg Dx,show k=els.length * E+(k - els.length * E) from oO,r5 _ oO,Nat.add_sub_cancel_left];exact O3 _ _ _ oO
  ·simp only[MB,FY,if_true];refine⟨r2,fun _=>⟨trivial,c,e,OX w.drew _,by rw[r3];omega,fun j j1 j2 hD=>?_⟩⟩;rcases hD with hD|⟨-,q1,q2⟩;· exact absurd (R.wf.lt hD) (Nat.lt_irrefl _)
   ·omega
  ·simp only[HA,FY,if_true]at hb;split at hb;· cases hb;exact .inl (Nat.le_refl _)
   ·cases hb
theorem XQ {o:Oper}{T:TypeId}{x m:Operand}{lo hi:Option Operand}(ho:o.op = .slice T x lo hi (some m)){d:Nat}(hd:o.dst=some d)(hn:d<X.n)(Jr:d≠0)(hf:DQ d s=true){E:Nat}(hE:DB X.P T=some E){els:List (List DV)}
  (hx:(D4 X (get s) x).bind LJ=some els) {l h k:Int} (Im:EZ X (get s) 0 lo=some l) (La:EZ X (get s) els.length hi=some h) (hm:EZ X (get s) 0 (some m)=some k) (Yk:hi.isSome=true)
  (hc:0<=l/\l<=h/\h<=els.length/\h=k/\∀e∈els,e.length=E) :
  EU X s o (CV (CV (OU s (.tok 0)) (.slot d) (.one (.own d ((els.take h.toNat).drop l.toNat)))) (.tok d) (.tk E (h.toNat - l.toNat))):=by
 intro G a w R next Q hK
 obtain⟨h0,h1,h2,rfl,h3⟩:=hc;obtain⟨e',ie,hu,Fr,rfl⟩:=IQ hE;obtain⟨q,hq,Ju⟩:=Option.bind_eq_some_iff.1 hx;obtain⟨b,cap,hv,hr,Bj⟩:=HQ Ju (AD R hq);have Pa:(lo.map a.eval=none/\l=0)\/∃k,lo.map a.eval=some (.int k l):=by
  rcases HR R Im with⟨rfl,h⟩|⟨z,k,rfl,h⟩;· exact .inl ⟨rfl,h⟩
  ·exact .inr ⟨k,by simp[h]⟩
 obtain⟨Ot,rfl⟩:=Option.isSome_iff_exists.1 Yk;have Pv:∃k,a.eval Ot = .int k h:=by
  rcases HR R La with⟨h,_⟩|⟨z,k,hz,h⟩;· cases h
  ·cases hz;exact⟨k,h⟩
 have Ve:∃k,a.eval m = .int k h:=by
  rcases HR R hm with⟨h,_⟩|⟨z,k,hz,h⟩;· cases h
  ·cases hz;exact⟨k,h⟩
 obtain⟨k1,Dx⟩:=Pv;obtain⟨k2,Ay⟩:=Ve;have hh':(h.toNat:Int)=h:=Int.toNat_of_nonneg oO;have Bb:(sizeOf e').run X.P w = .ok ie.size w:=by simp[sizeOf,typeInfo,Fr]
 have Bf:(Instr.sliceAt T (.slice b els.length cap) (lo.map a.eval) (some (a.eval Ot)) (some (a.eval m))).run X.P w =
   .ok (.slice (if h.toNat=l.toNat then b else b.map fun q=>q.add (l.toNat * ie.size)) (h.toNat - l.toNat) (h.toNat - l.toNat)) w:=by
  have b1:0<=h/\h<=(cap:Int):=⟨oO,oO⟩;have b2:0<=h/\h<=(h.toNat:Int):=⟨oO,oO⟩;have b3:0<=l/\l<=(h.toNat:Int):=⟨h0,oO⟩;rcases Pa with⟨hl,rfl⟩|⟨k,hl⟩
  ·rw[hl,Dx,Ay];simp only[Instr.sliceAt,Instr.slice,run_underlying hu,Instr.sliceBounds,Instr.sliceBound,asIntOf,Sem.run_bind,Sem.run_pure,Result.andThen_ok,if_pos b1,if_pos b2,Bb];simp
  ·rw[hl,Dx,Ay];simp only[Instr.sliceAt,Instr.slice,run_underlying hu,Instr.sliceBounds,Instr.sliceBound,asIntOf,Sem.run_bind,Sem.run_pure,Result.andThen_ok,if_pos b1,if_pos b2,if_pos b3,Bb]
 have Je:=kV (w:=w) (E:=ie.size) (hv ▸ hr) h3 l.toNat h.toNat oO oO Bj;have hlen:((els.take h.toNat).drop l.toNat).length=h.toNat - l.toNat:=by simp;omega
 obtain⟨base,Mp,Ts⟩:∃base:Option Addr,base=(if h.toNat=l.toNat then b else b.map fun q=>q.add (l.toNat * ie.size))/\RV G.D w (.sl ((els.take h.toNat).drop l.toNat)) (.slice base (h.toNat - l.toNat) (h.toNat - l.toNat)):=by
  refine⟨_,rfl,?_⟩;by_cases he:h.toNat=l.toNat
  ·have:(els.take h.toNat).drop l.toNat=[]:=by rw[he];simp
   rw[this,he,Nat.sub_self];exact .sl0 _ _
  ·have Ba:cap≠l.toNat:=oO;rw[if_neg Ba]at Je;rw[if_neg he];generalize (els.take h.toNat).drop l.toNat=L at *;generalize hb:b.map (fun q=>q.add (l.toNat * ie.size))=bb at *;rw[<- hlen]at Je ⊢;cases Je with
   | sl0=>simp at hlen;omega
   | sl _ b' o' _ E' val q1 q2 q3 q4 q5 q6 q7=>exact .sl L b' o' _ E' val q1 (Nat.le_refl _) q3 q4 q5 q6 q7
 rw[<- Mp]at Bf;have Kf:(FY G G.D d (base,h.toNat - l.toNat)).τ 0=(none,0):=by simp only[FY,if_neg (Ne.symm Jr)];exact R.nil
 have T0:=Trans.refl X G a w R.nil;have T1:Trans X G a w (FY G G.D d (base,h.toNat - l.toNat)) a w (fun _=>False):=⟨T0.tmps,T0.defers,T0.os,T0.tape,T0.output,T0.size,T0.keep,T0.own,T0.grow,T0.new,Kf⟩;refine PT (by first|exact DU h|(intro c e;rw[ho]at e;cases e)) ?_;simp only[execOp,ho,hv,Option.map_some,Bf,Sem.run_bind,Result.andThen_ok,Sem.run_pure,E8,hd];refine hK (FY G G.D d (base,h.toNat - l.toNat)) _ w (R.ownNew (t:=0) hn hf T1 rfl (fun k hk=>by simp[FY,hk]) (fun b h=>h.elim) ?_ ?_ (fun b hb=>?_))
 ·simp only[LX,FY,if_true,hlen];exact⟨trivial,Ts⟩
 ·simp only[MB,FY,if_true];cases base with
  | none=>
   have:h.toNat - l.toNat=0:=by
    rw[<- hlen]at Ts ⊢;generalize (els.take h.toNat).drop l.toNat=L at *;cases Ts with
    | sl0=>rfl
   exact⟨this,this⟩
  | some p=>exact⟨Nat.le_refl _,fun h=>absurd h (Nat.lt_irrefl _)⟩
 ·cases base <;> simp[HA,FY]at hb
end
end
section
abbrev BU:=List (Nat × List DV)
structure HeapOK (D:Nat->Nat->Prop)(w:World)(φ:BU):Prop where
 rows:∀b cs,(b,cs)∈φ->∃c e,w.heap[b]? = some (.cells c e (0,0))/\cs.length<=c.size/\∀(i:Nat) (x:DV),cs[i]? = some x->x.isCell=true/\∃v,c[i]? = some v/\RV D w x v
 nodata:∀b cs,(b,cs)∈φ->∀o,¬D b o
 nodup:(φ.map (·.1)).Nodup
def LC (P:Program)(gl:AF)(f:FuncId)(args:List DV)(φ:BU)(R:DV->BU->Prop):Prop:=
 ∀(D:Nat->Nat->Prop) (w:World) (vs:Array Value),Wf gl D w->vs.size=args.length->(∀(i:Nat) (x:DV) (v:Value),args[i]? = some x->vs[i]? = some v->RV D w x v)->HeapOK D w φ ->
  Calls P f vs w fun e w'=>∃v D' r Ae,e = .returned v/\R r Ae/\Ext (φ.map (·.1)) D w D' w'/\Wf gl D' w'/\RV D' w' r v/\HeapOK D' w' Ae/\∀b∈Ae.map (·.1),b∈φ.map (·.1)\/w.heap.size<=b
def Aft (X:Ctx)(D':Nat->Nat->Prop)(w':World)(Ae:BU):Prop:=
 Ext X.ids X.D0 X.w0 D' w'/\Wf X.gl D' w'/\HeapOK D' w' Ae/\∀b∈Ae.map (·.1),b∈X.ids\/X.w0.heap.size<=b
def Ctx.Post (X:Ctx)(v:Value)(w':World):Prop:=
 ∃D' r Ae,X.R r Ae/\Ext X.ids X.D0 X.w0 D' w'/\Wf X.gl D' w'/\RV D' w' r v/\HeapOK D' w' Ae/\∀b∈Ae.map (·.1),b∈X.ids\/X.w0.heap.size<=b
def zof:Option Code->List Item->Prop
 | none,k=>k=[]
 | some .ret,k=>∃k1,k = .code .ret::k1
 | some (.exit id),k=>∃k1,k = .code (.exit id)::k1/\exitTo id k1=none
 | some (.goto l),k=>∃k1,k = .code (.goto l)::k1/\gotoIn l k1=none
 | _,_=>False
def Fin (X:Ctx)(b fr:Frame)(w':World):Prop:=
 match X.md with
 | .fn=>∃v,X.Post v w'/\fr.fn=X.f/\fr.leaving X.P w' (.returned v)
 | .it l R=>∃v D' Ae r',R Ae r'/\Aft X D' w' Ae/\w'.heap[l]? = some (.loop r')/\fr.fn=X.f/\fr.leaving X.P w' (.returned v)
 | .rd l r R=>∃a k j D' Ae,fr=b.atR a k/\zof j k/\R j Ae/\Aft X D' w' Ae/\w'.heap[l]? = some (.loop { r with state:=.busy })
def W (X:Ctx)(k:List Item)(s:St):Prop:=
 ∀(G:Gh) (a:Act) (w:World) (b:Frame) (cs:List Frame),b.fn=X.f->b.kind = .normal->b.roundOf=X.rd->Rel X G s a w ->
  ∃w' fr,Fin X b fr w'/\Steps X.P (lone (b.atR a k) cs w) (lone fr cs w')
section
variable {X:Ctx}{s:St}{k:List Item}
theorem RL {k k':List Item}(h:∀(a:Act) (w:World) (b:Frame) (cs:List Frame),step X.P (lone (b.atR a k) cs w) = .next (lone (b.atR a k') cs w))(hw:W X k' s):W X k s:=by
 intro G a w b cs hf hk hr R;obtain⟨w',fr,h1,h2⟩:=hw G a w b cs hf hk hr R;exact⟨w',fr,h1,.head (h a w b cs) h2⟩
theorem DI {x y:Code}(h:W X (.code x::.code y::k) s):W X (.code (.seq x y)::k) s:=RL (fun _ _ _ _=>stepR_seq) h
theorem C7 (h:W X k s):W X (.code .skip::k) s:=RL (fun _ _ _ _=>stepR_skip) h
theorem BH {l:Nat}(h:W X k s):W X (.code (.label l)::k) s:=RL (fun _ _ _ _=>stepR_label) h
theorem CB {id:Nat}{c:Code}(h:W X (.code c::.inBlock id::k) s):W X (.code (.block id c)::k) s:=RL (fun _ _ _ _=>stepR_block) h
theorem AR {id:Nat}(h:W X k s):W X (.inBlock id::k) s:=RL (fun _ _ _ _=>stepR_inBlock) h
theorem B4 {c:Code}(h:W X (.code c::.inLoop c::k) s):W X (.code (.loop c)::k) s:=RL (fun _ _ _ _=>stepR_loop) h
theorem AB {c:Code}(h:W X (.code c::.inLoop c::k) s):W X (.inLoop c::k) s:=RL (fun _ _ _ _=>stepR_inLoop) h
theorem CL {id:Nat}{k':List Item}(he:exitTo id k=some k')(h:W X k' s):W X (.code (.exit id)::k) s:=RL (fun _ _ _ _=>stepR_exit he) h
theorem BN {c:Operand}{x y:Code}{t:Bool}(hc:D4 X (get s) c=some (.v (.prim (.bool t))))(ht:t=true->W X (.code x::k) s)(hf:t=false->W X (.code y::k) s):W X (.code (.cond c x y)::k) s:=by
 intro G a w b cs hbf hbk hr R;have hv:=(BT (AD R hc)).1;cases t with
 | true=>
  obtain⟨w',fr,h1,h2⟩:=ht rfl G a w b cs hbf hbk hr R;exact⟨w',fr,h1,.head (by have:=stepR_cond (P:=X.P) (b:=b) (k:=k) (cs:=cs) (w:=w) (x:=x) (y:=y) hv;simpa using this) h2⟩
 | false=>
  obtain⟨w',fr,h1,h2⟩:=hf rfl G a w b cs hbf hbk hr R;exact⟨w',fr,h1,.head (by have:=stepR_cond (P:=X.P) (b:=b) (k:=k) (cs:=cs) (w:=w) (x:=x) (y:=y) hv;simpa using this) h2⟩
def PX (X:Ctx)(g:Rd):ResultVar->Option DV
 | .tmp t=>match g (.slot t) with
  | some (.one x)=>dW x
  | _=>none
 | .cell t ty=>match g (.slot t) with
  | some (.one x)=>(loadAt X g ty x).bind dW
  | _=>none
def ZP (X:Ctx)(g:Rd):List ResultVar->Option (List DV)
 | []=>some []
 | r::l=>match PX X g r,ZP X g l with
  | some x,some xs=>some (x::xs)
  | _,_=>none
def YT (X:Ctx)(g:Rd)(l:List ResultVar):Option DV:=
 match ZP X g l with
 | some [x]=>some x
 | some xs=>some (.tup xs)
 | none=>none
def z5s (tmps:Array Value):ResultVar->Sem Value
 | .tmp t=>pure (tmps.getD t undef)
 | .cell p t=>do loadVar t (<- asAddr (tmps.getD p undef))
theorem V3 (fn:Func)(tmps:Array Value):results fn tmps=(do let vs <- fn.results.mapM (z5s tmps);pure (if h:vs.size=1 then vs[0] else .tuple vs)):=by
 unfold results
 congr 1
theorem ZQ {G:Gh}{a:Act}{w:World}(R:Rel X G s a w):∀{l:List ResultVar} {xs:List DV},ZP X (get s) l=some xs ->
  ∃vs:List Value,(l.mapM (z5s a.tmps)).run X.P w = .ok vs w/\vs.length=xs.length/\∀(i:Nat) (x:DV) (v:Value),xs[i]? = some x->vs[i]? = some v->RV G.D w x v
 | [],xs,h=>by cases h;exact⟨[],sS,rfl,sS⟩
 | r::l,xs,h=>by
  simp only[ZP]at h;split at h
  ·rename_i x ys hx Ko;cases h;obtain⟨vs,h1,h2,h3⟩:=ZQ R Ko;have key:∃v,(z5s a.tmps r).run X.P w = .ok v w/\RV G.D w x v:=by
    cases r with
    | tmp t=>
     simp only[PX]at hx;split at hx
     ·rename_i y hy;exact⟨_,rfl,JM hx (R.holds _ _ hy)⟩
     ·cases hx
    | cell p t=>
     simp only[PX]at hx;split at hx
     ·rename_i y hy;obtain⟨z,hz,Wd⟩:=Option.bind_eq_some_iff.1 hx;obtain⟨u,q1,q2⟩:=UV R (R.holds _ _ hy) hz;refine⟨u,?_,JM Wd q2⟩;simp only[Instr.loadAt,Sem.run_bind]at q1;simp only[z5s,Sem.run_bind];cases hv:a.tmps.getD p undef with
      | pointer o=>
       cases o with
       | none=>simp[hv,Instr.sureAddr]at q1
       | some ad=>simpa [hv,Instr.sureAddr,asAddr] using q1
      | _=>simp[hv,Instr.sureAddr]at q1
     ·cases hx
   obtain⟨v,k1,k2⟩:=key;refine⟨v::vs,?_,by simp[h2],fun i c u hc hu=>?_⟩
   ·rw[List.mapM_cons];simp only[Sem.run_bind];rw[k1];simp only[Result.andThen_ok,h1,Sem.run_pure]
   ·cases i with
    | zero=>simp at hc hu;subst hc hu;exact k2
    | succ i=>exact h3 i c u (by simpa using hc) (by simpa using hu)
  ·cases h
theorem ZR {G:Gh}{a:Act}{w:World}(R:Rel X G s a w){fn:Func}{r:DV}(h:YT X (get s) fn.results.toList=some r):∃v,(results fn a.tmps).run X.P w = .ok v w/\RV G.D w r v:=by
 unfold YT at h;have main:∀xs,ZP X (get s) fn.results.toList=some xs->∃vs:Array Value,(fn.results.mapM (z5s a.tmps)).run X.P w = .ok vs w/\vs.size=xs.length/\∀(i:Nat) (x:DV) (v:Value),xs[i]? = some x->vs[i]? = some v->RV G.D w x v:=by
  intro xs hx;obtain⟨vs,h1,h2,h3⟩:=ZQ R hx;refine⟨vs.toArray,?_,by simpa using h2,fun i x v hx hv=>h3 i x v hx (by simpa using hv)⟩;rw[Array.mapM_eq_mapM_toList];simp only[Sem.run_map,h1,Result.andThen_ok]
 split at h
 ·rename_i x hx;cases h;obtain⟨vs,h1,h2,h3⟩:=main _ hx;have hs:vs.size=1:=by simpa using h2
  refine⟨vs[0],?_,h3 0 _ _ rfl (by simp[hs])⟩;rw[V3,Sem.run_bind,h1];simp[hs]
 ·rename_i xs Ba hx;cases h;obtain⟨vs,h1,h2,h3⟩:=main _ hx;have hs:vs.size≠1:=by
   intro e;rw[h2]at e
   match xs,e with
   | [x],_=>exact Ba x rfl
  refine⟨.tuple vs,?_,.tup _ _ h2 h3⟩;rw[V3,Sem.run_bind,h1];simp[hs]
 ·cases h
def BP (g:Rd)(φ:BU):Prop:=∀b cs,(b,cs)∈φ->g (.heap b)=some (.row (cs.map SV.v))
theorem SN {G:Gh}{a:Act}{w:World}(R:Rel X G s a w){φ:BU}(h:BP (get s) φ)(hn:(φ.map (·.1)).Nodup):HeapOK G.D w φ:=by
 refine⟨fun b cs hm=>?_,fun b cs hm o=>?_,hn⟩
 ·obtain⟨c,e,h1,h2,h3⟩:=R.holds _ _ (h b cs hm);refine⟨c,e,h1,by simpa using h2,fun i x hx=>?_⟩;obtain⟨k1,v,k2,k3⟩:=h3 i (.v x) (by simp[hx]);exact⟨k1,v,k2,k3⟩
 ·exact R.data _ _ b o (h b cs hm) rfl rfl
theorem z5t {Ds Es:List Nat}(h:Ds.map TG=Es.map TG):Ds=Es:=by
 induction Ds generalizing Es with
 | nil=>cases Es <;> simp_all
 | cons d r ih=>
  cases Es with
  | nil=>simp at h
  | cons e t=>
   simp only[List.map_cons,List.cons.injEq]at h;have h1:d=e:=by have:=h.1;simp only[TG,Deferred.mk.injEq,Target.collected.injEq,and_true]at this;exact this
   rw[h1,ih h.2]
theorem Rel.pop {G:Gh}{a:Act}{w:World}(R:Rel X G s a w){D:Nat}{Ds:List Nat}(ha:a.defers=TG D::Ds.map TG) :
  (Instr.takeDeferred D).run X.P w = .ok [] (w.putObj D (.deferred none))/\Rel X G s { a with defers:=Ds.map TG } (w.putObj D (.deferred none)):=by
 obtain⟨Ds',h1,h2,h3⟩:=R.defers;obtain rfl:Ds' = D::Ds:=z5t (by rw[<- h1,ha];rfl);obtain⟨hD,Ag⟩:=h3 D sS;have Ba:∀b,b≠D->(w.putObj D (.deferred none)).heap[b]? = w.heap[b]?:=fun b hb=>World.putObj_heap_other hb
 have Ns:∀b o,G.D b o->b≠D:=fun b o hd e=>by
  subst e;obtain⟨v,hv⟩:=R.wf.there b o hd;simp[World.cell?,hD]at hv
 refine⟨run_takeDeferred hD,?_⟩;have T:Trans X G a w G { a with defers:=Ds.map TG } (w.putObj D (.deferred none)) (fun b=>b=D):=by
  refine⟨rfl,fun _=>⟨Ds,rfl,(List.nodup_cons.1 h2).2,fun E hE=>?_⟩,rfl,rfl,rfl,sS,fun b _ hb=>Ba b hb,fun b hb=>by subst hb;exact .inl Ag,fun b o hd=>⟨hd,?_⟩,fun _ _ h k=>absurd h k,R.nil⟩
  ·have hED:E≠D:=fun e=>by subst e;exact (List.nodup_cons.1 h2).1 hE
   exact⟨(Ba E hED).trans (h3 E (by simp[hE])).1,(h3 E (by simp[hE])).2⟩
  ·simp only[World.cell?];rw[Ba b (Ns b o hd)]
 refine R.step T (fun _ _=>False) (fun l v h=>.inr ⟨h,fun _ _=>rfl,fun b hb he=>?_,fun _ _=>rfl,fun _ _=>rfl⟩) (fun _ _ h=>h.elim) (fun _ _ _ _ _ h=>h.elim);subst he;have hh:=R.holds _ _ h;cases l with
 | slot n=>cases v <;> cases hb
 | loc n=>
  cases v with
  | row cs=>simp only[BI,uC]at hb;subst hb;obtain⟨c,e,h4,_⟩:=hh;rw[hD]at h4;cases h4
  | _=>first|exact hh.elim|cases hb
 | heap n=>
  cases v with
  | row cs=>simp only[BI,uC]at hb;subst hb;obtain⟨c,e,h4,_⟩:=hh;rw[hD]at h4;cases h4
  | ob r=>simp only[BI,uC]at hb;subst hb;simp only[MC]at hh;rw[hD]at hh;cases hh
  | mp l=>simp only[BI,uC]at hb;subst hb;obtain⟨es,cl,h4,_⟩:=hh;rw[hD]at h4;cases h4
  | _=>first|exact hh.elim|cases hb
 | tok n=>
  cases v with
  | tk E len=>
   simp only[BI,HA,MC,MB]at hb hh;split at hb
   ·rename_i aa cap heq;rw[heq]at hh;split at hb
    ·rename_i Rw;obtain⟨-,c,e,h4,_⟩:=hh.2 Rw;cases hb;rw[hD]at h4;cases h4
    ·cases hb
   ·cases hb
  | _=>first|exact hh.elim|cases hb
theorem XR {G:Gh}{cs:List Frame}:∀(Ds:List Nat) (a:Act) (w:World) (fr:Frame),a.defers=Ds.map TG->Rel X G s a w->fr.mode = .returning->fr.defers=a.defers ->
  ∃w' Mv,Steps X.P (lone fr cs w) (lone Mv cs w')/\Rel X G s { a with defers:=[] } w'/\Mv.mode = .returning/\Mv.defers=[]/\Mv.fn=fr.fn/\Mv.kind=fr.kind/\Mv.tmps=fr.tmps:=by
 intro Ds
 induction Ds with
 | nil=>
  intro a w fr ha R hm hd;refine⟨w,fr,.refl _ _,?_,hm,by rw[hd,ha];rfl,rfl,rfl,rfl⟩;have:{ a with defers:=[] } = a:=by cases a;simp only at ha;rw[ha];rfl
  rw[this];exact R
 | cons D Ds ih=>
  intro a w fr ha R hm hd;obtain⟨h1,h2⟩:=R.pop ha;have hs:=step_collected (P:=X.P) (cs:=cs) (by rw[hm];simp) (hd.trans ha) rfl h1;obtain⟨w',Mv,k1,k2,k3,k4,k5,k6,k7⟩:=ih _ _ { fr with defers:=[]++Ds.map TG } rfl h2 hm rfl;exact⟨w',Mv,.head hs k1,k2,k3,k4,k5,k6,k7⟩
theorem ziq (h:X.md = .fn):X.rd=none:=by simp[Ctx.rd,h]
theorem zog {l:Nat}{R:BU->Loop->Prop}(h:X.md = .it l R):X.rd=none:=by simp[Ctx.rd,h]
theorem pV {G:Gh}{a:Act}{w:World}(R:Rel X G s a w){φ:BU}(Bd:BP (get s) φ)(hn:(φ.map (·.1)).Nodup):Aft X G.D w φ:=by
 refine⟨R.ext,R.wf,SN R Bd hn,fun b hb=>?_⟩;obtain⟨⟨b',Dh⟩,hm,rfl⟩:=List.mem_map.1 hb;rcases R.own _ _ b' (Bd b' Dh hm) rfl with h|⟨h,_⟩;· exact .inr h
 ·exact .inl h
def zdh (X:Ctx)(m:List Item):Prop:=
 ∀(a:Act) (w:World) (b:Frame) (cs:List Frame),b.roundOf=none->step X.P (lone (b.atR a m) cs w) = .next (lone { b.atR a m with mode:=.returning } cs w)
theorem V4:zdh X (.code .ret::k):=fun _ _ _ _ h=>stepR_ret h
theorem V5:zdh X []:=fun _ _ _ _ h=>stepR_end h
theorem zir (Ft:X.md = .fn)(Qx:X.P.funcs[X.f]? = some X.fn){r:DV}(hr:YT X (get s) X.fn.results.toList=some r){φ:BU}(Bd:BP (get s) φ)(hn:(φ.map (·.1)).Nodup)(hR:X.R r φ){m:List Item}(Ec:zdh X m):W X m s:=by
 intro G a w b cs hf hk Il R;obtain⟨Ds,hDs,-⟩:=R.defers;obtain⟨w',Mv,k1,R',k3,k4,k5,k6,k7⟩:=XR (cs:=cs) Ds a w { b.atR a m with mode:=.returning } hDs R rfl rfl;obtain⟨v,h1,h2⟩:=ZR R' hr;obtain⟨q1,q2,q3,q4⟩:=pV R' Bd hn;refine⟨w',Mv,?_,.head (Ec a w b cs (Il.trans (ziq Ft))) k1⟩;simp only[Fin,Ft];exact⟨v,⟨G.D,r,φ,hR,q1,q2,h2,q3,q4⟩,k5.trans hf,k3,k4,k6.trans hk,X.fn,by rw[k5];exact (congrArg _ hf).trans Qx,by rw[k7];exact h1⟩
theorem zis (Ft:X.md = .fn)(Qx:X.P.funcs[X.f]? = some X.fn){r:DV}(hr:YT X (get s) X.fn.results.toList=some r){φ:BU}(Bd:BP (get s) φ)(hn:(φ.map (·.1)).Nodup)(hR:X.R r φ):W X (.code .ret::k) s:=
 zir Ft Qx hr Bd hn hR V4
theorem zit (Ft:X.md = .fn)(Qx:X.P.funcs[X.f]? = some X.fn){r:DV}(hr:YT X (get s) X.fn.results.toList=some r){φ:BU}(Bd:BP (get s) φ)(hn:(φ.map (·.1)).Nodup)(hR:X.R r φ):W X [] s:=
 zir Ft Qx hr Bd hn hR V5
theorem SO {l:Nat}{Q:BU->Loop->Prop}(Ft:X.md = .it l Q)(Qx:X.P.funcs[X.f]? = some X.fn){r:DV}(hr:YT X (get s) X.fn.results.toList=some r){φ:BU}(Bd:BP (get s) φ)(hn:(φ.map (·.1)).Nodup){q:Loop}(hl:get s (.heap l)=some (.ob q))(hR:Q φ q){m:List Item}(Ec:zdh X m):W X m s:=by
 intro G a w b cs hf hk Il R;obtain⟨Ds,hDs,-⟩:=R.defers;obtain⟨w',Mv,k1,R',k3,k4,k5,k6,k7⟩:=XR (cs:=cs) Ds a w { b.atR a m with mode:=.returning } hDs R rfl rfl;obtain⟨v,h1,h2⟩:=ZR R' hr;refine⟨w',Mv,?_,.head (Ec a w b cs (Il.trans (zog Ft))) k1⟩;simp only[Fin,Ft];exact⟨v,G.D,φ,q,hR,pV R' Bd hn,R'.holds _ _ hl,k5.trans hf,k3,k4,k6.trans hk,X.fn,by rw[k5];exact (congrArg _ hf).trans Qx,by rw[k7];exact h1⟩
theorem PY {l:Nat}{r:Loop}{Q:Option Code->BU->Prop}(Ft:X.md = .rd l r Q){φ:BU}(Bd:BP (get s) φ)(hn:(φ.map (·.1)).Nodup)(hl:get s (.heap l)=some (.ob { r with state:=.busy }))(j:Option Code){m:List Item}(hj:zof j m)(hR:Q j φ):W X m s:=by
 intro G a w b cs hf hk Il R;refine⟨w,b.atR a m,?_,.refl _ _⟩;simp only[Fin,Ft];exact⟨a,m,j,G.D,φ,rfl,hj,hR,pV R Bd hn,R.holds _ _ hl⟩
def Nrm (X:Ctx)(K:St->Prop):Exit->Act->World->Prop:=fun e a w=>e = .normal/\∃G s,K s/\Rel X G s a w
def VL (X:Ctx)(ops:Array Oper)(l:List Oper)(s:St)(K:St->Prop):Prop:=
 ∀n,ops.toList.drop n=l->∀(G:Gh) (a:Act) (w:World),Rel X G s a w->wpOpsIn X.F 0 X.P ops (Nrm X K) (List.range' n l.length) a w
theorem zjg {ops:Array Oper}{K:St->Prop}(h:K s):VL X ops [] s K:=fun _ _ G _ _ R=>⟨rfl,G,s,h,R⟩
theorem FH {ops:Array Oper}{n:Nat}{o:Oper}{l:List Oper}(h:ops.toList.drop n=o::l):ops[n]? = some o/\ops.toList.drop (n+1)=l:=by
 constructor
 ·have:(ops.toList.drop n)[0]? = some o:=by rw[h];rfl
  rw[List.getElem?_drop]at this
  simpa using this
 ·rw[<- List.drop_drop,h];rfl
theorem V6 {ops:Array Oper}{o:Oper}{l:List Oper}{K:St->Prop}{s':St}(hg:o.guard=none)(ho:EU X s o s')(h:VL X ops l s' K):VL X ops (o::l) s K:=by
 intro n hn G a w R;obtain⟨h1,h2⟩:=FH hn;simp only[List.length_cons,List.range'_succ,wpOpsIn,h1,Region.wanted,hg,if_true];exact (ho G a w R _ _ fun G' a' w' R'=>h (n+1) h2 G' a' w' R')
theorem Rel.congr {G:Gh}{a:Act}{w:World}(R:Rel X G s a w){s':St}(h:∀l,get s' l=get s l):Rel X G s' a w:=
 ⟨R.size,R.defers,R.ext,R.wf,R.nil,fun l v hl=>R.holds l v (by rw[<- h];exact hl),fun l v l' v' b h1 h2=>R.sep l v l' v' b (by rw[<- h];exact h1) (by rw[<- h];exact h2),fun l v b h1=>R.own l v b (by rw[<- h];exact h1),fun l v b o h1=>R.data l v b o (by rw[<- h];exact h1)⟩
abbrev dX:LV:=.one (.v (.tup []))
theorem gY {G:Gh}{w:World}:LX G w (.v (.tup [])) undef:=.tup [] #[] rfl sS
theorem ZS {ops:Array Oper}{G:Gh}{a:Act}{w:World}(R:Rel X G s a w){j dj:Nat}(hj:(ops[j]?).bind (·.dst)=some dj)(hb:get s (.slot dj)=some dX):yielded ops a.tmps j=none:=by
 have hv:RV G.D w (.tup []) (a.tmps.getD dj undef):=R.holds _ _ hb;unfold yielded;rw[hj];simp only[Option.bind_some];cases hq:a.tmps[dj]? with
 | none=>rfl
 | some v=>
  have:a.tmps.getD dj undef=v:=by simp[Array.getD_eq_getD_getElem?,hq]
  rw[this]at hv;cases hv;rfl
theorem z5u {ops:Array Oper}{o:Oper}{l:List Oper}{K:St->Prop}{j dj:Nat}{want b:Bool}(hg:o.guard=some (j,want))(hj:(ops[j]?).bind (·.dst)=some dj)(hjn:dj<X.n)(hb:get s (.slot dj)=some (.one (.v (.prim (.bool b)))))
  (hyes:b=want->∃s',EU X (CV s (.slot dj) (.one (.v (.prim (.bool want))))) o s'/\VL X ops l s' K)
  {d:Nat} (hd:o.dst=some d) (Eb:d<X.n) (Wx:b = !want->VL X ops l (CV (CV s (.slot dj) (.one (.v (.prim (.bool (!want)))))) (.slot d) dX) K):VL X ops (o::l) s K:=by
 intro n hn G a w R;obtain⟨h1,h2⟩:=FH hn;have hv:=(BT (R.holds _ _ hb)).1;have Ag:dj<a.tmps.size:=by rw[R.size];exact hjn
 have Di:a.tmps[dj]? = some (.bool b):=by
  have h3:a.tmps.getD dj undef=a.tmps[dj]:=by simp[Ag]
  rw[uG Ag,<- h3,hv]
 have hy:yielded ops a.tmps j=some b:=by
  unfold yielded;rw[hj];simp[Di]
 have R':∀c,b=c->Rel X G (CV s (.slot dj) (.one (.v (.prim (.bool c))))) a w:=fun c hc=>R.congr fun l=>by
  rw[C1];split
  ·subst_vars;exact hb.symm
  ·rfl
 simp only[List.length_cons,List.range'_succ,wpOpsIn,h1,Region.wanted,hg,hy];by_cases Qm:b=want
 ·subst Qm;simp only[beq_self_eq_true,if_true];obtain⟨s',k1,k2⟩:=hyes rfl;exact (k1 G a w (R' _ rfl) _ _ fun G' a' w' R'=>k2 (n+1) h2 G' a' w' R')
 ·have Bt:b = !want:=by cases b <;> cases want <;> simp_all
  have:(some b==some want)=false:=by simp[Qm]
  simp only[this,Bool.false_eq_true,if_false,hd];exact⟨fun _ _=>trivial,Wx Bt (n+1) h2 G _ w ((R' _ Bt).setSlot (Trans.refl X G a w R.nil) rfl rfl (fun _ h=>h) Eb (x:=.v (.tup [])) gY)⟩
theorem z00 {ops:Array Oper}{o:Oper}{l:List Oper}{K:St->Prop}{j dj:Nat}{want:Bool}(hg:o.guard=some (j,want))(hj:(ops[j]?).bind (·.dst)=some dj)(hb:get s (.slot dj)=some dX)
  {d:Nat} (hd:o.dst=some d) (Eb:d<X.n) (Wx:VL X ops l (CV s (.slot d) dX) K):VL X ops (o::l) s K:=by
 intro n hn G a w R;obtain⟨h1,h2⟩:=FH hn;have hy:=ZS (ops:=ops) R hj hb;simp only[List.length_cons,List.range'_succ,wpOpsIn,h1,Region.wanted,hg,hy,hd];have:(none==some want)=false:=by cases want <;> rfl
 simp only[this,Bool.false_eq_true,if_false];exact⟨fun _ _=>trivial,Wx (n+1) h2 G _ w (R.setSlot (Trans.refl X G a w R.nil) rfl rfl (fun _ h=>h) Eb (x:=.v (.tup [])) gY)⟩
theorem z5v (n:Nat):X.F.room n:=fun _ h=>by simp[Ctx.F,Fence.wide]at h
theorem z5w {id:Nat}{ops:Array Oper}(h:∀K:St->Prop,(∀s',W X k s'->K s')->VL X ops ops.toList s K):W X (.code (.region id ops false)::k) s:=by
 intro G a w b cs hf hk hr R;have hv:=h (fun s'=>W X k s') (fun _ h=>h) 0 rfl G a w R;have e:List.range' 0 ops.toList.length=List.range ops.size:=by rw[List.range_eq_range'];simp
 rw[e]at hv;obtain⟨e',a',w',⟨rfl,G',s',hK,R'⟩,Pk⟩:=wp_opsIn _ a w hv b k cs hr tT (z5v _);obtain⟨Lk,fr,h1,h2⟩:=hK G' a' w' b cs hf hk hr R';exact⟨Lk,fr,h1,.head stepR_region (Steps.trans (StepsIn.steps Pk) h2)⟩
end
end
section
def ZT (P:Program)(f:FuncId):Prop:=
 ∃ fn, P.funcs[f]? = some fn /\ fn.body.isSome = true /\ (fn.name == "runtime.NumGoroutine") = false
def Con (P:Program)(gl:AF)(f:FuncId)(args:List DV)(φ:BU)(R:DV->BU->Prop):Prop:=ZT P f/\LC P gl f args φ R
def U8 (P:Program)(gl:AF)(f:FuncId)(args:List DV)(φ:BU)(r:DV)(Ae:BU):Prop:=Con P gl f args φ fun x ψ=>x=r/\ψ=Ae
def D9:BU->St
 | []=>[]
 | (b,cs)::r=>(.heap b,.row (cs.map SV.v))::D9 r
def QX:Nat->List DV->St
 | _,[]=>[]
 | n,x::r=>(.slot n,.one (.v x))::QX (n+1) r
def OY (args:List DV)(φ:BU):St:=QX 0 args++D9 φ
def DP (s:St):BU->St
 | []=>s
 | (b,_)::r=>DP (OU s (.heap b)) r
def D7 (s:St):BU->St
 | []=>s
 | (b,cs)::r=>CV (D7 s r) (.heap b) (.row (cs.map SV.v))
theorem JG (s t:St)(l:Loc):get (s++t) l=(get s l).or (get t l):=by
 induction s with
 | nil=>simp[get]
 | cons p r ih=>
  obtain⟨m,v⟩:=p;simp only[List.cons_append,get];split <;> simp[ih]
theorem NB {φ:BU}{l:Loc}{v:LV}(h:get (D9 φ) l=some v):∃b cs,l = .heap b/\v = .row (cs.map SV.v)/\(b,cs)∈φ:=by
 induction φ with
 | nil=>cases h
 | cons p r ih=>
  obtain⟨b,cs⟩:=p;simp only[D9,get]at h;split at h;· rename_i hl;cases h;exact⟨b,cs,hl.symm,rfl,sS⟩
  ·obtain⟨b',Dh,h1,h2,h3⟩:=ih h;exact⟨b',Dh,h1,h2,List.mem_cons_of_mem _ h3⟩
theorem WP {l:Loc}{v:LV}:∀{args:List DV} {n:Nat},get (QX n args) l=some v->∃i x,l = .slot (n+i)/\v = .one (.v x)/\args[i]? = some x
 | [],_,h=>by cases h
 | x::r,n,h=>by
  simp only[QX,get]at h;split at h;· rename_i hl;cases h;exact⟨0,x,by rw[<- hl];rfl,rfl,rfl⟩
  ·obtain⟨i,y,h1,h2,h3⟩:=WP h;exact⟨i+1,y,by rw[h1];congr 1;omega,h2,by simpa using h3⟩
theorem RM (φ:BU):∀(s:St) (l:Loc) (v:LV),get (DP s φ) l=some v->get s l=some v/\∀b∈φ.map (·.1),l≠.heap b:=by
 induction φ with
 | nil=>intro s l v h;exact⟨h,sS⟩
 | cons p r ih=>
  obtain⟨b,cs⟩:=p;intro s l v h;obtain⟨h1,h2⟩:=ih _ l v h;rw[LH]at h1;by_cases hl:Loc.heap b=l;· rw[if_pos hl]at h1;cases h1
  ·rw[if_neg hl]at h1;refine⟨h1,fun b' Ab=>?_⟩;simp only[List.map_cons,List.mem_cons]at Ab;rcases Ab with rfl|Ab;· exact fun e=>hl e.symm
   ·exact h2 b' Ab
theorem O4 (s:St):∀(φ:BU) (l:Loc) (v:LV),get (D7 s φ) l=some v->(∃b cs,l = .heap b/\v = .row (cs.map SV.v)/\(b,cs)∈φ)\/(get s l=some v/\∀b∈φ.map (·.1),l≠.heap b)
 | [],l,v,h=>.inr ⟨h,sS⟩
 | (b,cs)::r,l,v,h=>by
  simp only[D7,C1]at h;split at h;· rename_i hl;cases h;exact .inl ⟨b,cs,hl.symm,rfl,sS⟩
  ·rename_i hl;rcases O4 s r l v h with⟨b',Dh,h1,h2,h3⟩|⟨h1,h2⟩;· exact .inl ⟨b',Dh,h1,h2,List.mem_cons_of_mem _ h3⟩
   ·refine .inr ⟨h1,fun b' Ab=>?_⟩;simp only[List.map_cons,List.mem_cons]at Ab;rcases Ab with rfl|Ab;· exact fun e=>hl e.symm
    ·exact h2 b' Ab
section
variable {X:Ctx}{s:St}{k:List Item}
theorem H6 {G:Gh}{D':Nat->Nat->Prop}{w':World}{φ:BU}(h:HeapOK D' w' φ){b:Nat}{cs:List DV}(hm:(b,cs)∈φ):KM { D:=D',ν:=G.ν,τ:=G.τ } w' b (cs.map SV.v):=by
 obtain⟨c,e,h1,h2,h3⟩:=h.rows b cs hm;refine⟨c,e,h1,by simpa using h2,fun i x hx=>?_⟩;rw[List.getElem?_map]at hx;cases hq:cs[i]? with
 | none=>simp[hq]at hx
 | some y=>
  simp[hq]at hx;subst hx;exact h3 i y hq
theorem Rel.call {G:Gh}{a:Act}{w:World}(R:Rel X G s a w){φ Ae:BU}(Bd:BP (get s) φ){D':Nat->Nat->Prop}{w':World}(hx:Ext (φ.map (·.1)) G.D w D' w')(Js:Wf X.gl D' w'){r:DV}{v:Value}(hr:RV D' w' r v)
  (hh:HeapOK D' w' Ae) (u6:∀b∈Ae.map (·.1),b∈φ.map (·.1)\/w.heap.size<=b) {d:Nat} (hd:d<X.n) :
  Rel X { D:=D',ν:=G.ν,τ:=G.τ } (D7 (DP (CV s (.slot d) (.one (.v r))) φ) Ae) (a.put (some d) v) w':=by
 have hp:=IR a (some d) v;have Fh:∀b∈φ.map (·.1),∃cs,get s (.heap b)=some (.row (List.map SV.v cs)):=by
  intro b hb;obtain⟨⟨b',Dh⟩,hm,rfl⟩:=List.mem_map.1 hb;exact⟨Dh,Bd b' Dh hm⟩
 have T:Trans X G a w { D:=D',ν:=G.ν,τ:=G.τ } (a.put (some d) v) w' (fun b=>b∈φ.map (·.1)):=by
  refine⟨hp.1,fun h=>h.keep hp.2 fun D hD=>(hx.block D (Array.getElem?_eq_some_iff.1 hD).1 fun hm=>?_).trans hD,hx.os,hx.tape,hx.output,hx.size,fun b hb hn=>hx.block b hb hn,fun b hb=>?_,hx.grow,fun b o hD hn=>⟨.inl (hx.new b o hD hn),Js.there b o hD⟩,R.nil⟩
  ·obtain⟨cs,hg⟩:=Fh D hm;obtain⟨c,e,h4,_⟩:=R.holds _ _ hg;rw[hD]at h4;cases h4
  ·obtain⟨cs,hg⟩:=Fh b hb;exact (R.own _ _ b hg rfl).imp id And.left
 refine R.step T (fun l u=>(l = .slot d/\u = .one (.v r))\/∃b cs,l = .heap b/\u = .row (cs.map SV.v)/\(b,cs)∈Ae) (fun l u h=>?_) (fun l u h=>?_) (fun l u l' u' b h h' hb Ab=>?_)
 ·rcases O4 _ _ _ _ h with h|⟨h,Ba⟩;· exact .inl (.inr h)
  ·obtain⟨h,hn⟩:=RM _ _ _ _ h
   ·rw[C1]at h;split at h;· rename_i hl;cases h;exact .inl (.inl ⟨hl.symm,rfl⟩)
    ·rename_i hl;refine .inr ⟨h,fun n hn=>KW _ _ _ _ (fun e=>hl (by rw[hn,e])),fun b hb hB=>?_,fun _ _=>rfl,fun _ _=>rfl⟩;obtain⟨cs,hg⟩:=Fh b hB;exact hn b hB (R.sep _ _ _ _ b hg h rfl hb).symm
 ·rcases h with⟨rfl,rfl⟩|⟨b,cs,rfl,rfl,hm⟩
  ·refine⟨?_,fun b hb=>by cases hb⟩;show RV D' w' r _;rw[I9 _ _ _ (by rw[R.size];exact hd)];exact hr
  ·refine⟨H6 hh hm,fun b' Ab=>?_⟩;simp only[BI,uC]at Ab;subst Ab;have Sp:b∈Ae.map (·.1):=List.mem_map.2 ⟨_,hm,rfl⟩;refine⟨(u6 b Sp).symm,?_,fun _ o=>hh.nodata b cs hm o⟩;rcases u6 b Sp with h1|h1
   ·obtain⟨Dh,hg⟩:=Fh b h1;exact R.own _ _ b hg rfl
   ·exact .inl (Nat.le_trans R.ext.size h1)
 ·rcases h with⟨rfl,rfl⟩|⟨b1,cs,rfl,rfl,hm⟩;· cases hb
  ·rcases h' with⟨rfl,rfl⟩|⟨b2,Dh,rfl,rfl,Ve⟩;· cases Ab
   ·simp only[BI,uC]at hb Ab;rw[hb,Ab]
theorem V7 {P:Program}{f:FuncId}(h:ZT P f)(args:Array Value)(w:World):(callFunc f args).run P w = .ok (.enter f args) w:=by
 obtain⟨fn,h1,h2,h3⟩:=h;have h4:fn.body.isNone=false:=by cases hb:fn.body <;> simp_all
 simp only[callFunc,Sem.run_bind,run_program,Result.andThen_ok,h1,h3,h4,Bool.false_eq_true,if_false,Sem.run_pure]
theorem ZU {o:Oper}{f:FuncId}{x:Operand}{args:Array Operand}{Ct:Array TypeId}(ho:o.op = .call { callee:=.value x,args:=args,argTypes:=Ct }){fi ca:Array Value}
  (hx:D4 X (get s) x=some (.v (.prim (.func (.func f) fi ca)))) {ds:List DV} (u8:∃d0,HP X (get s) args.toList=some d0/\ds=fi.toList.map DV.prim++d0++ca.toList.map DV.prim) (Ja:∀v∈fi.toList++ca.toList,FR v)
  {φ:BU} {R:DV->BU->Prop} (hc:Con X.P X.gl f ds φ R) (Bd:BP (get s) φ) (Ai:(φ.map (·.1)).Nodup) {d:Nat} (hd:o.dst=some d) (Eb:d<X.n) {G:Gh} {a:Act} {w:World} (R0:Rel X G s a w) (next:Act->World->Prop) (Q:Exit->Act->World->Prop)
  (hk:∀r Ae G' a' w',R r Ae->(∀b∈Ae.map (·.1),b∈φ.map (·.1)\/∀l v,get s l=some v->BI G l v≠some b)->Rel X G' (D7 (DP (CV s (.slot d) (.one (.v r))) φ) Ae) a' w'->next a' w'):o.wpIn X.F 0 X.P a w next Q:=by
 obtain⟨d0,Jr,rfl⟩:=u8;have hxv:=(BT (AD R0 hx)).1;obtain⟨q1,q2⟩:=RF R0 Jr;have q1':args.size=d0.length:=by simpa using q1
 refine PT (by intro c e;rw[ho]at e;cases e) ?_;have Bf:(execOp a.eval o).run X.P w = .ok (.enter f (fi++args.map a.eval++ca)) w:=by
  simp[execOp,ho,resolve,hxv,Deferred.ofValue,invoke,V7 hc.1]
 rw[Bf,zW];have Ij:∀v∈fi.toList++ca.toList,RV G.D w (.prim v) v:=fun v hv=>.prim v (Ja v hv);refine (hc.2 G.D w _ R0.wf ?_ ?_ (SN R0 Bd Ai)).mono ?_;· simp[<- q1]
 ·intro i x v hx hv;have hl:(fi++args.map a.eval++ca).toList=fi.toList++args.toList.map a.eval++ca.toList:=sS;have Di:(fi.toList++args.toList.map a.eval++ca.toList)[i]? = some v:=by rw[<- hl,Array.getElem?_toList];exact hv
  by_cases h1:i<fi.size
  ·rw[List.append_assoc,List.getElem?_append_left (by simpa using h1)]at hx Di;rw[List.getElem?_map]at hx;rw[Di]at hx;cases hx;exact Ij v (List.mem_append.2 (.inl (uE Di)))
  ·by_cases h2:i<fi.size+args.size
   ·rw[List.append_assoc,List.getElem?_append_right (by simp;omega),List.getElem?_append_left (by simp;omega)]at hx Di;simp only[List.length_map,Array.length_toList]at hx Di;exact q2 _ _ _ hx Di
   ·rw[List.getElem?_append_right (by simp;omega)]at hx Di;simp only[List.length_append,List.length_map,Array.length_toList,<- q1']at hx Di;rw[List.getElem?_map]at hx;rw[Di]at hx;cases hx;exact Ij v (List.mem_append.2 (.inr (uE Di)))
 ·rintro e w' ⟨v,D',r,Ae,rfl,hR,Rv,Js,Kh,hh,u6⟩;rw[hd];refine hk r Ae _ _ w' hR (fun b hb=>?_) (R0.call Bd Rv Js Kh hh u6 Eb);rcases u6 b hb with h|h;· exact .inl h
  ·exact .inr fun l v hg Of=>by
    have:=JE (R0.holds l v hg) Of;omega
theorem ML {o:Oper}{f:FuncId}{args:Array Operand}{Ct:Array TypeId}(ho:o.op = .call { callee:=.value (.func f),args:=args,argTypes:=Ct })
  {ds:List DV} (u8:HP X (get s) args.toList=some ds) {φ Ae:BU} {r:DV} (hc:U8 X.P X.gl f ds φ r Ae) (Bd:BP (get s) φ) (Ai:(φ.map (·.1)).Nodup) {d:Nat} (hd:o.dst=some d) (Eb:d<X.n) :
  EU X s o (D7 (DP (CV s (.slot d) (.one (.v r))) φ) Ae):=by
 intro G a w R next Q hK
 refine ZU (fi:=#[]) (ca:=#[]) ho rfl ⟨ds,u8,sS⟩ sS hc Bd Ai hd Eb R next Q ?_
 rintro r' ψ G' a' w' ⟨rfl,rfl⟩ _ R';exact hK G' a' w' R'
theorem z01 {P : Program} {gl : AF} {f : FuncId} {args : List DV} {φ : BU} {R : DV -> BU -> Prop} {fn : Func} {body : Code} (hf : P.funcs[f]? = some fn) (hb : fn.body = some body) (Ku : (fn.name == "runtime.NumGoroutine") = false)
  (hn:args.length<=fn.ntmps)
  (h:∀X:Ctx,X.P=P->X.gl=gl->X.f=f->X.fn=fn->X.n=fn.ntmps->X.R=R/\X.md = .fn->X.ids=φ.map (·.1)->(∀x∈args,DV.fit x)->W X [.code body] (OY args φ)):Con P gl f args φ R:=by
 refine⟨⟨fn,hf,by simp[hb],Ku⟩,?_⟩;intro D w vs Js Bb u8 El cs
 let X:Ctx:={ P:=P,gl:=gl,f:=f,fn:=fn,n:=fn.ntmps,ids:=φ.map (·.1),D0:=D,w0:=w,R:=R,md:=.fn }
 have u5:∀x∈args,DV.fit x:=by
  intro x hx;obtain⟨i,hi,rfl⟩:=List.mem_iff_getElem.1 hx;exact RV.fit (u8 i _ vs[i] (uB hi) (uG oO))
 have hW:=h X rfl rfl rfl rfl rfl ⟨rfl,rfl⟩ rfl u5
 let a:Act:={ tmps:=vs++Array.replicate (fn.ntmps - vs.size) undef,defers:=[] }
 have Rl:Rel X { D:=D,ν:=fun _=>0,τ:=fun _=>(none,0) } (OY args φ) a w:=by
  have Bq:∀l v,get (OY args φ) l=some v->(∃i x,l = .slot i/\v = .one (.v x)/\args[i]? = some x)\/∃b cs,l = .heap b/\v = .row (cs.map SV.v)/\(b,cs)∈φ:=by
   intro l v hl;unfold OY at hl;rw[JG]at hl;rcases Option.or_eq_some_iff.1 hl with hl|⟨-,hl⟩
   ·obtain⟨i,x,h1,h2,h3⟩:=WP hl;exact .inl ⟨i,x,by simpa using h1,h2,h3⟩
   ·exact .inr (NB hl)
  refine⟨by simp[a,X];omega,⟨[],rfl,List.nodup_nil,sS⟩,Ext.refl _ _ _,Js,rfl,fun l v hl=>?_,fun l v l' v' b hl Ha hb Ab=>?_,fun l v b hl hb=>?_,fun l v b o hl hb _=>?_⟩
  ·rcases Bq l v hl with⟨i,x,rfl,rfl,hx⟩|⟨b,cs,rfl,rfl,hm⟩
   ·have hi:i<vs.size:=by rw[Bb];exact (uA hx).1
    have hv:vs[i]? = some vs[i]:=uG hi;show RV D w x _;have:a.tmps.getD i undef=vs[i]:=by
     simp[a,Array.getElem?_append_left hi,hv]
    rw[this];exact u8 i x _ hx hv
   ·exact H6 (G:={ D:=D,ν:=fun _=>0,τ:=fun _=>(none,0) }) El hm
  ·rcases Bq l v hl with⟨i,x,rfl,rfl,hx⟩|⟨b1,cs,rfl,rfl,hm⟩;· cases hb
   ·rcases Bq l' v' Ha with⟨i,x,rfl,rfl,hx⟩|⟨b2,Dh,rfl,rfl,Ve⟩;· cases Ab
    ·simp only[BI,uC]at hb Ab;rw[hb,Ab]
  ·rcases Bq l v hl with⟨i,x,rfl,rfl,hx⟩|⟨b1,cs,rfl,rfl,hm⟩;· cases hb
   ·simp only[BI,uC]at hb;subst hb;exact .inr ⟨List.mem_map.2 ⟨_,hm,rfl⟩,rfl⟩
  ·rcases Bq l v hl with⟨i,x,rfl,rfl,hx⟩|⟨b1,cs,rfl,rfl,hm⟩;· cases hb
   ·simp only[BI,uC]at hb;subst hb;exact El.nodata _ _ hm o
 let b:Frame:={ (default:Frame) with fn:=f,kind:=.normal }
 have Hw:Frame.enter P f vs .normal=b.atR a [.code body]:=by
  simp[Frame.enter,Frame.atR,hf,hb,b,a];rfl
 obtain⟨w',fr,⟨v,⟨D',r,Ae,k1,k2,k3,k4,k5,k6⟩,h3,h4⟩,h2⟩:=hW _ a w b cs rfl rfl rfl Rl;rw[<- Hw]at h2;exact⟨.returned v,w',fr,⟨v,D',r,Ae,rfl,k1,k2,k3,k4,k5,k6⟩,h2,h3,h4⟩
def R9 (σ:Nat->Nat):SV->SV->Prop
 | .v x,.v y=>x=y
 | .v x,.own _ els=>x = .sl els
 | .loc k off,.loc k' Wg=>k=k'/\off=Wg
 | .dp els i off,.dp Tw i' Wg=>els=Tw/\i=i'/\off=Wg
 | .own t els,.own t' Tw=>σ t=t'/\els=Tw
 | .v x,.ag cs _=>x = .agg cs
 | .ag cs ns,.ag Dh ns'=>cs=Dh/\ns=ns'
 | _,_=>False
def KN (σ:Nat->Nat):List SV->List SV->Prop
 | [],[]=>True
 | x::r,y::t=>R9 σ x y/\KN σ r t
 | _,_=>False
def gZ (σ:Nat->Nat):LV->Option LV->Prop
 | .one x,some (.one y)=>R9 σ x y
 | .row cs,some (.row ds)=>KN σ cs ds
 | .ob r,some (.ob q)=>r=q
 | .mp l,some (.mp q)=>l=q
 | _,_=>False
def U9 (σ:Nat->Nat)(s:St)(l:Loc)(v:LV):Prop:=
 match l,v with
 | .tok t,.tk E n=>(σ t=0/\n=0)\/(σ t≠0/\get s (.tok (σ t))=some (.tk E n))
 | l,v=>gZ σ v (get s l)
def K4 (σ:Nat->Nat)(s:St):St->Prop
 | []=>True
 | (l,v)::r=>U9 σ s l v/\K4 σ s r
def WQ:List (Nat × Nat)->Nat->Nat
 | [],n=>n
 | (x,y)::r,n=>if n=x then y else WQ r n
def HC:St->List Nat
 | []=>[]
 | (.tok t,_)::r=>t::HC r
 | _::r=>HC r
theorem ZV {G:Gh}{w:World}{σ:Nat->Nat}{x y:SV}{v:Value}(h:R9 σ x y)(hr:LX G w y v):LX { D:=G.D,ν:=G.ν,τ:=fun t=>G.τ (σ t) } w x v:=by
 cases x <;> cases y <;> simp only[R9]at h;· subst h;exact hr
 ·subst h;exact hr.2
 ·subst h;exact hr.1
 ·obtain⟨rfl,rfl⟩:=h;exact hr
 ·obtain⟨rfl,rfl,rfl⟩:=h;exact hr
 ·obtain⟨rfl,rfl⟩:=h;exact hr
 ·obtain⟨rfl,rfl⟩:=h;exact hr
theorem z02 {σ:Nat->Nat}{x y:SV}(h:R9 σ x y)(hc:y.isCell=true):x.isCell=true:=by
 cases x <;> cases y <;> simp only[R9]at h;· subst h;exact hc
 ·subst h;rfl
 ·cases hc
 ·rfl
 ·rfl
 ·rfl
 ·cases hc
theorem XS {σ:Nat->Nat}:∀{cs ds:List SV},KN σ cs ds->cs.length=ds.length/\∀(i:Nat) (x:SV),cs[i]? = some x->∃y,ds[i]? = some y/\R9 σ x y
 | [],[],_=>⟨rfl,sS⟩
 | x::r,y::t,h=>by
  obtain⟨h1,h2⟩:=h;obtain⟨k1,k2⟩:=XS h2;refine⟨by simp[k1],fun i z hz=>?_⟩;cases i with
  | zero=>simp at hz;subst hz;exact⟨y,rfl,h1⟩
  | succ i=>obtain⟨q,hq⟩:=k2 i z (by simpa using hz);exact⟨q,by simpa using hq.1,hq.2⟩
 | [],_::_,h=>h.elim
 | _::_,[],h=>h.elim
theorem fE {σ:Nat->Nat}{s:St}:∀{s':St},K4 σ s s'->∀l v,get s' l=some v->U9 σ s l v
 | [],_,l,v,h=>by cases h
 | (m,u)::r,h,l,v,hg=>by
  simp only[get]at hg;split at hg;· cases hg;subst_vars;exact h.1
  ·exact fE h.2 l v hg
theorem ZW {s:St}{t:Nat}{v:LV}(h:get s (.tok t)=some v):t∈HC s:=by
 induction s with
 | nil=>cases h
 | cons p r ih=>
  obtain⟨m,u⟩:=p;simp only[get]at h;split at h
  ·subst_vars;simp[HC]
  ·cases m <;> simp only[HC] <;> first|exact ih h|exact List.mem_cons_of_mem _ (ih h)
def PZ (σ:Nat->Nat):List Nat->Prop
 | []=>True
 | t::r=>(σ t=0\/∀t'∈r,t' = t\/σ t'≠σ t)/\PZ σ r
theorem XT {σ:Nat->Nat}:∀{l:List Nat},PZ σ l->∀t∈l,∀t'∈l,σ t≠0->σ t=σ t'->t=t'
 | [],_,t,h,_,_,_,_=>by cases h
 | x::r,h,t,ht,t',ht',Ba,he=>by
  obtain⟨h1,h2⟩:=h;rcases List.mem_cons.1 ht with e1|m1
  ·rcases List.mem_cons.1 ht' with e2|m2;· rw[e1,e2]
   ·rw[e1]at Ba he;rcases h1 with h1|h1;· exact absurd h1 Ba
    ·rcases h1 t' m2 with h|h;· rw[e1,h]
     ·exact absurd he.symm h
  ·rcases List.mem_cons.1 ht' with e2|m2
   ·rw[e2]at he;rcases h1 with h1|h1;· exact absurd (he.trans h1) Ba
    ·rcases h1 t m1 with h|h;· rw[e2,h]
     ·exact absurd he h
   ·exact XT h2 t m1 t' m2 Ba he
theorem Rel.sub {G:Gh}{a:Act}{w:World}(R:Rel X G s a w)(l:List (Nat × Nat)){s':St}(h0:WQ l 0=0)(hs:K4 (WQ l) s s')(hi:PZ (WQ l) (HC s')):Rel X { D:=G.D,ν:=G.ν,τ:=fun t=>G.τ (WQ l t) } s' a w:=by
 have key:∀m v,get s' m=some v->(∃t E n,m = .tok t/\v = .tk E n/\((WQ l t=0/\n=0)\/(WQ l t≠0/\get s (.tok (WQ l t))=some (.tk E n))))\/(m.isTok=false/\∃u,get s m=some u/\gZ (WQ l) v (some u)):=by
  intro m v hg;have hf:=fE hs m v hg;unfold U9 at hf;split at hf;· rename_i t E n;exact .inl ⟨t,E,n,rfl,rfl,hf⟩
  ·rename_i Ba;cases hu:get s m with
   | none=>rw[hu]at hf;cases v <;> exact hf.elim
   | some u=>
    rw[hu]at hf;refine .inr ⟨?_,u,rfl,hf⟩;cases m with
    | tok t=>
     cases v with
     | tk E n=>exact (Ba t E n rfl rfl).elim
     | one x=>
      have:=R.holds _ _ hu;cases u with
      | tk E n=>exact hf.elim
      | one y=>exact this.elim
      | row cs=>exact this.elim
      | ob r=>exact this.elim
      | mp l=>exact this.elim
     | row cs=>
      have:=R.holds _ _ hu;cases u with
      | tk E n=>exact hf.elim
      | one y=>exact this.elim
      | row cs=>exact this.elim
      | ob r=>exact this.elim
      | mp l=>exact this.elim
     | mp l=>
      have:=R.holds _ _ hu;cases u with
      | tk E n=>exact hf.elim
      | one y=>exact this.elim
      | row cs=>exact this.elim
      | ob r=>exact this.elim
      | mp l=>exact this.elim
     | ob r=>
      have:=R.holds _ _ hu;cases u with
      | tk E n=>exact hf.elim
      | one y=>exact this.elim
      | row cs=>exact this.elim
      | ob r=>exact this.elim
      | mp l=>exact this.elim
    | _=>rfl
 have Ff:∀m v b,get s' m=some v->BI { D:=G.D,ν:=G.ν,τ:=fun t=>G.τ (WQ l t) } m v=some b->(∃t E n,m = .tok t/\v = .tk E n/\WQ l t≠0/\get s (.tok (WQ l t))=some (.tk E n)/\BI G (.tok (WQ l t)) (.tk E n)=some b)\/(m.isTok=false/\∃u,get s m=some u/\BI G m u=some b):=by
  intro m v b hg hb;rcases key m v hg with⟨t,E,n,rfl,rfl,h⟩|⟨h1,u,h2,h3⟩
  ·rcases h with⟨h1,rfl⟩|⟨h1,h2⟩
   ·simp only[BI,HA,h1,R.nil]at hb;cases hb
   ·exact .inl ⟨t,E,n,rfl,rfl,h1,h2,hb⟩
  ·refine .inr ⟨h1,u,h2,?_⟩;cases m with
   | slot n=>cases v <;> cases hb
   | tok t=>cases h1
   | loc q=>cases v with
    | row cs=>cases u with
     | row ds=>exact hb
     | _=>exact h3.elim
    | ob r=>cases u with
     | ob q=>exact hb
     | _=>exact h3.elim
    | mp r=>cases u with
     | mp q=>exact hb
     | _=>exact h3.elim
    | _=>cases hb
   | heap q=>cases v with
    | row cs=>cases u with
     | row ds=>exact hb
     | _=>exact h3.elim
    | ob r=>cases u with
     | ob q=>exact hb
     | _=>exact h3.elim
    | mp r=>cases u with
     | mp q=>exact hb
     | _=>exact h3.elim
    | _=>cases hb
 have Ak:∀b cs ds,KN (WQ l) cs ds->KM G w b ds->KM { D:=G.D,ν:=G.ν,τ:=fun t=>G.τ (WQ l t) } w b cs:=by
  rintro b cs ds hle ⟨c,e,h1,h2,h3⟩;obtain⟨k1,k2⟩:=XS hle;refine⟨c,e,h1,oO,fun i x hx=>?_⟩;obtain⟨y,hy,Qe⟩:=k2 i x hx;obtain⟨q1,v,q2,q3⟩:=h3 i y hy;exact⟨z02 Qe q1,v,q2,ZV Qe q3⟩
 refine⟨R.size,R.defers,R.ext,R.wf,by simp only[h0];exact R.nil,fun m v hg=>?_,fun m v m' v' b hg Hd hb Ab=>?_,fun m v b hg hb=>?_,fun m v b o hg hb ht=>?_⟩
 ·rcases key m v hg with⟨t,E,n,rfl,rfl,h⟩|⟨h1,u,h2,h3⟩
  ·rcases h with⟨h1,rfl⟩|⟨h1,h2⟩;· simp only[MC,MB,h1,R.nil,and_self]
   ·exact R.holds _ _ h2
  ·have hh:=R.holds _ _ h2;cases m with
   | tok t=>cases h1
   | slot n=>cases v with
    | one x=>cases u with
     | one y=>exact ZV h3 hh
     | _=>exact h3.elim
    | _=>cases u <;> first|exact hh.elim|exact h3.elim
   | loc q=>cases v with
    | row cs=>cases u with
     | row ds=>exact Ak _ _ _ h3 hh
     | _=>exact h3.elim
    | _=>cases u <;> first|exact hh.elim|exact h3.elim
   | heap q=>cases v with
    | row cs=>cases u with
     | row ds=>exact Ak _ _ _ h3 hh
     | _=>exact h3.elim
    | ob r=>cases u with
     | ob q=>obtain rfl:r=q:=h3;exact hh
     | _=>exact h3.elim
    | mp r=>cases u with
     | mp q=>obtain rfl:r=q:=h3;exact hh
     | _=>exact h3.elim
    | _=>cases u <;> first|exact hh.elim|exact h3.elim
 ·rcases Ff m v b hg hb with⟨t,E,n,rfl,rfl,h1,h2,h3⟩|⟨h1,u,h2,h3⟩
  ·rcases Ff m' v' b Hd Ab with⟨t',E',n',rfl,rfl,k1,k2,k3⟩|⟨k1,u',k2,k3⟩
   ·have:=R.sep _ _ _ _ b h2 k2 h3 k3;simp only[Loc.tok.injEq]at this;rw[XT hi t (ZW hg) t' (ZW Hd) h1 this]
   ·have:=R.sep _ _ _ _ b h2 k2 h3 k3;subst this;cases k1
  ·rcases Ff m' v' b Hd Ab with⟨t',E',n',rfl,rfl,k1,k2,k3⟩|⟨k1,u',k2,k3⟩
   ·have:=R.sep _ _ _ _ b h2 k2 h3 k3;subst this;cases h1
   ·exact R.sep _ _ _ _ b h2 k2 h3 k3
 ·rcases Ff m v b hg hb with⟨t,E,n,rfl,rfl,h1,h2,h3⟩|⟨h1,u,h2,h3⟩
  ·rcases R.own _ _ b h2 h3 with h|⟨_,h⟩;· exact .inl h
   ·cases h
  ·rcases R.own _ _ b h2 h3 with h|⟨h,_⟩;· exact .inl h
   ·exact .inr ⟨h,h1⟩
 ·rcases Ff m v b hg hb with⟨t,E,n,rfl,rfl,h1,h2,h3⟩|⟨h1,u,h2,h3⟩;· cases ht
  ·exact R.data _ _ b o h2 h3 h1
theorem GH (l:List (Nat × Nat)){s':St}(h0:WQ l 0=0)(hs:K4 (WQ l) s s')(hi:PZ (WQ l) (HC s'))(h:W X k s'):W X k s:=
 fun _ a w b cs hf hk hr R=>h _ a w b cs hf hk hr (R.sub l h0 hs hi)
theorem CH {α:Type}(I:α->Prop)(S:α->St)(μ:α->Nat){c:Code}(x0:α)(h0:I x0)
  (round:∀x,I x->(∀y,I y->μ y<μ x->W X (.inLoop c::k) (S y))->W X (.code c::.inLoop c::k) (S x)):W X (.code (.loop c)::k) (S x0):=by
 refine B4 ?_;have key:∀n x,μ x=n->I x->W X (.code c::.inLoop c::k) (S x):=by
  intro n
  induction n using Nat.strongRecOn with
  | _ n ih=>
   intro x hx hi;exact round x hi fun y hy Ag=>AB (ih (μ y) (hx ▸ Ag) y rfl hy)
 exact key _ x0 rfl h0
end
end
end Go.Proofs.YtoniciijokeidaaGreatDoor.Lift
