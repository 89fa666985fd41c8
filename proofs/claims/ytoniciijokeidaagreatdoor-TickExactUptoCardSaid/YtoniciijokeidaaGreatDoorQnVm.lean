/-
  'TickExact' returns true for every list of numbers, type, term, list of types and number that are read, as long as what is read is of bulk at most 1048576; the arguments read behind the call as they read before it.
-/
import Derived.Test.YtoniciijokeidaaGreatDoorQn16
import Derived.Test.YtoniciijokeidaaGreatDoorCards
import Derived.Test.YtoniciijokeidaaGreatDoorTie
import Derived.Deep.DeepHandedRow
import Derived.Lib.LaidTab
set_option maxHeartbeats 8000000
set_option maxRecDepth 100000
set_option linter.unusedSimpArgs false
set_option linter.unusedVariables false
set_option linter.unnecessarySimpa false
namespace Go.Proofs.YtoniciijokeidaaGreatDoor.tickExact
open Go Go.ChangeShapes Go.WideShapes Go.ChangeAt Go.RowKit Go.Proofs.YtoniciijokeidaaGreatDoor.Lift
theorem own:ownKnob Tryz.prog.godebug=none:=by kernel_rfl
theorem gTab : Tryz.prog.globalNamed "proofprograms/tree.arities" = some 0 := by kernel_rfl
theorem gTabType:(Tryz.prog.globals[0]?).map (·.type)=some 233:=by kernel_rfl
theorem cellsArr:Tryz.prog.cellsOf 233=14:=by kernel_rfl
theorem cellsInt:Tryz.prog.cellsOf 3=1:=by kernel_rfl
theorem table {W : World} (h : laidMetH Tryz.prog Rows.tickExactUptoRow.laid W) : Lib.TabIs Tryz.prog W "proofprograms/tree.arities" .i64 [0, 0, 1, 2, 0, 1, 3, 0, 2, 3, 2, 1, 1, 0] :=
 Lib.tabIs_of_head (rest:=[]) gTab gTabType Tryz.underlying233 Tryz.underlying3 cellsInt cellsArr h
theorem wf_arr {W:World}(h:laidMetH Tryz.prog Rows.tickExactUptoRow.laid W):Wf [(0,H1)] (Old W) W:=by
 refine⟨fun _ _ h=>h,fun g els hm=>?_⟩;obtain⟨rfl,rfl⟩:g=0/\els=H1:=by simpa using hm
 have hc:∀k,k<14->W.cell? ⟨0,0+k,none⟩=some (.int .i64 ([0,0,1,2,0,1,3,0,2,3,2,1,1,0].getD k 0)):=fun k hk=>by
  rw[Nat.zero_add];exact (table h).cell gTab k hk
 refine⟨14,PW (E:=1) (f:=fun k=>.int .i64 ([0,0,1,2,0,1,3,0,2,3,2,1,1,0].getD k 0)) (by decide) (by decide) (by decide) ?_ (fun k hk=>⟨hc k hk,_,hc k hk⟩) ?_⟩
 ·intro e he c hc;obtain⟨n,_,rfl⟩:=List.mem_map.1 he;obtain rfl:=List.mem_singleton.1 hc;rfl
 ·intro i j e c he hd
  obtain⟨n,hn,rfl⟩:∃n,([0,0,1,2,0,1,3,0,2,3,2,1,1,0]:List Int)[i]? = some n/\[A0 n]=e:=by
   rw[H1,AP,List.getElem?_map]at he;obtain⟨n,h1,h2⟩:=Option.map_eq_some_iff.1 he;exact⟨n,h1,h2⟩
  cases j with
  | zero=>
   simp at hd;subst hd;have hi:i<14:=(List.getElem?_eq_some_iff.1 hn).1;have:([0,0,1,2,0,1,3,0,2,3,2,1,1,0]:List Int).getD (i * 1+0) 0=n:=by rw[List.getD_eq_getElem?_getD,Nat.mul_one,Nat.add_zero,hn];rfl
   show RV _ _ _ (.int .i64 (([0,0,1,2,0,1,3,0,2,3,2,1,1,0]:List Int).getD (i * 1+0) 0));rw[this];refine .prim _ ?_;have hb:0<=n/\n<=3:=by
    have:=List.mem_of_getElem? hn;simp at this;omega
   exact (show ∀n:Int,0<=n/\n<=3->FR (.int .i64 n) from fun n h=>by
    have h1:IntKind.i64.min<=0:=by decide
    have h2:3<=IntKind.i64.max:=by decide
    exact⟨by omega,by omega⟩) n hb
  | succ j=>simp at hd
theorem agg_cells {P:Program}{w:World}{r:Reach}{base:Nat}{t:TypeId}{fs:Array Field}(ht:P.underlying t=some (.struct fs)){v:Value}(h:Value.okWide P w r base t v):∃vs,v = .agg vs:=by
 cases v <;> first|exact⟨_,rfl⟩|(simp[Value.okWide,Cell.okWide,Cell.ok,ht]at h)
theorem contract (H:Type)(enc:TypeId × Value->H)(W:World)(base:Nat)(args:Array Value)(ds gs:List (DataW H))(before:List MemPlace)
  (Hq:∀(j:Nat) t v,Tryz.f3.params[j]? = some t->args[j]? = some v->Value.okWide Tryz.prog W .any base t v)
  (hW:DataW.Whole enc Tryz.prog Tryz.f3.params.toList Rows.tickExactSpec.vars false W args.toList ds gs before) (hk:Rows.uptoSmall H (ds++gs)=true) (hL:laidMetH Tryz.prog Rows.tickExactUptoRow.laid W) :
  Calls Tryz.prog 3 args W fun e W'=>∃v,e = .returned v/\Rows.tickExactSpec.post enc Tryz.prog Tryz.f3 false true false false W args v W':=by
 have hW':=hW;obtain⟨p,q,hA0,hV,rfl,Kc,Ai⟩:=hW;have hA:DataW.TrodAll enc Tryz.prog W 0 (fun _=>true) true Tryz.f3.params.toList args.toList ds p:=hA0;rw[Tryz.params3]at hA Hq;obtain⟨v0,vs0,d0,ds0,p0,q0,hargs0,rfl,rfl,h0,r0⟩:=trodAll_cons hA;obtain⟨v1,vs1,d1,ds1,p1,q1,hargs1,rfl,rfl,h1,r1⟩:=trodAll_cons r0;obtain⟨v2,vs2,d2,ds2,p2,q2,hargs2,rfl,rfl,h2,r2⟩:=trodAll_cons r1;obtain⟨v3,vs3,d3,ds3,p3,q3,hargs3,rfl,rfl,h3,r3⟩:=trodAll_cons r2;obtain⟨v4,vs4,d4,ds4,p4,q4,hargs4,rfl,rfl,h4,r4⟩:=trodAll_cons r3;obtain⟨rfl,rfl,rfl⟩:=trodAll_nil r4;obtain rfl:args = #[v0,v1,v2,v3,v4]:=by cases args;simp_all
 obtain⟨rfl,rfl⟩:=trodVars_none hV;have Zs:=of_decide_eq_true hk;simp only[List.append_nil,Rows.uptoBulkAll]at Zs;have hv0:Value.okWide Tryz.prog W .any base 22 v0:=Hq 0 _ v0 (by simp) (by simp);obtain⟨a0,hrv0,Nc⟩:=z4y Tryz.underlying22 Tryz.underlying3 (by kernel_rfl) h0 (YO Tryz.underlying22 hv0) (by omega);have Ry:Value.okWide Tryz.prog W .any base 23 v3:=Hq 3 _ v3 (by simp) (by simp);obtain⟨a3,hrv3,Mf⟩:=xA (f:=Ty.cells) (g:=Ty.tot) Tryz.underlying23 (TS:=[23,25,3]) (by kernel_rfl) (by simp) (dH Tryz.underlying3 Tryz.underlying25 Tryz.underlying23 (by kernel_rfl)) h3 (YO Tryz.underlying23 Ry) (by omega);have Dv:Value.okWide Tryz.prog W .any base 25 v1:=Hq 1 _ v1 (by simp) (by simp);obtain⟨a1,hrv1,Cx⟩:=gM (TS:=[25,23,3]) (by kernel_rfl) (by simp) (dH Tryz.underlying3 Tryz.underlying25 Tryz.underlying23 (by kernel_rfl)) (fun a c hc=>by rw[Ty.cells_eq]at hc;simp at hc;rcases hc with rfl|rfl <;> rfl) h1 (agg_cells Tryz.underlying25 Dv) (by omega);have Su:Value.okWide Tryz.prog W .any base 28 v2:=Hq 2 _ v2 (by simp) (by simp)
 obtain⟨a2,hrv2,Bt⟩:=gM (TS:=[28,26,25,23,3]) (by kernel_rfl) (by simp) (zcj Tryz.underlying3 Tryz.underlying25 Tryz.underlying23 (by kernel_rfl) Tryz.underlying28 Tryz.underlying26 (by kernel_rfl)) (fun a c hc=>by rw[Tm.cells_eq]at hc;simp at hc;rcases hc with rfl|rfl|rfl|rfl|rfl <;> rfl) h2 (agg_cells Tryz.underlying28 Su) (by omega);obtain⟨a4,rfl,rfl,rfl,ha4⟩:=open_int Tryz.underlying3 (Hq 4 _ v4 (by simp) (by simp)) h4;refine ((kJ (gl:=[(0,H1)]) rfl a0 a1 a2 a3 a4 Cx Bt Mf).2 (Old W) W #[v0,v1,v2,v3,.int .i64 a4] (wf_arr hL) rfl (fun i x v hx hv=>?_) ⟨fun _ _ h=>(by cases h),fun _ _ h=>(by cases h),List.nodup_nil⟩).mono ?_
 ·match i with
  | 0=>simp at hx hv;subst hx hv;exact hrv0
  | 1=>simp at hx hv;subst hx hv;exact hrv1
  | 2=>simp at hx hv;subst hx hv;exact hrv2
  | 3=>simp at hx hv;subst hx hv;exact hrv3
  | 4=>simp at hx hv;subst hx hv;exact .prim _ (by simpa [Lit.wf,FR] using ha4)
  | i+5=>simp at hx
 ·rintro e W' ⟨v,D',r,Ae,rfl,⟨rfl,rfl⟩,Rv,Js,hr,-,-⟩;obtain rfl:=(BT hr).1;have Jb:=dF Rv;refine⟨_,rfl,oW (pa:=p0++(p1++(p2++(p3++([]++[]))))) (pv:=[]) hW' (fun _ _ _=>trodAll_cons_mk (shut_bool Tryz.underlying4 _) trodAll_mk0) (fun sp On=>?_) (fun _ _=>rfl) rfl Rv (ok_one (by kernel_rfl) rfl (okWide_bool_mk Tryz.underlying4 _))⟩;refine trodAll_cons_mk (QQ (TS:=[22,3]) (by kernel_rfl) Jb (by simp) h0 (fun p hp=>On p (by simp[hp]))) ?_;refine trodAll_cons_mk (QQ (TS:=[25,23,3]) (by kernel_rfl) Jb (by simp) h1 (fun p hp=>On p (by simp[hp]))) ?_;refine trodAll_cons_mk (QQ (TS:=[28,26,25,23,3]) (by kernel_rfl) Jb (by simp) h2 (fun p hp=>On p (by simp[hp]))) ?_;refine trodAll_cons_mk (QQ (TS:=[23,25,3]) (by kernel_rfl) Jb (by simp) h3 (fun p hp=>On p (by simp[hp]))) ?_;refine trodAll_cons_mk (shut_int Tryz.underlying3 ha4) ?_;exact trodAll_mk0
def wit:Array Value:=#[.slice none 0 0,.agg #[.int .i64 0,.slice none 0 0],.agg #[.int .i64 0,.int .i64 0,.int .i64 0,.slice none 0 0,.slice none 0 0],.slice none 0 0,.int .i64 0]
noncomputable def laidWorld (os:Os):World:=
 { World.holding Tryz.prog os ⟨#[],#[],[]⟩ with heap:=(World.holding Tryz.prog os ⟨#[],#[],[]⟩).heap.modify 0 fun
   | .cells _ t frozen=>.cells #[.int .i64 0,.int .i64 0,.int .i64 1,.int .i64 2,.int .i64 0,.int .i64 1,.int .i64 3,.int .i64 0,.int .i64 2,.int .i64 3,.int .i64 2,.int .i64 1,.int .i64 1,.int .i64 0] t frozen
   | o=>o }
theorem laid_met (os:Os):laidMet Tryz.prog Rows.tickExactUptoRow.laid ((laidWorld os).forCall (fun _ _=>0) ⟨#[],wit,[]⟩).memory:=
 laidMet_of_run' 8 (by kernel_rfl) (by kernel_rfl)
theorem reads (os:Os){H:Type}(enc:TypeId × Value->H):∃places,DataW.whole enc Tryz.prog ((laidWorld os).forCall (fun _ _=>0) ⟨#[],wit,[]⟩).memory Tryz.f3.params.toList Rows.tickExactSpec.vars false wit.toList 8=some ([.nil,.agg [.lit (.int .i64 0),.nil],.agg [.lit (.int .i64 0),.lit (.int .i64 0),.agg [.lit (.int .i64 0),.nil],.nil],.nil,.lit (.int .i64 0)],[],places):=
 ⟨[],by kernel_rfl⟩
theorem lifted (os:Os)(started:os.Started)(H:Type)(enc:TypeId × Value->H)(F:Stop.Interp) :
  ReturnsInHanded {} Tryz.checked os 3 .any ((Rows.OpenSpec.upto Rows.tickExactSpec).preRow enc Tryz.prog Tryz.f3 Rows.tickExactUptoRow.domain false Rows.tickExactUptoRow.laid) (((Rows.OpenSpec.upto Rows.tickExactSpec).at F).post enc Tryz.prog Tryz.f3 false true false false):=by
 obtain⟨places,hx⟩:=reads os enc
 refine returnsInHanded_of_row (C:=Tryz.checked) (s:=Rows.OpenSpec.upto Rows.tickExactSpec) own started (by kernel_rfl) Tryz.func3
  (witness_row_at (enc:=enc) (C:=Tryz.checked) false (laidWorld os) wit rfl (by kernel_rfl) (by kernel_rfl) (by kernel_rfl)
   (OpenSpec.preRow_of_cond 8 hx (by kernel_rfl) (fun k hk=>by cases hk;kernel_rfl) (by kernel_rfl) (laid_met os))) ?_
 intro W base args ds gs before Hq hW _ Ol _ hL _ _;exact contract H enc W base args ds gs before Hq hW (Ol _ rfl) hL
theorem said:Rows.TickExactUptoSaid:=
 OpenClaim.holds_of_cond 3 Tryz.f3 rfl rfl rfl rfl rfl rfl rfl ⟨rfl,rfl,rfl,rfl,rfl⟩ rfl rfl rfl rfl rfl (by kernel_rfl) Tryz.func3 (by kernel_rfl)
  (of_decide_eq_true (by kernel_rfl)) (by unfold Func.isWrapper;first|(rw[if_pos (by decide +kernel)];kernel_rfl)|(rw[if_neg (by decide +kernel)];exact⟨rfl,rfl⟩))
  (fun os started H enc _ F=>by rw[OpenClaim.pre_eq_preRow];exact lifted os started H enc F)
theorem plain (f : FuncId) (fn : Func) (hf : Tryz.pinned.checked.prog.funcNamed "proofprograms/proofprogramslaw35.TickExact" = some f) (u9 : Tryz.pinned.checked.prog.funcs[f]? = some fn) :
  true=Tryz.pinned.checked.prog.looks []/\∀(j:Nat) t,fn.params[j]? = some t->Tryz.pinned.checked.prog.wantsStandIn t=false:=by
 obtain rfl : f = 3 := Option.some.inj ((show Tryz.prog.funcNamed "proofprograms/proofprogramslaw35.TickExact" = some 3 by kernel_rfl).symm.trans hf) |>.symm; obtain rfl : fn = Tryz.f3 := (Option.some.inj (Tryz.func3.symm.trans u9)).symm; refine ⟨by kernel_rfl, fun j t ht => ?_⟩; rw [Tryz.params3] at ht; have hm := Array.mem_of_getElem? ht; have hor : t = 22 \/ t = 25 \/ t = 28 \/ t = 23 \/ t = 3 := by simpa using hm
 rcases hor with rfl|rfl|rfl|rfl|rfl;· exact (show Tryz.prog.wantsStandIn 22=false by kernel_rfl)
 ·exact (show Tryz.prog.wantsStandIn 25=false by kernel_rfl)
 ·exact (show Tryz.prog.wantsStandIn 28=false by kernel_rfl)
 ·exact (show Tryz.prog.wantsStandIn 23=false by kernel_rfl)
 ·exact (show Tryz.prog.wantsStandIn 3=false by kernel_rfl)
theorem proved:Rows.TickExactUptoCardSaid:=
 Claim7.holds_tied_plain_at .later [] _ _ _ _ said (fun _ h=>by cases h) (by kernel_rfl) (fun _ h=>by cases h) tickExactUpto_row_tie rfl ⟨rfl,rfl⟩ (by kernel_rfl) rfl plain (by kernel_rfl)
end Go.Proofs.YtoniciijokeidaaGreatDoor.tickExact
