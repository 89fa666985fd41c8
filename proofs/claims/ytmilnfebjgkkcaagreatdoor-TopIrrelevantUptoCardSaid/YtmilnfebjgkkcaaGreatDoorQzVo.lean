/-
  'TopIrrelevant' returns true for every list of numbers that is read, as long as what is read is of bulk at most 1048576; the list reads behind the call as it read before it.
-/
import Derived.Test.YtmilnfebjgkkcaaGreatDoorQz7
import Derived.Test.YtmilnfebjgkkcaaGreatDoorCards
import Derived.Test.YtmilnfebjgkkcaaGreatDoorTie
import Derived.Deep.DeepHandedRow
import Derived.Lib.LaidTab
set_option maxHeartbeats 8000000
set_option maxRecDepth 100000
set_option linter.all false
namespace Go.Proofs.YtmilnfebjgkkcaaGreatDoor.topIrrelevant
open Go Go.ChangeShapes Go.WideShapes Go.ChangeAt Go.RowKit Go.Proofs.YtmilnfebjgkkcaaGreatDoor.Lift
theorem own:ownKnob Tryz.prog.godebug=none:=by kernel_rfl
theorem wf_arr{W:World}(h:laidMetH Tryz.prog Rows.topIrrelevantUptoRow.laid W):Wf gl (tN W) W:=xf0 h
theorem contract(H:Type)(enc:TypeId × Value->H)(W:World)(base:Nat)(args:Array Value)(ds gs:List (DataW H))(before:List MemPlace)
  (Hj:∀(j:Nat) t v,Tryz.f3.params[j]? = some t->args[j]? = some v->Value.okWide Tryz.prog W .any base t v)
  (hW:DataW.Whole enc Tryz.prog Tryz.f3.params.toList Rows.topIrrelevantSpec.vars false W args.toList ds gs before) (hk:Rows.uptoSmall H (ds++gs)=true) (hL:laidMetH Tryz.prog Rows.topIrrelevantUptoRow.laid W) :
  Calls Tryz.prog 3 args W fun e W'=>∃v,e = .returned v/\Rows.topIrrelevantSpec.post enc Tryz.prog Tryz.f3 false true false false W args v W':=by
 have KI:=hW;obtain⟨p,q,ZY,hV,rfl,hfz,A4⟩:=hW;have hA:DataW.TrodAll enc Tryz.prog W 0 (fun _=>true) true Tryz.f3.params.toList args.toList ds p:=ZY;rw[Tryz.params3]at hA Hj;obtain⟨v0,vs0,d0,ds0,p0,q0,V2,rfl,rfl,h0,r0⟩:=trodAll_cons hA;obtain⟨rfl,rfl,rfl⟩:=trodAll_nil r0;obtain rfl:args = #[v0]:=by cases args;simp_all
 obtain⟨rfl,rfl⟩:=trodVars_none hV;have FU0:=of_decide_eq_true hk;simp only[List.append_nil,Rows.uptoBulkAll]at FU0;have hv0:Value.okWide Tryz.prog W .any base 22 v0:=by
  refine Hj 0 22 v0 ?_ ?_;· simp
  ·simp
 obtain⟨l,Du,hlen⟩:=rU0 Tryz.underlying22 Tryz.underlying3 (by kernel_rfl) h0 (mH0 Tryz.underlying22 hv0) (by omega);refine ((kw0 l).2 (tN W) W #[v0] (wf_arr hL) rfl (fun i x v hx hv=>?_) ⟨fun _ _ h=>(by cases h),fun _ _ h=>(by cases h),List.nodup_nil⟩).mono ?_
 ·cases i with
  | zero=>simp at hx hv;subst hx hv;exact Du
  | succ i=>simp at hx
 ·rintro e W' ⟨v,D',r,I2,rfl,⟨rfl,rfl⟩,Fg,dX,hr,-,-⟩;obtain rfl:=(X6 hr).1;have ai0:=WZ Fg;refine⟨_,rfl,mI0 (pa:=p0++[]) (pv:=[]) KI (fun _ _ _=>trodAll_cons_mk (shut_bool Tryz.underlying4 _) trodAll_mk0) (fun sp KB=>trodAll_cons_mk (o40 (TS:=[22,3]) (by kernel_rfl) ai0 (by simp) h0 (fun p hp=>KB p (by simp[hp]))) trodAll_mk0) (fun _ _=>rfl) rfl Fg (ok_one (by kernel_rfl) rfl (okWide_bool_mk Tryz.underlying4 _))⟩
def valD(els:List (List DV)):Array Value:=(els.flatten.map fun d=>match d with | .K0 v=>v|_=>.int .i64 0).toArray
def putC(els:List (List DV)):Obj->Obj
 | .cells _ t frozen=>.cells (valD els) t frozen
 | o=>o
noncomputable def laidWorld (os:Os):World:=
 { World.holding Tryz.prog os ⟨#[],#[],[]⟩ with heap:=(((World.holding Tryz.prog os ⟨#[],#[],[]⟩).heap.modify 0 (putC EJ)).modify 1 (putC CZ)).modify 2 (putC A7) }
theorem laid_met(os:Os):laidMet Tryz.prog Rows.topIrrelevantUptoRow.laid ((laidWorld os).forCall (fun _ _=>0) ⟨#[],#[.slice none 0 0],[]⟩).memory:=
 laidMet_of_run' 8 (by kernel_rfl) (by kernel_rfl)
theorem reads(os:Os){H:Type}(enc:TypeId × Value->H):∃places,DataW.whole enc Tryz.prog ((laidWorld os).forCall (fun _ _=>0) ⟨#[],#[.slice none 0 0],[]⟩).memory Tryz.f3.params.toList Rows.topIrrelevantSpec.vars false #[Value.slice none 0 0].toList 8=some ([.nil],[],places):=
 ⟨[],by kernel_rfl⟩
theorem lifted(os:Os)(started:os.Started)(H:Type)(enc:TypeId × Value->H)(F:Stop.Interp) :
  ReturnsInHanded {} Tryz.checked os 3 .any ((Rows.OpenSpec.upto Rows.topIrrelevantSpec).preRow enc Tryz.prog Tryz.f3 Rows.topIrrelevantUptoRow.domain false Rows.topIrrelevantUptoRow.laid) (((Rows.OpenSpec.upto Rows.topIrrelevantSpec).at F).post enc Tryz.prog Tryz.f3 false true false false):=by
 obtain⟨places,hx⟩:=reads os enc
 refine returnsInHanded_of_row (C:=Tryz.checked) (s:=Rows.OpenSpec.upto Rows.topIrrelevantSpec) own started (by kernel_rfl) Tryz.func3
  (witness_row_at (enc:=enc) (C:=Tryz.checked) false (laidWorld os) #[.slice none 0 0] rfl (by kernel_rfl) (by kernel_rfl) (by kernel_rfl)
   (OpenSpec.preRow_of_cond 8 hx (by kernel_rfl) (fun k hk=>by cases hk;kernel_rfl) (by kernel_rfl) (laid_met os))) ?_
 intro W base args ds gs before Hj hW _ ZA _ hL _ _;exact contract H enc W base args ds gs before Hj hW (ZA _ rfl) hL
abbrev cc:=Rows.topIrrelevantUptoRow
abbrev ss:=(Rows.OpenSpec.upto Rows.topIrrelevantSpec).bare
theorem named : Tryz.prog.funcNamed "proofprograms/proofprogramstop.TopIrrelevant" = some 3 := by kernel_rfl
theorem isA:(cc.inPlace==Tryz.prog.inPlace 3)=true:=by kernel_rfl
theorem isB:(cc.unfollowed==Tryz.prog.unfollowed 3)=true:=by kernel_rfl
theorem isC:(cc.recurses==Tryz.prog.recurses 3)=true:=by kernel_rfl
theorem isD:(cc.named==Tryz.prog.varsNamed 3)=true:=by kernel_rfl
theorem facts:joinedFacts Tryz.prog 3 Tryz.f3 ss cc=true:=by
 unfold joinedFacts;rw[isA,isB,isC,isD]
 kernel_rfl
theorem noGo:Tryz.prog.funcs.toList.any Func.goes=false:=by kernel_rfl
theorem goes_no{P:Program}(h:P.funcs.toList.any Func.goes=false)(f:FuncId):P.goes f=false:=by
 have h0:P.funcs.any Func.goes=false:=by rw[<- Array.any_toList];exact h
 have h1:∀g:FuncId,(P.funcs[g]?).any Func.goes=false:=fun g=>by
  cases hg:P.funcs[g]? with
  | none=>rfl
  | some fn=>
   have hm:fn∈P.funcs.toList:=by
    rw[<- Array.getElem?_toList]at hg;exact List.mem_of_getElem? hg
   cases hq:Func.goes fn with
   | false=>simp[hq]
   | true=>rw[List.any_eq_true.2 ⟨fn,hm,hq⟩]at h;cases h
 simp[Program.goes,h1,h0]
theorem goes:false=cc.goesBy Tryz.prog:=by
 unfold OpenClaim.goesBy Program.goesAt Program.goesFrom;show false=((Tryz.prog.funcNamed cc.func).any Tryz.prog.goes||false);cases Tryz.prog.funcNamed cc.func with
 | none=>rfl
 | some f=>simp[goes_no noGo]
theorem said:Rows.TopIrrelevantUptoSaid:=
 OpenClaim.holds_of_cond 3 Tryz.f3 rfl rfl rfl rfl rfl rfl rfl ⟨rfl,rfl,rfl,rfl,rfl⟩ rfl rfl rfl rfl rfl named Tryz.func3 facts
  (of_decide_eq_true (by kernel_rfl)) (by unfold Func.isWrapper;first|(rw[if_pos (by decide +kernel)];kernel_rfl)|(rw[if_neg (by decide +kernel)];exact⟨rfl,rfl⟩))
  (fun os started H enc _ F=>by rw[OpenClaim.pre_eq_preRow];exact lifted os started H enc F)
theorem plain (f : FuncId) (fn : Func) (hf : Tryz.pinned.checked.prog.funcNamed "proofprograms/proofprogramstop.TopIrrelevant" = some f) (X0 : Tryz.pinned.checked.prog.funcs[f]? = some fn) :
  true=Tryz.pinned.checked.prog.looks []/\∀(j:Nat) t,fn.params[j]? = some t->Tryz.pinned.checked.prog.wantsStandIn t=false:=by
 obtain rfl:f=3:=Option.some.inj (named.symm.trans hf) |>.symm;obtain rfl:fn=Tryz.f3:=(Option.some.inj (Tryz.func3.symm.trans X0)).symm;refine⟨by kernel_rfl,fun j t ht=>?_⟩;rw[Tryz.params3]at ht;obtain rfl:t=22:=by simpa using Array.mem_of_getElem? ht
 exact (show Tryz.prog.wantsStandIn 22=false by kernel_rfl)
theorem proved:Rows.TopIrrelevantUptoCardSaid:=
 Claim7.holds_tied_plain_at .later [] _ _ _ _ said (fun _ h=>by cases h) (by kernel_rfl) (fun _ h=>by cases h) topIrrelevantUpto_row_tie rfl ⟨rfl,rfl⟩ (by kernel_rfl) rfl plain goes
end Go.Proofs.YtmilnfebjgkkcaaGreatDoor.topIrrelevant
