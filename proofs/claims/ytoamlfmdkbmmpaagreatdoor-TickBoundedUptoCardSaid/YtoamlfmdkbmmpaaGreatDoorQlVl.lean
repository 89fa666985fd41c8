/-
 'TickBounded' returns true for every list of numbers that is read, as long as what is read is of bulk at most 1048576; the list reads behind the call as it read before it.
-/
import Derived.Test.YtoamlfmdkbmmpaaGreatDoorQl8
import Derived.Test.YtoamlfmdkbmmpaaGreatDoorCards
import Derived.Test.YtoamlfmdkbmmpaaGreatDoorTie
import Derived.Deep.DeepHandedRow
import Derived.Lib.LaidTab
namespace Go.Proofs.YtoamlfmdkbmmpaaGreatDoor.tickBounded
set_option linter.unusedSimpArgs false
set_option linter.unusedVariables false
set_option linter.unnecessarySimpa false
open Go Go.ChangeShapes Go.WideShapes Go.ChangeAt Go.RowKit Go.Proofs.YtoamlfmdkbmmpaaGreatDoor.Lift
theorem own:ownKnob Tryz.prog.godebug=none:=by kernel_rfl
theorem gTab : Tryz.prog.globalNamed "proofprograms/tree.arities" = some 0 := by kernel_rfl
theorem gTabType:(Tryz.prog.globals[0]?).map (·.type)=some 205:=by kernel_rfl
theorem cellsArr:Tryz.prog.cellsOf 205=14:=by kernel_rfl
theorem cellsInt:Tryz.prog.cellsOf 3=1:=by kernel_rfl
theorem table {W : World} (h : laidMetH Tryz.prog Rows.tickBoundedUptoRow.laid W) : Lib.TabIs Tryz.prog W "proofprograms/tree.arities" .i64 [0, 0, 1, 2, 0, 1, 3, 0, 2, 3, 2, 1, 1, 0] :=
 Lib.tabIs_of_head (rest:=[]) gTab gTabType Tryz.underlying205 Tryz.underlying3 cellsInt cellsArr h
theorem wf_arr {W:World}(h:laidMetH Tryz.prog Rows.tickBoundedUptoRow.laid W):Wf [(0,arEls)] (Old W) W:=by
 refine ⟨fun _ _ h=>h,fun g els hm=>?_⟩
 obtain ⟨rfl,rfl⟩:g=0∧els=arEls:=by simpa using hm
 have hc:∀ k,k<14→W.cell? ⟨0,0+k,none⟩=some (.int .i64 ([0,0,1,2,0,1,3,0,2,3,2,1,1,0].getD k 0)):=fun k hk=>by
  rw [Nat.zero_add];exact (table h).cell gTab k hk
 refine ⟨14,z9s (E:=1) (f:=fun k=>.int .i64 ([0,0,1,2,0,1,3,0,2,3,2,1,1,0].getD k 0)) (by decide) (by decide) (by decide) ?_ (fun k hk=>⟨hc k hk,_,hc k hk⟩) ?_⟩
 ·intro e he c hc
  obtain ⟨n,_,rfl⟩:=List.mem_map.1 he
  obtain rfl:=List.mem_singleton.1 hc
  rfl
 ·intro i j e c he hd
  obtain ⟨n,hn,rfl⟩:∃ n,([0,0,1,2,0,1,3,0,2,3,2,1,1,0]:List Int)[i]? = some n∧[dint n]=e:=by
   rw [arEls,ints,List.getElem?_map] at he
   obtain ⟨n,h1,h2⟩:=Option.map_eq_some_iff.1 he
   exact ⟨n,h1,h2⟩
  cases j with
  | zero=>
   simp at hd;subst hd
   have hi:i<14:=(List.getElem?_eq_some_iff.1 hn).1
   have:([0,0,1,2,0,1,3,0,2,3,2,1,1,0]:List Int).getD (i * 1+0) 0=n:=by rw [List.getD_eq_getElem?_getD,Nat.mul_one,Nat.add_zero,hn];rfl
   show RV _ _ _ (.int .i64 (([0,0,1,2,0,1,3,0,2,3,2,1,1,0]:List Int).getD (i * 1+0) 0))
   rw [this]
   refine .prim _ ?_
   have hb:0≤n∧n≤3:=by
    have:=List.mem_of_getElem? hn
    simp at this
    omega
   exact (show ∀ n:Int,0≤n∧n≤3→primOK (.int .i64 n) from fun n h=>by
    have h1:IntKind.i64.min≤0:=by decide
    have h2:3≤IntKind.i64.max:=by decide
    exact ⟨by omega,by omega⟩) n hb
  | succ j=>simp at hd
set_option maxRecDepth 100000 in
theorem contract (H:Type)(enc:TypeId × Value→H)(W:World)(base:Nat)(args:Array Value)(ds gs:List (DataW H))(before:List MemPlace)
  (hval:∀ (j:Nat) t v,Tryz.f5.params[j]? = some t→args[j]? = some v→Value.okWide Tryz.prog W .any base t v)
  (hW:DataW.Whole enc Tryz.prog Tryz.f5.params.toList Rows.tickBoundedSpec.vars false W args.toList ds gs before) (hk:Rows.uptoSmall H (ds++gs)=true) (hL:laidMetH Tryz.prog Rows.tickBoundedUptoRow.laid W) :
  Calls Tryz.prog 5 args W fun e W'=>∃ v,e = .returned v∧Rows.tickBoundedSpec.post enc Tryz.prog Tryz.f5 false true false false W args v W':=by
 have hW':=hW
 obtain ⟨p,q,hA0,hV,rfl,hfz,hnd⟩:=hW
 have hA:DataW.TrodAll enc Tryz.prog W 0 (fun _=>true) true Tryz.f5.params.toList args.toList ds p:=hA0
 rw [Tryz.params5] at hA hval
 obtain ⟨v0,vs0,d0,ds0,p0,q0,hargs,rfl,rfl,h0,r0⟩:=trodAll_cons hA
 obtain ⟨rfl,rfl,rfl⟩:=trodAll_nil r0
 obtain rfl:args = #[v0]:=by cases args;simp_all
 obtain ⟨rfl,rfl⟩:=trodVars_none hV
 have hbulk:=of_decide_eq_true hk
 simp only [List.append_nil,Rows.uptoBulkAll] at hbulk
 have hv0:Value.okWide Tryz.prog W .any base 22 v0:=by
  refine hval 0 22 v0 ?_ ?_
  ·simp
  ·simp
 obtain ⟨l,hrv,hlen⟩:=z1cf Tryz.underlying22 Tryz.underlying3 (by kernel_rfl) h0 (z1cg Tryz.underlying22 hv0) (by omega)
 refine ((z1dj (gl:=[(0,arEls)]) rfl l).2 (Old W) W #[v0] (wf_arr hL) rfl (fun i x v hx hv=>?_) ⟨fun _ _ h=>(by cases h),fun _ _ h=>(by cases h),List.nodup_nil⟩).mono ?_
 ·cases i with
  | zero=>simp at hx hv;subst hx hv;exact hrv
  | succ i=>simp at hx
 ·rintro e W' ⟨v,D',r,φ',rfl,⟨rfl,rfl⟩,hext,hwf,hr,-,-⟩
  obtain rfl:=(z0o hr).1
  have hsame:=zek hext
  refine ⟨_,rfl,z1ci (pa:=p0++[]) (pv:=[]) hW' (fun _ _ _=>trodAll_cons_mk (shut_bool Tryz.underlying4 _) trodAll_mk0) (fun sp hsp=>trodAll_cons_mk (z1ce (TS:=[22,3]) (by kernel_rfl) hsame (by simp) h0 (fun p hp=>hsp p (by simp [hp]))) trodAll_mk0) (fun _ _=>rfl) rfl hext (ok_one (by kernel_rfl) rfl (okWide_bool_mk Tryz.underlying4 _))⟩
noncomputable def laidWorld (os:Os):World:=
 { World.holding Tryz.prog os ⟨#[],#[],[]⟩ with heap:=(World.holding Tryz.prog os ⟨#[],#[],[]⟩).heap.modify 0 fun
   | .cells _ t frozen=>.cells #[.int .i64 0,.int .i64 0,.int .i64 1,.int .i64 2,.int .i64 0,.int .i64 1,.int .i64 3,.int .i64 0,.int .i64 2,.int .i64 3,.int .i64 2,.int .i64 1,.int .i64 1,.int .i64 0] t frozen
   | o=>o }
theorem laid_met (os:Os):laidMet Tryz.prog Rows.tickBoundedUptoRow.laid ((laidWorld os).forCall (fun _ _=>0) ⟨#[],#[.slice none 0 0],[]⟩).memory:=
 laidMet_of_run' 8 (by kernel_rfl) (by kernel_rfl)
theorem reads (os:Os){H:Type}(enc:TypeId × Value→H):∃ places,DataW.whole enc Tryz.prog ((laidWorld os).forCall (fun _ _=>0) ⟨#[],#[.slice none 0 0],[]⟩).memory Tryz.f5.params.toList Rows.tickBoundedSpec.vars false #[Value.slice none 0 0].toList 8=some ([.nil],[],places):=
 ⟨[],by kernel_rfl⟩
set_option maxRecDepth 100000 in
theorem lifted (os:Os)(started:os.Started)(H:Type)(enc:TypeId × Value→H)(F:Stop.Interp) :
  ReturnsInHanded {} Tryz.checked os 5 .any ((Rows.OpenSpec.upto Rows.tickBoundedSpec).preRow enc Tryz.prog Tryz.f5 Rows.tickBoundedUptoRow.domain false Rows.tickBoundedUptoRow.laid) (((Rows.OpenSpec.upto Rows.tickBoundedSpec).at F).post enc Tryz.prog Tryz.f5 false true false false):=by
 obtain ⟨places,hx⟩:=reads os enc
 refine returnsInHanded_of_row (C:=Tryz.checked) (s:=Rows.OpenSpec.upto Rows.tickBoundedSpec) own started (by kernel_rfl) Tryz.func5
  (witness_row_at (enc:=enc) (C:=Tryz.checked) false (laidWorld os) #[.slice none 0 0] rfl (by kernel_rfl) (by kernel_rfl) (by kernel_rfl)
   (OpenSpec.preRow_of_cond 8 hx (by kernel_rfl) (fun k hk=>by cases hk;kernel_rfl) (by kernel_rfl) (laid_met os))) ?_
 intro W base args ds gs before hval hW _ hcond _ hL _ _
 exact contract H enc W base args ds gs before hval hW (hcond _ rfl) hL
theorem said:Rows.TickBoundedUptoSaid:=
 OpenClaim.holds_of_cond 5 Tryz.f5 rfl rfl rfl rfl rfl rfl rfl ⟨rfl,rfl,rfl,rfl,rfl⟩ rfl rfl rfl rfl rfl (by kernel_rfl) Tryz.func5 (by kernel_rfl)
  (of_decide_eq_true (by kernel_rfl)) (by unfold Func.isWrapper;first|(rw [if_pos (by decide +kernel)];kernel_rfl)|(rw [if_neg (by decide +kernel)];exact ⟨rfl,rfl⟩))
  (fun os started H enc _ F=>by rw [OpenClaim.pre_eq_preRow];exact lifted os started H enc F)
theorem plain (f : FuncId) (fn : Func) (hf : Tryz.pinned.checked.prog.funcNamed "proofprograms/proofprogramslaw35.TickBounded" = some f) (hfn : Tryz.pinned.checked.prog.funcs[f]? = some fn) :
  true=Tryz.pinned.checked.prog.looks []∧∀ (j:Nat) t,fn.params[j]? = some t→Tryz.pinned.checked.prog.wantsStandIn t=false:=by
 obtain rfl : f = 5 := Option.some.inj ((show Tryz.prog.funcNamed "proofprograms/proofprogramslaw35.TickBounded" = some 5 by kernel_rfl).symm.trans hf) |>.symm
 obtain rfl:fn=Tryz.f5:=(Option.some.inj (Tryz.func5.symm.trans hfn)).symm
 refine ⟨by kernel_rfl,fun j t ht=>?_⟩
 rw [Tryz.params5] at ht
 obtain rfl:t=22:=by simpa using Array.mem_of_getElem? ht
 exact (show Tryz.prog.wantsStandIn 22=false by kernel_rfl)
theorem proved:Rows.TickBoundedUptoCardSaid:=
 Claim7.holds_tied_plain_at .later [] _ _ _ _ said (fun _ h=>by cases h) (by kernel_rfl) (fun _ h=>by cases h) tickBoundedUpto_row_tie rfl ⟨rfl,rfl⟩ (by kernel_rfl) rfl plain (by kernel_rfl)
end Go.Proofs.YtoamlfmdkbmmpaaGreatDoor.tickBounded
