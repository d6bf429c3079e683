/- The law ShellBack joined to its row and its card: what its run shows is what they say. -/
import Derived.Test.YthgcjbniipfnbaaGreatDoorCards
import Derived.Test.YthgcjbniipfnbaaGreatDoorTie
import Derived.Test.YthgcjbniipfnbaaGreatDoorM26b
import Derived.Test.YthgcjbniipfnbaaGreatDoorF1ShellBack
import Derived.WalkKit
import Derived.ProofKit
import Derived.OpenShut
import Derived.ShutString
import Derived.ChangeOld
import Derived.Below
import Derived.SizedLaws
import Derived.Deep.DeepHandedRow
import Derived.Deep.DeepWitnessRowRef
import Derived.Lib.LaidTab
import Derived.Stop.LaidErr
import Derived.Lay
import Derived.LaidMore
import Derived.MakeChecks
namespace Go.Proofs.YthgcjbniipfnbaaGreatDoor.shellBack
open Go.ChangeShapes Go.WideShapes Go.ChangeAt Go.RowKit
set_option linter.unusedVariables false
theorem own:ownKnob Tryz.prog.godebug=none:=by kernel_rfl
theorem laidOut:laidOutB Tryz.prog=true:=by kernel_rfl
theorem gTab0:Tryz.prog.globalNamed "internal/strconv.uint64pow10" = some 1:=by kernel_rfl
theorem gTabType0:(Tryz.prog.globals[1]?).map (·.type)=some 225:=by kernel_rfl
theorem cellsT0:Tryz.prog.cellsOf 225=20:=by kernel_rfl
theorem cellsE0:Tryz.prog.cellsOf 120=1:=by kernel_rfl
theorem table0 {W:World} (h:laidMet Tryz.prog Rows.shellBackRow.laid W):Lib.TabIs Tryz.prog W "internal/strconv.uint64pow10" .u64 Abs.pN :=
 Lib.tabIs_of_head gTab0 gTabType0 Tryz.underlying225 Tryz.underlying120 cellsE0 cellsT0 (laidMet.tail (laidMet.tail h))
theorem gTab1:Tryz.prog.globalNamed "permafrost/sum.roots" = some 8:=by kernel_rfl
theorem gTabType1:(Tryz.prog.globals[8]?).map (·.type)=some 460:=by kernel_rfl
theorem cellsT1:Tryz.prog.cellsOf 460=64:=by kernel_rfl
theorem cellsE1:Tryz.prog.cellsOf 221=1:=by kernel_rfl
theorem table1 {W:World} (h:laidMet Tryz.prog Rows.shellBackRow.laid W):Lib.TabIs Tryz.prog W "permafrost/sum.roots" .u32 Abs.rootsZ :=
 Lib.tabIs_of_head gTab1 gTabType1 Tryz.underlying460 Tryz.underlying221 cellsE1 cellsT1 (laidMet.tail (laidMet.tail (laidMet.tail (laidMet.tail (laidMet.tail (laidMet.tail h))))))
theorem plainLaid {W:World} (h:laidMetH Tryz.prog Rows.shellBackRow.laid W):laidMet Tryz.prog Rows.shellBackRow.laid W:=by
 rwa [MakeChecks.laidMetH_plain _ _ _ (by kernel_rfl)] at h
set_option maxRecDepth 100000 in
theorem contract (H:Type) (enc:TypeId × Value→H) (W:World) (base:Nat) (args:Array Value) (ds gs:List (DataW H)) (before:List MemPlace)
  (hval0:∀ (j:Nat) t v,Tryz.f5.params[j]? = some t→args[j]? = some v→Value.okWide Tryz.prog W .any base t v)
  (hW:DataW.Whole enc Tryz.prog Tryz.f5.params.toList Rows.shellBackSpec.vars false W args.toList ds gs before) (hL:laidMetH Tryz.prog Rows.shellBackRow.laid W)
  (hsz0:(DataW.weightsEach Tryz.prog (Tryz.f5.params.toList++Rows.shellBackSpec.plain.varTypes Tryz.prog) (ds++gs)).all (·≤reachBytes)=true) :
  Calls Tryz.prog 5 args W fun e W'=>∃ v,e=.returned v∧Rows.shellBackSpec.post enc Tryz.prog Tryz.f5 false true false false W args v W':=by
 have hval:∀ (j:Nat) t v,Tryz.f5.params[j]? = some t→args[j]? = some v→Value.okWide Tryz.prog W .any base t v:=hval0
 have hsz:=hsz0
 have hM:=plainLaid hL
 have hR:=Abs.laid_rng (laidMet.tail (laidMet.tail (laidMet.tail (laidMet.tail hM))))
 have hS:=Abs.laid_syn (laidMet.tail (laidMet.tail (laidMet.tail (laidMet.tail (laidMet.tail hM)))))
 have hG:Abs.GW Abs.gl2 W:=Abs.gw_gl2 (table0 hM) gTab0 (table1 hM) gTab1
 have hW':=hW
 obtain ⟨p,q,hA0,hV,rfl,hfz,hnd⟩:=hW
 have hA:DataW.TrodAll enc Tryz.prog W 0 (fun _=>true) true Tryz.f5.params.toList args.toList ds p:=hA0
 rw [Tryz.params5] at hA hval hsz
 obtain ⟨v0,vs0,d0,ds0,p0,q0,hargs,rfl,rfl,h0,r0⟩:=trodAll_cons hA
 obtain ⟨v1,vs1,d1,ds1,p1,q1,rfl,rfl,rfl,h1,r1⟩:=trodAll_cons r0
 obtain ⟨rfl,rfl,rfl⟩:=trodAll_nil r1
 obtain rfl:args=#[v0,v1]:=by cases args;simp_all
 obtain ⟨rfl,rfl⟩:=trodVars_none hV
 have k0:=h0
 have lt0:∀ x∈p0,x.block<W.heap.size:=by obtain ⟨m,hm⟩:=k0;exact DataW.trod_lt m _ _ _ hm
 have k1:=h1
 have lt1:∀ x∈p1,x.block<W.heap.size:=by obtain ⟨m,hm⟩:=k1;exact DataW.trod_lt m _ _ _ hm
 obtain ⟨b,rfl⟩:=okWide_string Tryz.underlying9 (hval 1 9 v1 rfl rfl)
 have hb:b.data.toList.length≤reachBytes:=by
  obtain ⟨fuel,hf⟩:=h1
  obtain ⟨s,e1,e2,_⟩:=DataW.trod_string Tryz.underlying9 hf
  cases e1
  cases e2
  exact sized_string (j:=1) hsz rfl rfl
 refine (Abs.shellBack_walk W hG (Abs.vars_of (table0 hM) hS hR) h0 (hval 0 33 v0 rfl rfl) (Abs.each_at (j:=0) hsz rfl rfl) b hb).mono fun e W' ⟨he,bel⟩=>?_
 subst he
 exact ⟨_,rfl,_,_,_,[],_,[],hW',trodAll_mk1 (shut_bool Tryz.underlying4 _),(trodAll_cons_mk (Below.trod laidOut (by kernel_rfl) (of_decide_eq_true (by kernel_rfl)) k0 bel lt0) (trodAll_cons_mk (Below.trod laidOut (by kernel_rfl) (of_decide_eq_true (by kernel_rfl)) k1 bel lt1) trodAll_mk0)),rfl,bel.frame _,fun h=>by cases h⟩
noncomputable def laidWorld (os:Os):World:=World.laidAll Tryz.prog os Rows.shellBackRow.laid
theorem laid_met (os:Os):laidMet Tryz.prog Rows.shellBackRow.laid ((laidWorld os).forCall (fun _ _=>0) ⟨#[],#[.agg #[.int .i64 0,.int .i64 0,.string ByteArray.empty,.string ByteArray.empty,.int .i64 0,.int .i64 0,.string ByteArray.empty,.string ByteArray.empty,.int .i64 0,.int .i64 0,.int .i64 0,.int .i64 0,.string ByteArray.empty,.slice none 0 0],.string ByteArray.empty],[]⟩).memory:=laidMet_laidAll _ (by kernel_rfl) (by kernel_rfl)
theorem laid_metH (os:Os):laidMetH Tryz.prog Rows.shellBackRow.laid ((laidWorld os).forCall (fun _ _=>0) ⟨#[],#[.agg #[.int .i64 0,.int .i64 0,.string ByteArray.empty,.string ByteArray.empty,.int .i64 0,.int .i64 0,.string ByteArray.empty,.string ByteArray.empty,.int .i64 0,.int .i64 0,.int .i64 0,.int .i64 0,.string ByteArray.empty,.slice none 0 0],.string ByteArray.empty],[]⟩).memory:=by
 rw [MakeChecks.laidMetH_plain _ _ _ (by kernel_rfl)];exact laid_met os
theorem reads (os:Os) {H:Type} (enc:TypeId × Value→H):∃ ds places,DataW.whole enc Tryz.prog ((laidWorld os).forCall (fun _ _=>0) ⟨#[],#[.agg #[.int .i64 0,.int .i64 0,.string ByteArray.empty,.string ByteArray.empty,.int .i64 0,.int .i64 0,.string ByteArray.empty,.string ByteArray.empty,.int .i64 0,.int .i64 0,.int .i64 0,.int .i64 0,.string ByteArray.empty,.slice none 0 0],.string ByteArray.empty],[]⟩).memory Tryz.f5.params.toList Rows.shellBackSpec.vars false #[Value.agg #[.int .i64 0,.int .i64 0,.string ByteArray.empty,.string ByteArray.empty,.int .i64 0,.int .i64 0,.string ByteArray.empty,.string ByteArray.empty,.int .i64 0,.int .i64 0,.int .i64 0,.int .i64 0,.string ByteArray.empty,.slice none 0 0],.string ByteArray.empty].toList 8=some (ds,[],places) :=
 ⟨[.agg [.lit (.int .i64 0),.agg [.lit (.int .i64 0),.lit (.string []),.lit (.string []),.lit (.int .i64 0),.lit (.int .i64 0),.lit (.string [])],.lit (.string []),.lit (.int .i64 0),.lit (.int .i64 0),.agg [.lit (.int .i64 0),.lit (.int .i64 0)],.lit (.string []),.nil],.lit (.string [])],[],by kernel_rfl⟩
set_option maxRecDepth 100000 in
theorem lifted (os:Os) (started:os.Started) (H:Type) (enc:TypeId × Value→H) (F:Stop.Interp) :
  ReturnsInHanded {} Tryz.checked os 5 .any ((OpenSpec.ofChange Rows.shellBackSpec).preRow enc Tryz.prog Tryz.f5 Rows.shellBackRow.domain false Rows.shellBackRow.laid) (((OpenSpec.ofChange Rows.shellBackSpec).at F).post enc Tryz.prog Tryz.f5 false true false false):=by
 obtain ⟨ds,places,hx⟩:=reads os enc
 refine returnsInHanded_of_row (C:=Tryz.checked) (s:=OpenSpec.ofChange Rows.shellBackSpec) own started (by kernel_rfl) Tryz.func5
  (witness_row_atRef (enc:=enc) (C:=Tryz.checked) false (laidWorld os) #[.agg #[.int .i64 0,.int .i64 0,.string ByteArray.empty,.string ByteArray.empty,.int .i64 0,.int .i64 0,.string ByteArray.empty,.string ByteArray.empty,.int .i64 0,.int .i64 0,.int .i64 0,.int .i64 0,.string ByteArray.empty,.slice none 0 0],.string ByteArray.empty] (World.laidAll_os _ _ _) (by kernel_rfl) (by kernel_rfl) (by kernel_rfl)
   (OpenSpec.preRow_of_cond 8 hx (by kernel_rfl) (fun k hk=>by cases hk) (by kernel_rfl) (laid_met os))) ?_
 intro W base args ds gs before hval hW _ _ hsz hL _ _
 exact contract H enc W base args ds gs before hval hW hL hsz
theorem said:Rows.ShellBackSaid :=
 OpenClaim.holds_of_cond 5 Tryz.f5 rfl rfl rfl rfl rfl rfl rfl ⟨rfl,rfl,rfl,rfl,rfl⟩ rfl rfl rfl rfl rfl (by kernel_rfl) Tryz.func5 closed
  (of_decide_eq_true (by kernel_rfl)) (by unfold Func.isWrapper;first | (rw [if_pos (by decide +kernel)];kernel_rfl) | (rw [if_neg (by decide +kernel)];exact ⟨rfl,rfl⟩))
  (fun os started H enc _ F=>by rw [OpenClaim.pre_eq_preRow];exact lifted os started H enc F)
theorem goes_none {P:Program} (h:(P.funcs.toList.all fun f=>!f.goes)=true) (f:FuncId):P.goes f=false:=by
 have h0:∀ fn∈P.funcs.toList,fn.goes=false:=by
  intro fn hf
  have:=List.all_eq_true.1 h fn hf
  simpa using this
 have h1:P.funcs.any Func.goes=false:=by
  rw [Bool.eq_false_iff]
  intro hc
  obtain ⟨i,hi,hg⟩:=Array.any_eq_true.1 hc
  rw [h0 _ (by simp)] at hg
  cases hg
 unfold Program.goes
 rw [h1,Bool.and_false,Bool.or_false,Bool.eq_false_iff]
 intro hc
 obtain ⟨g,_,hg⟩:=List.any_eq_true.1 hc
 cases hq:P.funcs[g]? with
 | none=>rw [hq] at hg;cases hg
 | some fn =>
  rw [hq] at hg
  have:fn.goes=true:=by simpa using hg
  have hm:fn∈P.funcs.toList:=by
   have:=Array.mem_of_getElem? hq
   simpa using this
  rw [h0 fn hm] at this
  cases this
theorem no_goes:(Tryz.prog.funcs.toList.all fun f=>!f.goes)=true:=by kernel_rfl
theorem goesBy_none {P:Program} (h:∀ f,P.goes f=false) {c:OpenClaim} (hs:c.start=.entering):false=c.goesBy P:=by
 unfold OpenClaim.goesBy Program.goesAt Program.goesFrom
 rw [hs]
 cases P.funcNamed c.func with
 | none=>rfl
 | some f=>simp [h f]
theorem plain (f:FuncId) (fn:Func) (hf:Tryz.pinned.checked.prog.funcNamed "permafrost/permafrostlaw24.ShellBack" = some f) (hfn:Tryz.pinned.checked.prog.funcs[f]? = some fn) :
  true=Tryz.pinned.checked.prog.looks []∧∀ (j:Nat) t,fn.params[j]? = some t→Tryz.pinned.checked.prog.wantsStandIn t=false:=by
 obtain rfl:f=5:=Option.some.inj ((show Tryz.prog.funcNamed "permafrost/permafrostlaw24.ShellBack" = some 5 by kernel_rfl).symm.trans hf) |>.symm
 obtain rfl:fn=Tryz.f5:=(Option.some.inj (Tryz.func5.symm.trans hfn)).symm
 refine ⟨by kernel_rfl,fun j t ht=>?_⟩
 rw [Tryz.params5] at ht
 have hm:=Array.mem_of_getElem? ht
 have hall:∀ t∈[33,9],Tryz.prog.wantsStandIn t=false:=by
  intro t ht
  simp only [List.mem_cons,List.not_mem_nil,or_false] at ht
  rcases ht with rfl | rfl
  all_goals kernel_rfl
 exact hall t (by simpa using hm)
end Go.Proofs.YthgcjbniipfnbaaGreatDoor.shellBack
namespace Go.Proofs.YthgcjbniipfnbaaGreatDoor
theorem shellBack_holds:Rows.ShellBackCardSaid :=
 Claim7.holds_tied_plain_at .later [] _ _ _ _ shellBack.said (fun _ h=>by cases h) (by kernel_rfl) (fun _ h=>by cases h) shellBack_row_tie rfl ⟨rfl,rfl⟩ (by kernel_rfl) rfl shellBack.plain (shellBack.goesBy_none (P:=Tryz.prog) (shellBack.goes_none shellBack.no_goes) rfl)
end Go.Proofs.YthgcjbniipfnbaaGreatDoor
