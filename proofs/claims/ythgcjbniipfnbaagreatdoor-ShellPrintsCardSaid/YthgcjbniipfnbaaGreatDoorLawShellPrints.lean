/- The law ShellPrints joined to its row and its card: what its run shows is what they say. -/
import Derived.Test.YthgcjbniipfnbaaGreatDoorCards
import Derived.Test.YthgcjbniipfnbaaGreatDoorTie
import Derived.Test.YthgcjbniipfnbaaGreatDoorM26p
import Derived.Test.YthgcjbniipfnbaaGreatDoorF1ShellPrints
import Derived.WalkKit
import Derived.ProofKit
import Derived.OpenShut
import Derived.ShutString
import Derived.ChangeOld
import Derived.Below
import Derived.SizedLaws
import Derived.Deep.DeepHandedRow
import Derived.Deep.DeepWitnessRowRef
import Derived.Lib.LaidTab
import Derived.Stop.LaidErr
import Derived.Lay
import Derived.LaidMore
import Derived.MakeChecks
namespace Go.Proofs.YthgcjbniipfnbaaGreatDoor.shellPrints
open Go.ChangeShapes Go.WideShapes Go.ChangeAt Go.RowKit
set_option linter.unusedVariables false
theorem own:ownKnob Tryz.prog.godebug=none:=by kernel_rfl
theorem iK:laidOutB Tryz.prog=true:=by kernel_rfl
theorem b9:Tryz.prog.globalNamed "internal/strconv.uint64pow10" = some 1:=by kernel_rfl
theorem eX:(Tryz.prog.globals[1]?).map (·.type)=some 225:=by kernel_rfl
theorem bX:Tryz.prog.cellsOf 225=20:=by kernel_rfl
theorem ae:Tryz.prog.cellsOf 120=1:=by kernel_rfl
theorem fR {W:World} (h:laidMet Tryz.prog Rows.shellPrintsRow.laid W):Lib.TabIs Tryz.prog W "internal/strconv.uint64pow10" .u64 Abs.pN :=
 Lib.tabIs_of_head b9 eX Tryz.underlying225 Tryz.underlying120 ae bX (laidMet.tail (laidMet.tail h))
theorem cZ:Tryz.prog.globalNamed "permafrost/sum.roots" = some 8:=by kernel_rfl
theorem eW:(Tryz.prog.globals[8]?).map (·.type)=some 460:=by kernel_rfl
theorem bW:Tryz.prog.cellsOf 460=64:=by kernel_rfl
theorem bZ:Tryz.prog.cellsOf 221=1:=by kernel_rfl
theorem aE {W:World} (h:laidMet Tryz.prog Rows.shellPrintsRow.laid W):Lib.TabIs Tryz.prog W "permafrost/sum.roots" .u32 Abs.rootsZ :=
 Lib.tabIs_of_head cZ eW Tryz.underlying460 Tryz.underlying221 bZ bW (laidMet.tail (laidMet.tail (laidMet.tail (laidMet.tail (laidMet.tail (laidMet.tail h))))))
theorem ek {W:World} (h:laidMetH Tryz.prog Rows.shellPrintsRow.laid W):laidMet Tryz.prog Rows.shellPrintsRow.laid W:=by
 rwa [MakeChecks.laidMetH_plain _ _ _ (by kernel_rfl)] at h
set_option maxRecDepth 100000 in
theorem pZ (H:Type) (enc:TypeId × Value→H) (W:World) (base:Nat) (args:Array Value) (ds gs:List (DataW H)) (before:List MemPlace)
  (hval0:∀ (j:Nat) t v,Tryz.f4.params[j]? = some t→args[j]? = some v→Value.okWide Tryz.prog W .any base t v)
  (hW:DataW.Whole enc Tryz.prog Tryz.f4.params.toList Rows.shellPrintsSpec.vars false W args.toList ds gs before) (hL:laidMetH Tryz.prog Rows.shellPrintsRow.laid W)
  (hsz0:(DataW.weightsEach Tryz.prog (Tryz.f4.params.toList++Rows.shellPrintsSpec.plain.varTypes Tryz.prog) (ds++gs)).all (·≤reachBytes)=true) :
  Calls Tryz.prog 4 args W fun e W'=>∃ v,e=.returned v∧Rows.shellPrintsSpec.post enc Tryz.prog Tryz.f4 false true false false W args v W':=by
 have hval:∀ (j:Nat) t v,Tryz.f4.params[j]? = some t→args[j]? = some v→Value.okWide Tryz.prog W .any base t v:=hval0
 have hsz:=hsz0
 have hM:=ek hL
 have hR:=Abs.laid_rng (laidMet.tail (laidMet.tail (laidMet.tail (laidMet.tail hM))))
 have hS:=Abs.laid_syn (laidMet.tail (laidMet.tail (laidMet.tail (laidMet.tail (laidMet.tail hM)))))
 have hG:Abs.GW Abs.gl2 W:=Abs.gw_gl2 (fR hM) b9 (aE hM) cZ
 have hW':=hW
 obtain ⟨p,q,hA0,hV,rfl,hfz,hnd⟩:=hW
 have hA:DataW.TrodAll enc Tryz.prog W 0 (fun _=>true) true Tryz.f4.params.toList args.toList ds p:=hA0
 rw [Tryz.params4] at hA hval hsz
 obtain ⟨v0,vs0,d0,ds0,p0,q0,hargs,rfl,rfl,h0,r0⟩:=trodAll_cons hA
 obtain ⟨v1,vs1,d1,ds1,p1,q1,rfl,rfl,rfl,h1,r1⟩:=trodAll_cons r0
 obtain ⟨rfl,rfl,rfl⟩:=trodAll_nil r1
 obtain rfl:args=#[v0,v1]:=by cases args;simp_all
 obtain ⟨rfl,rfl⟩:=trodVars_none hV
 have k0:=h0
 have lt0:∀ x∈p0,x.block<W.heap.size:=by obtain ⟨m,hm⟩:=k0;exact DataW.trod_lt m _ _ _ hm
 have k1:=h1
 have lt1:∀ x∈p1,x.block<W.heap.size:=by obtain ⟨m,hm⟩:=k1;exact DataW.trod_lt m _ _ _ hm
 refine (Abs.shellPrints_walk W hG (Abs.vars_of (fR hM) hS hR) h0 (hval 0 33 v0 rfl rfl) h1 (hval 1 41 v1 rfl rfl) (Abs.each_at (j:=0) hsz rfl rfl) (Abs.each_at (j:=1) hsz rfl rfl)).mono fun e W' ⟨he,bel⟩=>?_
 subst he
 exact ⟨_,rfl,_,_,_,[],_,[],hW',trodAll_mk1 (shut_bool Tryz.underlying4 _),(trodAll_cons_mk (Below.trod iK (by kernel_rfl) (of_decide_eq_true (by kernel_rfl)) k0 bel lt0) (trodAll_cons_mk (Below.trod iK (by kernel_rfl) (of_decide_eq_true (by kernel_rfl)) k1 bel lt1) trodAll_mk0)),rfl,bel.frame _,fun h=>by cases h⟩
noncomputable def uO (os:Os):World:=World.laidAll Tryz.prog os Rows.shellPrintsRow.laid
theorem kV (os:Os):laidMet Tryz.prog Rows.shellPrintsRow.laid ((uO os).forCall (fun _ _=>0) ⟨#[],#[.agg #[.int .i64 0,.int .i64 0,.string ByteArray.empty,.string ByteArray.empty,.int .i64 0,.int .i64 0,.string ByteArray.empty,.string ByteArray.empty,.int .i64 0,.int .i64 0,.int .i64 0,.int .i64 0,.string ByteArray.empty,.slice none 0 0],.agg #[.int .i64 0,.int .i64 0,.string ByteArray.empty,.slice none 0 0]],[]⟩).memory:=laidMet_laidAll _ (by kernel_rfl) (by kernel_rfl)
theorem laid_metH (os:Os):laidMetH Tryz.prog Rows.shellPrintsRow.laid ((uO os).forCall (fun _ _=>0) ⟨#[],#[.agg #[.int .i64 0,.int .i64 0,.string ByteArray.empty,.string ByteArray.empty,.int .i64 0,.int .i64 0,.string ByteArray.empty,.string ByteArray.empty,.int .i64 0,.int .i64 0,.int .i64 0,.int .i64 0,.string ByteArray.empty,.slice none 0 0],.agg #[.int .i64 0,.int .i64 0,.string ByteArray.empty,.slice none 0 0]],[]⟩).memory:=by
 rw [MakeChecks.laidMetH_plain _ _ _ (by kernel_rfl)];exact kV os
theorem reads (os:Os) {H:Type} (enc:TypeId × Value→H):∃ ds places,DataW.whole enc Tryz.prog ((uO os).forCall (fun _ _=>0) ⟨#[],#[.agg #[.int .i64 0,.int .i64 0,.string ByteArray.empty,.string ByteArray.empty,.int .i64 0,.int .i64 0,.string ByteArray.empty,.string ByteArray.empty,.int .i64 0,.int .i64 0,.int .i64 0,.int .i64 0,.string ByteArray.empty,.slice none 0 0],.agg #[.int .i64 0,.int .i64 0,.string ByteArray.empty,.slice none 0 0]],[]⟩).memory Tryz.f4.params.toList Rows.shellPrintsSpec.vars false #[Value.agg #[.int .i64 0,.int .i64 0,.string ByteArray.empty,.string ByteArray.empty,.int .i64 0,.int .i64 0,.string ByteArray.empty,.string ByteArray.empty,.int .i64 0,.int .i64 0,.int .i64 0,.int .i64 0,.string ByteArray.empty,.slice none 0 0],.agg #[.int .i64 0,.int .i64 0,.string ByteArray.empty,.slice none 0 0]].toList 8=some (ds,[],places) :=
 ⟨[.agg [.lit (.int .i64 0),.agg [.lit (.int .i64 0),.lit (.string []),.lit (.string []),.lit (.int .i64 0),.lit (.int .i64 0),.lit (.string [])],.lit (.string []),.lit (.int .i64 0),.lit (.int .i64 0),.agg [.lit (.int .i64 0),.lit (.int .i64 0)],.lit (.string []),.nil],.agg [.lit (.int .i64 0),.lit (.int .i64 0),.lit (.string []),.nil]],[],by kernel_rfl⟩
set_option maxRecDepth 100000 in
theorem Z3 (os:Os) (started:os.Started) (H:Type) (enc:TypeId × Value→H) (F:Stop.Interp) :
  ReturnsInHanded {} Tryz.checked os 4 .any ((OpenSpec.ofChange Rows.shellPrintsSpec).preRow enc Tryz.prog Tryz.f4 Rows.shellPrintsRow.domain false Rows.shellPrintsRow.laid) (((OpenSpec.ofChange Rows.shellPrintsSpec).at F).post enc Tryz.prog Tryz.f4 false true false false):=by
 obtain ⟨ds,places,hx⟩:=reads os enc
 refine returnsInHanded_of_row (C:=Tryz.checked) (s:=OpenSpec.ofChange Rows.shellPrintsSpec) own started (by kernel_rfl) Tryz.func4
  (witness_row_atRef (enc:=enc) (C:=Tryz.checked) false (uO os) #[.agg #[.int .i64 0,.int .i64 0,.string ByteArray.empty,.string ByteArray.empty,.int .i64 0,.int .i64 0,.string ByteArray.empty,.string ByteArray.empty,.int .i64 0,.int .i64 0,.int .i64 0,.int .i64 0,.string ByteArray.empty,.slice none 0 0],.agg #[.int .i64 0,.int .i64 0,.string ByteArray.empty,.slice none 0 0]] (World.laidAll_os _ _ _) (by kernel_rfl) (by kernel_rfl) (by kernel_rfl)
   (OpenSpec.preRow_of_cond 8 hx (by kernel_rfl) (fun k hk=>by cases hk) (by kernel_rfl) (kV os))) ?_
 intro W base args ds gs before hval hW _ _ hsz hL _ _
 exact pZ H enc W base args ds gs before hval hW hL hsz
theorem said:Rows.ShellPrintsSaid :=
 OpenClaim.holds_of_cond 4 Tryz.f4 rfl rfl rfl rfl rfl rfl rfl ⟨rfl,rfl,rfl,rfl,rfl⟩ rfl rfl rfl rfl rfl (by kernel_rfl) Tryz.func4 closed
  (of_decide_eq_true (by kernel_rfl)) (by unfold Func.isWrapper;first | (rw [if_pos (by decide +kernel)];kernel_rfl) | (rw [if_neg (by decide +kernel)];exact ⟨rfl,rfl⟩))
  (fun os started H enc _ F=>by rw [OpenClaim.pre_eq_preRow];exact Z3 os started H enc F)
theorem goes_none {P:Program} (h:(P.funcs.toList.all fun f=>!f.goes)=true) (f:FuncId):P.goes f=false:=by
 have h0:∀ fn∈P.funcs.toList,fn.goes=false:=by
  intro fn hf
  have:=List.all_eq_true.1 h fn hf
  simpa using this
 have h1:P.funcs.any Func.goes=false:=by
  rw [Bool.eq_false_iff]
  intro hc
  obtain ⟨i,hi,hg⟩:=Array.any_eq_true.1 hc
  rw [h0 _ (by simp)] at hg
  cases hg
 unfold Program.goes
 rw [h1,Bool.and_false,Bool.or_false,Bool.eq_false_iff]
 intro hc
 obtain ⟨g,_,hg⟩:=List.any_eq_true.1 hc
 cases hq:P.funcs[g]? with
 | none=>rw [hq] at hg;cases hg
 | some fn =>
  rw [hq] at hg
  have:fn.goes=true:=by simpa using hg
  have hm:fn∈P.funcs.toList:=by
   have:=Array.mem_of_getElem? hq
   simpa using this
  rw [h0 fn hm] at this
  cases this
theorem no_goes:(Tryz.prog.funcs.toList.all fun f=>!f.goes)=true:=by kernel_rfl
theorem goesBy_none {P:Program} (h:∀ f,P.goes f=false) {c:OpenClaim} (hs:c.start=.entering):false=c.goesBy P:=by
 unfold OpenClaim.goesBy Program.goesAt Program.goesFrom
 rw [hs]
 cases P.funcNamed c.func with
 | none=>rfl
 | some f=>simp [h f]
theorem plain (f:FuncId) (fn:Func) (hf:Tryz.pinned.checked.prog.funcNamed "permafrost/permafrostlaw24.ShellPrints" = some f) (hfn:Tryz.pinned.checked.prog.funcs[f]? = some fn) :
  true=Tryz.pinned.checked.prog.looks []∧∀ (j:Nat) t,fn.params[j]? = some t→Tryz.pinned.checked.prog.wantsStandIn t=false:=by
 obtain rfl:f=4:=Option.some.inj ((show Tryz.prog.funcNamed "permafrost/permafrostlaw24.ShellPrints" = some 4 by kernel_rfl).symm.trans hf) |>.symm
 obtain rfl:fn=Tryz.f4:=(Option.some.inj (Tryz.func4.symm.trans hfn)).symm
 refine ⟨by kernel_rfl,fun j t ht=>?_⟩
 rw [Tryz.params4] at ht
 have hm:=Array.mem_of_getElem? ht
 have hall:∀ t∈[33,41],Tryz.prog.wantsStandIn t=false:=by
  intro t ht
  simp only [List.mem_cons,List.not_mem_nil,or_false] at ht
  rcases ht with rfl | rfl
  all_goals kernel_rfl
 exact hall t (by simpa using hm)
end Go.Proofs.YthgcjbniipfnbaaGreatDoor.shellPrints
namespace Go.Proofs.YthgcjbniipfnbaaGreatDoor
theorem shellPrints_holds:Rows.ShellPrintsCardSaid :=
 Claim7.holds_tied_plain_at .later [] _ _ _ _ shellPrints.said (fun _ h=>by cases h) (by kernel_rfl) (fun _ h=>by cases h) shellPrints_row_tie rfl ⟨rfl,rfl⟩ (by kernel_rfl) rfl shellPrints.plain (shellPrints.goesBy_none (P:=Tryz.prog) (shellPrints.goes_none shellPrints.no_goes) rfl)
end Go.Proofs.YthgcjbniipfnbaaGreatDoor
