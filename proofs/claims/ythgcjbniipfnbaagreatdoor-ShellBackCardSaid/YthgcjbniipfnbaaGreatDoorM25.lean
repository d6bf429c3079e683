/- Layer 24: live() among the summaries; a law from the machine to the model. -/
import Derived.Test.YthgcjbniipfnbaaGreatDoorM24
import Derived.Stop.LaidErr
import Derived.LaidLaws
namespace Go.Proofs.YthgcjbniipfnbaaGreatDoor
namespace Abs
set_option linter.unusedVariables false
set_option linter.unusedSimpArgs false
set_option maxRecDepth 1000000
open Go.RowKit
noncomputable abbrev rootsZ:List Int:=rootsN.map iN
noncomputable abbrev rootsZV:List V:=rootsZ.map uv
noncomputable abbrev pNV:List V:=pL
theorem tab_factsL {P:Program} {W:World} {name:String} {k:IntKind} {zs:List Int} {g:Nat} (h:Lib.TabIs P W name k zs) (hg:P.globalNamed name=some g) (h0:Nat.blt 0 zs.length=true) :
  g<W.heap.size∧CellFacts noRho W ⟨g,0,0⟩ (zs.map fun n=>.int k n):=by
 have h0:0<zs.length:=Nat.le_of_ble_eq_true h0
 have hc:∀ i v,(zs.map fun n=>V.int k n)[i]? = some v→∃ u,W.cell? ⟨g,i,none⟩=some u∧VR noRho v u:=by
  intro i v hv
  rw [List.getElem?_map] at hv
  obtain ⟨z,hz,rfl⟩:=Option.map_eq_some_iff.1 hv
  have hi:=(List.getElem?_eq_some_iff.1 hz).1
  refine ⟨.int k z,?_,.int _ _⟩
  rw [h.cell hg i hi,List.getD,hz];rfl
 refine ⟨?_,fun i v hv=>?_⟩
 ·obtain ⟨u,hu,_⟩:=hc 0 _ (by rw [List.getElem?_map,List.getElem?_eq_getElem h0];rfl)
  rcases Nat.lt_or_ge g W.heap.size with q | q
  ·exact q
  ·exfalso
   have:W.heap[g]? = none:=Array.getElem?_eq_none q
   simp [World.cell?,this] at hu
 ·obtain ⟨u,q1,q2⟩:=hc i v hv
  refine ⟨u,?_,q2⟩
  simpa [at_] using q1
theorem lv1_snd (B:Nat) (w0:World):CutSnd Tryz.prog B w0 lv1:=cut_snd cfgI_tab (cfgI_sum B w0) lv1_ok
theorem lv3_snd (B:Nat) (w0:World):CutSnd Tryz.prog B w0 lv3:=cut_snd cfgI_tab (cfgI_sum B w0) lv3_ok
theorem lv2_snd (B:Nat) (w0:World):CutSnd Tryz.prog B w0 lv2:=cut_snd (cuts_tab cfgI_tab) (cuts_ok (cfgI_sum B w0) (fun c hc=>by
  simp only [List.mem_cons,List.not_mem_nil,or_false] at hc
  subst hc
  exact lv3_snd B w0)) lv2_ok
theorem lv4_snd (B:Nat) (w0:World):CutSnd Tryz.prog B w0 lv4:=cut_snd cfgI_tab (cfgI_sum B w0) lv4_ok
theorem tops_snd (B:Nat) (w0:World):∀ c∈[lv1,lv2,lv4],CutSnd Tryz.prog B w0 c:=fun c hc=>by
  simp only [List.mem_cons,List.not_mem_nil,or_false] at hc
  rcases hc with rfl | rfl | rfl
  ·exact lv1_snd B w0
  ·exact lv2_snd B w0
  ·exact lv4_snd B w0
theorem gl2_lt:∀ p∈gl2,p.1<GN:=by decide
theorem gl2_sc:∀ p∈gl2,V.scopeds 0 p.2=true:=List.forall_mem_cons.2 ⟨(by kernel_rfl:V.scopeds 0 pNV=true),List.forall_mem_cons.2 ⟨(by kernel_rfl:V.scopeds 0 rootsZV=true),nofun⟩⟩
theorem gl2_at:∀ p∈gl2,(baseH gl2).get p.1=some (.cells p.2 .ro):=List.forall_mem_cons.2 ⟨(by kernel_rfl:(baseH gl2).get 1=some (.cells pNV .ro)),List.forall_mem_cons.2 ⟨(by kernel_rfl:(baseH gl2).get 8=some (.cells rootsZV .ro)),nofun⟩⟩
theorem gw_gl2 {W:World} (h0:Lib.TabIs Tryz.prog W "internal/strconv.uint64pow10" .u64 pN) (g0:Tryz.prog.globalNamed "internal/strconv.uint64pow10" = some 1) (h1:Lib.TabIs Tryz.prog W "permafrost/sum.roots" .u32 rootsZ) (g1:Tryz.prog.globalNamed "permafrost/sum.roots" = some 8):GW gl2 W:=by
 intro p hp
 have hp:p∈[(1,pNV),(8,rootsZV)]:=hp
 simp only [List.mem_cons,List.not_mem_nil,or_false] at hp
 rcases hp with rfl | rfl
 ·exact tab_factsL h0 g0 (by kernel_rfl)
 ·exact tab_factsL h1 g1 (by kernel_rfl)
theorem cfgP_sum {B:Nat} {w0:World} (V:Vars B w0):SumOk Tryz.prog B w0 cfgP:=by
 intro f args h v h' hs
 replace hs:sumLive gl2 7 sumP f args h=some (some (v,h')):=hs
 unfold sumLive at hs
 split at hs
 ·rename_i hf
  obtain rfl:=Nat.eq_of_beq_eq_true hf
  split at hs
  ·split at hs
   ·rename_i hg
    cases hs
    refine ⟨HM.refl h,fun ρ w us r hr=>?_⟩
    have hx:=live_run
    obtain ⟨h1,hx⟩:=isT_eq hx
    exact frame_call gl2 gl2_lt gl2_sc gl2_at (cuts_tab cfgI_tab) (fun B w0=>cuts_ok (cfgI_sum B w0) (tops_snd B w0)) hx rfl rfl r (glB_gl hg) hr
   ·cases hs
  ·cases hs
 ·exact sumP_ok V f args h v h' hs
theorem cfgP_S (f:Nat) (args:List V) (h:Heap):cfgP.S f args h=sumLive gl2 7 sumP f args h:=rfl
theorem cfgP_ne {f:Nat} (hf:Nat.beq f 7=false) (args:List V) (h:Heap):cfgP.S f args h=sumP f args h:=by
 rw [cfgP_S]
 unfold sumLive
 rw [hf]
theorem snh_ne {f n:Nat} (h:SNH.contains f=false) (hn:SNH.contains n=true):f≠n:=by
 rintro rfl
 rw [hn] at h;cases h
theorem glB_grow {l:List (Nat × List V)} (h h':Heap) (hp:glB l h=true) (g:Grow h h'):glB l h'=true:=by
 unfold glB at hp ⊢
 rw [List.all_eq_true] at hp ⊢
 intro x hx
 have:=hp x hx
 cases hq:h.get x with
 | none=>rw [hq] at this;cases this
 | some o=>rw [hq] at this;rw [g.ext _ _ hq];exact this
theorem cfgP_std {B:Nat} {w0:World} (Va:Vars B w0):StdV cfgP (fun h=>glB gl2 h=true) where
 s := fun f args h hf=>by
  have h0:Nat.beq f 7=false:=by
   cases hb:Nat.beq f 7 with
   | false=>rfl
   | true=>exact absurd (Nat.eq_of_beq_eq_true hb) (snh_ne hf rfl)
  rw [cfgP_ne h0]
  unfold sumP
  rw [if_neg (snh_ne hf rfl),if_neg (snh_ne hf rfl),if_neg (snh_ne hf rfl),if_neg (snh_ne hf rfl),if_neg (snh_ne hf rfl),if_neg (snh_ne hf rfl),if_neg (snh_ne hf rfl)]
 t:=rfl
 hm:=fun f args h v h' hx=>(cfgP_sum Va f args h v h' hx).1
 noesc:=fun h x=>by
  rw [cfgP_ne rfl]
  unfold sumP
  rw [if_pos rfl]
 itoa:=fun h n h1 h2=>by
  rw [cfgP_ne rfl]
  unfold sumP
  rw [if_neg (by decide),if_pos rfl]
  simp only
  rw [if_pos ⟨h1,h2⟩]
 atoi:=fun h s h1 h2=>by
  rw [cfgP_ne rfl]
  unfold sumP
  rw [if_neg (by decide),if_neg (by decide),if_pos rfl]
  simp only
  rw [if_pos ⟨h1,h2⟩]
 split:=fun h s h1 h2=>by
  rw [cfgP_ne rfl]
  unfold sumP
  rw [if_neg (by decide),if_neg (by decide),if_neg (by decide),if_pos rfl]
  simp only
  rw [if_pos ⟨h1,h2,rfl⟩]
 has:=fun h s h1 h2=>by
  rw [cfgP_ne rfl]
  unfold sumP
  rw [if_neg (by decide),if_neg (by decide),if_neg (by decide),if_neg (by decide),if_pos rfl]
  simp only
  rw [if_pos ⟨h1,h2,rfl⟩]
 join:=fun h x ts sx hl=>by
  rw [cfgP_ne rfl]
  unfold sumP
  rw [if_neg (by decide),if_neg (by decide),if_neg (by decide),if_neg (by decide),if_neg (by decide),if_pos rfl]
  have h1:slLen x=some ts.length:=by have:=sx.len;simpa using this
  have h2:slCells h 1 ts.length x=some (ts.map V.str):=by have:=sx.cells;rw [strs_flat] at this;simpa using this
  unfold joinSum
  simp only [h1,h2,strsV_strs,joinL_eq]
  rw [if_pos ⟨⟨by have:=join_ge ts;omega,by omega⟩,trivial⟩]
 terr:=fun h a b s n h1 h2=>by
  rw [cfgP_ne rfl]
  unfold sumP
  rw [if_neg (by decide),if_neg (by decide),if_neg (by decide),if_neg (by decide),if_neg (by decide),if_neg (by decide),if_pos rfl]
  simp only
  rw [if_pos ⟨⟨h1,trivial⟩,trivial,h2⟩]
 live:=fun h hP=>by
  rw [cfgP_S]
  unfold sumLive
  rw [show Nat.beq 7 7=true from rfl]
  simp only
  rw [hP]
 grow:=glB_grow
theorem law_at {f:Nat} {fn:Func} (hf:Tryz.prog.funcs[f]? = some fn) (hb:fn.body.isSome=true) (hnm:(fn.name == "runtime.NumGoroutine")=false) {args:List V} {h:Heap} {ρ:Rho} {w:World} (V:Vars w.heap.size w) {us:Array Value}
  (hx:Ans cfgP f args h fun v h'=>v=.bool true∧Grow h h') (r:Rel Tryz.prog w.heap.size w ρ h w) (hr:VRs ρ args us.toList):Calls Tryz.prog f us w fun e w'=>e=.returned (.bool true)∧Below w.heap.size w w':=by
 obtain ⟨v,h',⟨n,hn⟩,rfl,_⟩:=hx
 have snd:=(run_sound cfgP_tab (cfgP_sum V) n).1.fn f args h _ h' hn ρ w us r hr
 rcases snd with ⟨q1,q2⟩ | ⟨u,w',q1,q2⟩
 ·refine (callsIn_wide.1 (q2 0)).mono fun e w' he=>?_
  cases e with
  | returned u =>
   obtain ⟨ρ',g1,g2,g3⟩:=he
   cases g1
   exact ⟨rfl,g2.below⟩
  | panicked c=>exact he.elim
  | outgrown=>exact he.elim
 ·exfalso
  simp only [callFunc,Sem.run_bind,run_program,Result.andThen_ok,hf,hnm,Bool.false_eq_true,if_false] at q1
  rw [if_neg] at q1
  ·cases q1
  ·cases hbb:fn.body with
   | none=>rw [hbb] at hb;cases hb
   | some c=>simp
theorem glB_base:glB gl2 (baseH gl2)=true:=by kernel_rfl
theorem byt_strOf (b:ByteArray):Byt (strOf b):=by
 intro c hc
 unfold strOf at hc
 obtain ⟨x,_,rfl⟩:=List.mem_map.1 hc
 exact x.toNat_lt
theorem vars_of {W:World} (h0:Lib.TabIs Tryz.prog W "internal/strconv.uint64pow10" .u64 pN) (h1:∃ t p,W.var? Tryz.prog "strconv.ErrSyntax" = some #[.iface t p]) (h2:∃ t p,W.var? Tryz.prog "strconv.ErrRange" = some #[.iface t p]):Vars W.heap.size W :=
 ⟨h0,h1,h2,var_lt gPow h0,(by obtain ⟨t,p,q⟩:=h1;exact var_lt gSyn q),(by obtain ⟨t,p,q⟩:=h2;exact var_lt gRng q)⟩
theorem cells364:Tryz.prog.cellsOf 364=1:=by kernel_rfl
theorem cells9:Tryz.prog.cellsOf 9=1:=by kernel_rfl
theorem gSynType:(Tryz.prog.globals[4]?).map (·.type)=some 100:=by kernel_rfl
theorem gRngType:(Tryz.prog.globals[5]?).map (·.type)=some 100:=by kernel_rfl
theorem starErr : "*" ++ "errors.errorString" = "*errors.errorString" := by decide
theorem rowErr (u:TypeId) (h:Tryz.prog.typeName? 3 u=some "*errors.errorString"):u=362 :=
 typeName_ptr_named (nm := "errors.errorString") (by rw [starErr];kernel_rfl) (by kernel_rfl) (by decide) u (by rw [starErr];exact h)
theorem laid_syn {W:World} {text:List UInt8} {r:List (String × DataW Unit)} (h:laidMet Tryz.prog (("strconv.ErrSyntax",.iface "*errors.errorString" (.ptr (.agg [.lit (.string text)])))::r) W):∃ t p,W.var? Tryz.prog "strconv.ErrSyntax" = some #[.iface t p]:=by
 obtain ⟨a,s,hv,_⟩:=laid_sentinel h gSyn gSynType Tryz.underlying100 rowErr Tryz.underlying362 Tryz.underlying364 rfl rfl Tryz.underlying9 cells364 cells9
 exact ⟨_,_,hv⟩
theorem laid_rng {W:World} {text:List UInt8} {r:List (String × DataW Unit)} (h:laidMet Tryz.prog (("strconv.ErrRange",.iface "*errors.errorString" (.ptr (.agg [.lit (.string text)])))::r) W):∃ t p,W.var? Tryz.prog "strconv.ErrRange" = some #[.iface t p]:=by
 obtain ⟨a,s,hv,_⟩:=laid_sentinel h gRng gRngType Tryz.underlying100 rowErr Tryz.underlying362 Tryz.underlying364 rfl rfl Tryz.underlying9 cells364 cells9
 exact ⟨_,_,hv⟩
end Abs
end Go.Proofs.YthgcjbniipfnbaaGreatDoor
