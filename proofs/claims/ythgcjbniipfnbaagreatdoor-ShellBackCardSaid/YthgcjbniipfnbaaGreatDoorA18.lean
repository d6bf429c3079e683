/- The abstract machine's memory alone: what a run leaves as it was. The abstract machine's code is the model's: regions in the order of the text. The abstract machine's code is the model's: regions whose order is drawn. The abstract machine's code is the model's: a drawn region, in whatever order its edges allow. The abstract machine's runs are the model's: code, calls, all of it. The abstract machine: a run in an empty memory serves in every memory; a law's run. The abstract machine: more rounds tell the same; steps for reasoning. -/
import Derived.Test.YthgcjbniipfnbaaGreatDoorA13
import Derived.CallsIn
import Derived.OrdersIn
import Derived.RangeFuncIn
import Derived.RangeFuncLeaves
import Derived.RangeFuncRecord
namespace Go.Proofs.YthgcjbniipfnbaaGreatDoor
namespace Abs
set_option linter.unusedVariables false
set_option linter.unusedSimpArgs false
open Go.RowKit
structure HM (h h':Heap):Prop where
 size:h.size≤h'.size
 low:h'.low≤h.low
 get:∀ b,b<h'.low→b<h.size→h'.get b=h.get b
theorem HM.refl (h:Heap):HM h h:=⟨Nat.le_refl _,Nat.le_refl _,fun _ _ _=>rfl⟩
theorem HM.trans {a b c:Heap} (h:HM a b) (k:HM b c):HM a c :=
 ⟨Nat.le_trans h.size k.size,Nat.le_trans k.low h.low,fun x h1 h2=>(k.get x h1 (Nat.lt_of_lt_of_le h2 h.size)).trans (h.get x (Nat.lt_of_lt_of_le h1 k.low) h2)⟩
theorem HM.put (h:Heap) (b:Nat) (o:Obj):HM h (h.put b o) :=
 ⟨Nat.le_refl _,Nat.min_le_left _ _,fun x h1 h2=>by
  have:x<min h.low b:=h1
  rw [Heap.get_put,if_neg (by omega)]⟩
theorem HM.push (h:Heap) (o:Obj):HM h (h.push o) :=
 ⟨Nat.le_succ _,Nat.le_refl _,fun x h1 h2=>by rw [Heap.get_push,if_neg (by omega)]⟩
theorem HM.kill:∀ (S:List Nat) (h:Heap),HM h (h.kill S)
 | [],h=>HM.refl h
 | b::r,h=>by
  unfold Heap.kill
  split
  ·exact (HM.put h b .dead).trans (HM.kill r _)
  ·exact HM.kill r h
theorem HM.wr {h h':Heap} {b o:Nat} {vs:List V} (hw:h.wr b o vs=some h'):HM h h':=by
 unfold Heap.wr at hw
 split at hw
 ·split at hw
  ·cases hw;exact (HM.kill _ h).trans (HM.put _ _ _)
  ·cases hw
 ·cases hw
theorem HM.core {h h':Heap} {sz bytes n:Nat} {tyK:Option Nat} {x v:V} {items:List V} (hc:appendCore h sz bytes tyK x n items=some (v,h')):HM h h':=by
 unfold appendCore at hc
 split at hc
 ·split at hc
  ·cases hc;exact HM.refl _
  ·split at hc
   ·cases hc;exact HM.push _ _
   ·cases hc
 ·split at hc
  ·split at hc
   ·cases hc;exact HM.refl _
   ·split at hc
    ·rename_i h2 hw;cases hc;exact HM.wr hw
    ·cases hc
  ·split at hc
   ·split at hc
    ·cases hc;exact HM.push _ _
    ·cases hc
   ·cases hc
 ·split at hc
  ·split at hc
   ·cases hc;exact HM.refl _
   ·split at hc
    ·rename_i h2 hw;cases hc;exact HM.wr hw
    ·cases hc
  ·split at hc
   ·split at hc
    ·split at hc
     ·cases hc;exact (HM.put _ _ _).trans (HM.push _ _)
     ·cases hc
    ·cases hc
   ·cases hc
 ·cases hc
theorem HM.next {h h':Heap} {rb:Nat} {v:V} (hx:nextA h rb=some (v,h')):HM h h':=by
 unfold nextA at hx
 split at hx
 ·cases hx;exact HM.refl _
 ·split at hx
  ·split at hx
   ·split at hx
    ·cases hx;exact HM.refl _
    ·cases hx;exact HM.put _ _ _
    ·cases hx
   ·cases hx
  ·cases hx
 ·cases hx
theorem ent_same {h h':Heap} {rb:Nat} {v:V} (hx:entA h rb=some (v,h')):h'=h:=by
 unfold entA at hx
 split at hx
 ·split at hx
  ·split at hx
   ·split at hx
    ·cases hx;rfl
    ·cases hx
   ·cases hx
  ·cases hx
 ·cases hx
theorem HM.ent {h h':Heap} {rb:Nat} {v:V} (hx:entA h rb=some (v,h')):HM h h':=by
 rw [ent_same hx];exact HM.refl _
theorem HM.op {k:K} {tm:TM} {h h':Heap} {v:V} (hx:opK k tm h=some (v,h')):HM h h':=by
 cases k <;> simp only [opK] at hx
 case store n a x =>
  split at hx
  ·split at hx
   ·rename_i h2 hh
    cases hx
    unfold storeA at hh
    split at hh
    ·split at hh
     ·exact HM.wr hh
     ·cases hh
    ·cases hh
   ·cases hx
  ·cases hx
 case append sz bt ty x y =>
  split at hx
  ·unfold appendA at hx
   split at hx
   ·split at hx
    ·split at hx
     ·exact HM.core hx
     ·cases hx
    ·cases hx
   ·cases hx
  ·cases hx
 case unsStr bt x n =>
  split at hx
  ·unfold unsStrA at hx
   split at hx
   ·split at hx
    ·split at hx
     ·cases hx;exact HM.refl _
     ·cases hx
    ·split at hx
     ·cases hx;exact HM.refl _
     ·split at hx
      ·split at hx
       ·split at hx
        ·cases hx;exact HM.put _ _ _
        ·cases hx
       ·cases hx
      ·cases hx
    ·cases hx
   ·cases hx
  ·cases hx
 case appendS ty x y =>
  split at hx
  ·unfold appendSA at hx
   split at hx
   ·exact HM.core hx
   ·cases hx
  ·cases hx
 case copy sz x y =>
  split at hx
  ·unfold copyA at hx
   split at hx
   ·split at hx
    ·split at hx
     ·split at hx
      ·cases hx;exact HM.refl _
      ·split at hx
       ·rename_i h2 hw;cases hx;exact HM.wr hw
       ·cases hx
     ·split at hx
      ·cases hx;exact HM.refl _
      ·split at hx
       ·rename_i h2 hw;cases hx;exact HM.wr hw
       ·cases hx
     ·cases hx;exact HM.refl _
     ·cases hx
    ·cases hx
   ·cases hx
  ·cases hx
 case clear sz z x =>
  split at hx
  ·unfold clearA at hx
   split at hx
   ·cases hx
   ·cases hx;exact HM.refl _
   ·split at hx
    ·split at hx
     ·rename_i h2 hw;cases hx;exact HM.wr hw
     ·cases hx
    ·split at hx
     ·rename_i h2 hw;cases hx;exact HM.wr hw
     ·cases hx
    ·cases hx
  ·cases hx
 case makeSl sz bt z l c =>
  split at hx
  ·unfold makeSlA at hx
   split at hx
   ·split at hx
    ·cases hx;exact HM.push _ _
    ·cases hx
   ·cases hx
  ·cases hx
 case mapUpd kk m k v2 =>
  split at hx
  ·split at hx
   ·rename_i h2 hh
    cases hx
    unfold mapUpdA at hh
    split at hh
    ·split at hh
     ·split at hh
      ·cases hh;exact HM.put _ _ _
      ·cases hh
     ·cases hh
    ·cases hh
   ·cases hx
  ·cases hx
 case mapDel kk m k =>
  split at hx
  ·split at hx
   ·rename_i h2 hh
    cases hx
    unfold mapDelA at hh
    split at hh
    ·cases hh;exact HM.refl _
    ·split at hh
     ·split at hh
      ·cases hh;exact HM.put _ _ _
      ·cases hh
     ·cases hh
    ·cases hh
   ·cases hx
  ·cases hx
 case mapEnt kk z m k =>
  split at hx
  ·unfold mapEntA at hx
   split at hx
   ·split at hx
    ·split at hx
     ·split at hx
      ·cases hx;exact HM.put _ _ _
      ·cases hx;exact HM.put _ _ _
      ·cases hx
     ·cases hx
    ·cases hx
   ·cases hx
  ·cases hx
 case entSt m s x =>
  split at hx
  ·split at hx
   ·rename_i h2 hh
    cases hx
    unfold entStA at hh
    split at hh
    ·split at hh
     ·split at hh
      ·split at hh
       ·cases hh;exact HM.put _ _ _
       ·cases hh
      ·cases hh
     ·cases hh
    ·cases hh
   ·cases hx
  ·cases hx
 case nextM x =>
  split at hx
  ·exact HM.next hx
  ·cases hx
 case entM x =>
  split at hx
  ·exact HM.ent hx
  ·cases hx
 all_goals first
  | (cases hx;done)
  | (cases hx;exact HM.push _ _)
  | ((repeat' split at hx) <;> first | (cases hx;done) | (cases hx;exact HM.refl _) | (cases hx;exact HM.push _ _))
def CallHM (call:CallF):Prop:=∀ f args h v h',call f args h=some (v,h')→HM h h'
def LoopHM (L:LoopF):Prop:=∀ c tm h ex tm' h',L c tm h=some (ex,tm',h')→HM h h'
theorem HM.opA {call:CallF} (hc:CallHM call) {k:K} {tm:TM} {h h':Heap} {v:V} (hx:opA call k tm h=some (v,h')):HM h h':=by
 unfold Abs.opA at hx
 split at hx
 ·split at hx
  ·exact hc _ _ _ _ _ hx
  ·exact hc _ _ _ _ _ hx
  ·cases hx
 ·split at hx
  ·split at hx
   ·exact hc _ _ _ _ _ hx
   ·split at hx
    ·split at hx
     ·exact hc _ _ _ _ _ hx
     ·cases hx
    ·cases hx
  ·cases hx
 ·split at hx
  ·split at hx
   ·exact hc _ _ _ _ _ hx
   ·cases hx
  ·cases hx
 ·exact HM.op hx
theorem HM.step {call:CallF} (hc:CallHM call) {o:AOp} {tm tm':TM} {h h':Heap} (hx:stepOp call o tm h=some (tm',h')):HM h h':=by
 unfold stepOp at hx
 split at hx
 ·split at hx
  ·rename_i v h2 hh;cases hx;exact HM.opA hc hh
  ·cases hx
 ·cases hx;exact HM.refl _
 ·cases hx
theorem HM.ops {call:CallF} (hc:CallHM call):∀ (l:List AOp) {tm tm':TM} {h h':Heap} (hx:runOps call l tm h=some (tm',h')),HM h h'
 | [],_,_,_,_,hx=>by cases hx;exact HM.refl _
 | o::r,tm,tm',h,h',hx=>by
  unfold runOps at hx
  split at hx
  ·rename_i tm2 h2 hh
   exact (HM.step hc hh).trans (HM.ops hc r hx)
  ·cases hx
theorem HM.trace {call:CallF} (hc:CallHM call):∀ (l:List DOp) {tr:List (DOp × Log)} {tm tm':TM} {h h':Heap} (hx:traceDraw call l tm h=some (tr,tm',h')),HM h h'
 | [],_,_,_,_,_,hx=>by cases hx;exact HM.refl _
 | o::r,tr,tm,tm',h,h',hx=>by
  unfold traceDraw at hx
  split at hx
  ·split at hx
   ·rename_i q1 q2 q3 hh;cases hx;exact HM.trace hc r hh
   ·cases hx
  ·split at hx
   ·rename_i v h2 hh
    split at hx
    ·rename_i q1 q2 q3 hh2;cases hx;exact (HM.opA hc hh).trans (HM.trace hc r hh2)
    ·cases hx
   ·cases hx
  ·cases hx
theorem HM.draw {call:CallF} (hc:CallHM call) (l:List DOp) {tm tm':TM} {h h':Heap} (hx:runDraw call l tm h=some (tm',h')):HM h h':=by
 unfold runDraw at hx
 split at hx
 ·rename_i tr q1 q2 hh
  split at hx
  ·cases hx;exact HM.trace hc l hh
  ·cases hx
 ·cases hx
theorem HM.exec {call:CallF} {L:LoopF} (hc:CallHM call) (hl:LoopHM L):∀ (c:AC) {tm tm':TM} {h h':Heap} {ex:Ex} (hx:execC call L c tm h=some (ex,tm',h')),HM h h'
 | .skip,_,_,_,_,_,hx=>by cases hx;exact HM.refl _
 | .ops l,tm,tm',h,h',ex,hx=>by
  unfold execC at hx
  split at hx
  ·rename_i a b hh;cases hx;exact HM.ops hc l hh
  ·cases hx
 | .draw l,tm,tm',h,h',ex,hx=>by
  unfold execC at hx
  split at hx
  ·rename_i a b hh;cases hx;exact HM.draw hc l hh
  ·cases hx
 | .seq a b,tm,tm',h,h',ex,hx=>by
  unfold execC at hx
  split at hx
  ·rename_i tm2 h2 hh
   exact (HM.exec hc hl a hh).trans (HM.exec hc hl b hx)
  ·exact HM.exec hc hl a hx
 | .cond x a b,tm,tm',h,h',ex,hx=>by
  unfold execC at hx
  split at hx
  ·split at hx
   ·exact HM.exec hc hl a hx
   ·exact HM.exec hc hl b hx
  ·cases hx
 | .block id c,tm,tm',h,h',ex,hx=>by
  unfold execC at hx
  split at hx
  ·rename_i i tm2 h2 hh;cases hx;exact HM.exec hc hl c hh
  ·exact HM.exec hc hl c hx
 | .loop c,tm,tm',h,h',ex,hx=>by
  unfold execC at hx
  split at hx
  ·rename_i tm2 h2 hh
   exact (HM.exec hc hl c hh).trans (hl _ _ _ _ _ _ hx)
  ·exact HM.exec hc hl c hx
 | .exit id,_,_,_,_,_,hx=>by cases hx;exact HM.refl _
 | .ret,_,_,_,_,_,hx=>by cases hx;exact HM.refl _
 | .bad,_,_,_,_,_,hx=>by cases hx
 | .range nt f ps a b,tm,tm',h,h',ex,hx=>by
  unfold execC at hx
  split at hx
  ·split at hx
   ·rename_i v h2 hh
    have h3:=((HM.push h .dfr).trans (HM.push _ _)).trans (hc _ _ _ _ _ hh)
    split at hx
    ·split at hx
     ·cases hx
     ·cases hx;exact h3.trans (HM.put _ _ _)
    ·cases hx
   ·cases hx
  ·cases hx
 | .defr f args,tm,tm',h,h',ex,hx=>by
  unfold execC at hx
  split at hx
  ·cases hx;exact HM.refl _
  ·cases hx
theorem HM.yield {exec:LoopF} (he:LoopHM exec) {b:Nat} {vs:List V} {h h':Heap} {v:V} (hx:yieldBody exec b vs h=some (v,h')):HM h h':=by
 unfold yieldBody at hx
 split at hx
 ·split at hx
  ·split at hx
   ·rename_i h2 hh
    have q1:=he _ _ _ _ _ _ hh
    split at hx
    ·split at hx
     ·rename_i h3 hh3
      have q2:=q1.trans ((HM.put h2 b _).trans (he _ _ _ _ _ _ hh3))
      split at hx
      ·split at hx
       ·cases hx;exact q2.trans (HM.put _ _ _)
       ·cases hx;exact q2.trans (HM.put _ _ _)
      ·cases hx
     ·cases hx
    ·cases hx
   ·cases hx
  ·cases hx
 ·cases hx
theorem HM.defers {C:Cfg} {exec:LoopF} (he:LoopHM exec):∀ (l:List V) {h h':Heap} (hx:runDefers C exec l h=some h'),HM h h':=by
 intro l
 induction l with
 | nil=>intro h h' hx;simp only [runDefers] at hx;cases hx;exact HM.refl _
 | cons x r ih =>
  intro h h' hx
  unfold runDefers at hx
  split at hx
  ·rename_i he2;cases he2
  ·rename_i he2
   cases he2
   split at hx
   ·exact (HM.put _ _ _).trans (ih hx)
   ·cases hx
  ·rename_i he2
   cases he2
   split at hx
   ·exact ih hx
   ·split at hx
    ·split at hx
     ·split at hx
      ·cases hx
      ·rename_i hh
       split at hx
       ·exact (he _ _ _ _ _ _ hh).trans (ih hx)
       ·cases hx
      ·cases hx
     ·cases hx
    ·cases hx
  ·cases hx
theorem HM.close {h h1:Heap} (hm:HM { h with low:=h.size } h1) (v:V):HM h (closeCall h v h1).2:=by
 unfold closeCall
 split
 ·exact HM.refl _
 ·exact ⟨hm.size,Nat.min_le_left _ _,fun b h2 h3=>by
   have:b<min h.low h1.low:=h2
   exact hm.get b (by omega) h3⟩
theorem HM.body {C:Cfg} {exec:LoopF} (he:LoopHM exec) {af:AFunc} {args:List V} {h h':Heap} {v:V} (hx:callBody C exec af args h=some (v,h')):HM h h':=by
 unfold callBody at hx
 split at hx
 ·split at hx
  ·cases hx
  ·rename_i ex tm h1 hne hh
   split at hx
   ·rename_i h2 hd
    split at hx
    ·rename_i vs hvs
     have:=HM.close ((he _ _ _ _ _ _ hh).trans (HM.defers he _ hd)) (oneOf vs)
     have e:(closeCall h (oneOf vs) h2).2=h':=by
      have:=Option.some.inj hx
      rw [this]
     rw [←e];exact this
    ·cases hx
   ·cases hx
  ·cases hx
 ·cases hx
theorem HM.runF (C:Cfg) (hS:∀ f args h v h',C.S f args h=some (some (v,h'))→HM h h') {exec:LoopF} (he:LoopHM exec) {f:Nat} {args:List V} {h h':Heap} {v:V} (hx:Abs.runF C exec f args h=some (v,h')):HM h h':=by
 unfold Abs.runF at hx
 split at hx
 ·rename_i r hr
  subst hx
  exact hS _ _ _ _ _ hr
 ·split at hx
  ·exact HM.body he hx
  ·cases hx
theorem HM.run (C:Cfg) (hS:∀ f args h v h',C.S f args h=some (some (v,h'))→HM h h'):∀ n,CallHM (Abs.run C n).1∧LoopHM (Abs.run C n).2
 | 0=>by
  refine ⟨?_,?_⟩
  ·intro f args h v h' hx;simp [Abs.run] at hx
  ·intro c tm h ex tm' h' hx;simp [Abs.run] at hx
 | n+1=>by
  obtain ⟨h1,h2⟩:=HM.run C hS n
  have hl:LoopHM (Abs.run C (n+1)).2:=fun c tm h ex tm' h' hx=>HM.exec h1 h2 c hx
  refine ⟨fun f args h v h' hx=>?_,hl⟩
  simp only [Abs.run] at hx
  split at hx
  ·exact HM.runF C hS hl hx
  ·exact HM.yield hl hx
end Abs
end Go.Proofs.YthgcjbniipfnbaaGreatDoor
namespace Go.Proofs.YthgcjbniipfnbaaGreatDoor
namespace Abs
set_option linter.unusedVariables false
set_option linter.unusedSimpArgs false
open Go.RowKit
section
variable {P:Program} {B:Nat} {w0:World}
def Ret (P:Program) (B:Nat) (w0:World) (ρ:Rho) (n:Nat) (v:V) (h':Heap):Value→World→Prop:=fun u w'=>∃ ρ',VR ρ' v u∧Rel P B w0 ρ' h' w'∧New ρ ρ' n
def RetE (P:Program) (B:Nat) (w0:World) (ρ:Rho) (n:Nat) (v:V) (h':Heap):Ending→World→Prop
 | .returned u,w'=>Ret P B w0 ρ n v h' u w'
 | _,_=>False
def CallSnd (P:Program) (B:Nat) (w0:World) (ρ:Rho) (f:Nat) (us:Array Value) (w:World) (h:Heap) (v:V) (h':Heap):Prop :=
 ((callFunc f us).run P w=.ok (.enter f us) w∧∀ n,CallsIn Fence.wide n P f us w (RetE P B w0 ρ h.size v h')) ∨
 (∃ u w',(callFunc f us).run P w=.ok (.value u) w'∧Ret P B w0 ρ h.size v h' u w')
def YieldSnd (P:Program) (B:Nat) (w0:World) (ρ:Rho) (l:Nat) (us:Array Value) (w:World) (h:Heap) (v:V) (h':Heap):Prop :=
 ∃ f tmps asg body,(Instr.yield l us).run P w=.ok (.round l f tmps asg body) w∧∀ n,RoundIn Fence.wide n P l f tmps asg body w (RetE P B w0 ρ h.size v h')
structure CallOk (P:Program) (B:Nat) (w0:World) (call:CallF):Prop where
 fn:∀ f args h v h',call (.fn f) args h=some (v,h')→∀ (ρ:Rho) (w:World) (us:Array Value),Rel P B w0 ρ h w→VRs ρ args us.toList→CallSnd P B w0 ρ f us w h v h'
 yl:∀ b args h v h',call (.yl b) args h=some (v,h')→∀ (ρ:Rho) (w:World) (us:Array Value) (e:Emb),Rel P B w0 ρ h w→ρ b=some e→VRs ρ args us.toList→YieldSnd P B w0 ρ e.blk us w h v h'
def Fw (ro:Option Nat):Fence:={ Fence.wide with round:=ro }
theorem round_fw {ro:Option Nat} {n l:Nat} {f:FuncId} {tmps:Array Value} {asg body:Code} {w:World} {R:Ending→World→Prop} (h:RoundIn Fence.wide n P l f tmps asg body w R):RoundIn (Fw ro) n P l f tmps asg body w R:=h
theorem calls_fw {ro:Option Nat} {n:Nat} {f:FuncId} {us:Array Value} {w:World} {R:Ending→World→Prop} (h:CallsIn Fence.wide n P f us w R):CallsIn (Fw ro) n P f us w R:=h
theorem fw_depth {ro:Option Nat} {n:Nat}:(Fw ro).depth.isSome=true→1≤n:=fun h=>absurd h (by simp [Fw,Fence.wide])
inductive ExR:Ex→Exit→Prop where
 | normal:ExR .normal .normal
 | exit (id:Nat):ExR (.exit id) (.exit id)
 | ret:ExR .ret .ret
inductive DefR (ρ:Rho):List V→List Deferred→Prop where
 | nil:DefR ρ [] []
 | mark (b:Nat) (e:Emb) (r:Nat) (x:List V) (ds:List Deferred) (h:ρ b=some e) (hr:r=e.blk) (t:DefR ρ x ds):DefR ρ (.yld b::x) ({ target:=.collected r,args:=#[] }::ds)
 | call (f:FuncId) (vs:List V) (cap as:Array Value) (x:List V) (ds:List Deferred) (h:VRs ρ vs (as++cap).toList) (t:DefR ρ x ds):DefR ρ (.tuple [.func (.func f) [] [],.tuple vs]::x) ({ target:=.fn (.func f) cap,args:=as }::ds)
theorem DefR.mono {ρ ρ':Rho} (hρ:RLe ρ ρ'):∀ {x:List V} {ds:List Deferred},DefR ρ x ds→DefR ρ' x ds
 | _,_,.nil=>.nil
 | _,_,.mark b e r x ds h hr t=>.mark b e r x ds (hρ _ _ h) hr (t.mono hρ)
 | _,_,.call f vs cap as x ds h t=>.call f vs cap as x ds (h.mono hρ) (t.mono hρ)
def ActR (ρ:Rho) (nt:Nat) (ro:Option Nat) (tm:TM) (a:Act):Prop:=TMR ρ nt tm a.tmps∧(ro=none→DefR ρ (deferred tm) a.defers)
theorem deferred_eq {tm tm':TM} (h:tm'.get DX=tm.get DX):deferred tm'=deferred tm:=by unfold deferred;rw [h]
theorem ActR.next {ρ ρ':Rho} {nt:Nat} {ro:Option Nat} {tm tm':TM} {a a':Act} (h:ActR ρ nt ro tm a) (ht:TMR ρ' nt tm' a'.tmps) (hρ:RLe ρ ρ') (hd:a'.defers=a.defers) (hx:tm'.get DX=tm.get DX):ActR ρ' nt ro tm' a' :=
 ⟨ht,fun hr=>by rw [deferred_eq hx,hd];exact (h.2 hr).mono hρ⟩
def Post (P:Program) (B:Nat) (w0:World) (ρ:Rho) (n nt:Nat) (ro:Option Nat) (ex:Ex) (tm':TM) (h':Heap):Exit→Act→World→Prop :=
 fun e a' w'=>ExR ex e∧∃ ρ',ActR ρ' nt ro tm' a'∧Rel P B w0 ρ' h' w'∧New ρ ρ' n
theorem not_defer {o:Oper} {k:K} (hk:kC P o=some k):∀ c,o.op≠.defer c:=by
 intro c hc
 unfold kC at hk
 rw [hc] at hk
 cases hk
theorem about_ok {ro:Option Nat} {o:Oper} {w:World} {a:Act}:∀ f,o.about P w a.eval=some f→(Fw ro).fn f:=fun f _=>trivial
theorem up_done {ro:Option Nat} {n:Nat} {o:Oper} {a:Act} {w w':World} {u:Value} {next:Act→World→Prop} {Q:Exit→Act→World→Prop} (hnd:∀ c,o.op≠.defer c) (hd:Done P o a w u w') (hn:next (a.put o.dst u) w'):o.wpIn (Fw ro) n P a w next Q:=by
 refine ⟨about_ok,?_⟩
 rw [Oper.semAt_eq _ _ _ hnd]
 rcases hd with hd | ⟨hd,rfl⟩
 ·rw [hd];exact hn
 ·rw [hd];exact hn
theorem put_defers (a:Act) (d:Option Tmp) (u:Value):(a.put d u).defers=a.defers:=by cases d <;> rfl
theorem kC_call {o:Oper} {f:Opd} {args:List Opd} (hk:kC P o=some (.call f args)):∃ g as ts,o.op=.call ⟨.value g,as,ts⟩∧opdC g=some f∧opdsC as.toList=some args:=by
 obtain ⟨dst,op,type,pos,after,guard⟩:=o
 cases op
 case call c =>
  obtain ⟨callee,as,ts⟩:=c
  cases callee
  case value g =>
   simp only [kC] at hk
   split at hk
   ·rename_i g' as' hg has
    cases hk
    exact ⟨g,as,ts,rfl,hg,has⟩
   ·cases hk
  case invoke=>simp only [kC] at hk;(repeat' split at hk) <;> cases hk
  case builtin b =>
   simp only [kC] at hk
   cases b <;> simp only [builtinC,lenC,appendC,copyC,clearC,deleteC,mmC,mmNC] at hk <;> first
    | (cases hk;done)
    | ((repeat' split at hk) <;> first | (cases hk;done))
 case makeFunc fn x y =>
  cases fn <;> simp only [kC] at hk <;> first
   | (cases hk;done)
   | ((repeat' split at hk) <;> first | (cases hk;done))
 case makeMap t r=>cases r <;> simp [kC] at hk
 case next x is=>cases is <;> simp only [kC] at hk <;> first | (cases hk;done) | ((repeat' split at hk) <;> first | (cases hk;done))
 case typeAssert x xt at_ ok=>cases ok <;> simp only [kC] at hk <;> (repeat' split at hk) <;> cases hk
 case binOp op t x y t2 =>
  simp only [kC,binC] at hk
  (repeat' split at hk) <;> first
   | (cases hk;done)
   | (rename_i hn;cases hk;obtain ⟨_,_,q,_⟩:=isNil_run (P:=P) hn;cases q)
 all_goals simp only [kC,sliceC,convC] at hk
 all_goals first
  | (cases hk;done)
  | ((repeat' split at hk) <;> first | (cases hk;done))
theorem kC_invoke {o:Oper} {tbl:List (Nat × Nat)} {f:Opd} {args:List Opd} (hk:kC P o=some (.invoke tbl f args)):∃ g name as ts,o.op=.call ⟨.invoke g name,as,ts⟩∧tbl=methsC P name∧opdC g=some f∧opdsC as.toList=some args:=by
 obtain ⟨dst,op,type,pos,after,guard⟩:=o
 cases op
 case call c =>
  obtain ⟨callee,as,ts⟩:=c
  cases callee
  case value g=>simp only [kC] at hk;split at hk <;> cases hk
  case invoke g name =>
   simp only [kC] at hk
   split at hk
   ·rename_i g' as' hg has
    split at hk
    ·cases hk
     exact ⟨g,name,as,ts,rfl,rfl,hg,has⟩
    ·cases hk
   ·cases hk
  case builtin b =>
   simp only [kC] at hk
   cases b <;> simp only [builtinC,lenC,appendC,copyC,clearC,deleteC,mmC,mmNC] at hk <;> first
    | (cases hk;done)
    | ((repeat' split at hk) <;> first | (cases hk;done))
 case makeFunc fn x y =>
  cases fn <;> simp only [kC] at hk <;> first
   | (cases hk;done)
   | ((repeat' split at hk) <;> first | (cases hk;done))
 case makeMap t r=>cases r <;> simp [kC] at hk
 case next x is=>cases is <;> simp only [kC] at hk <;> first | (cases hk;done) | ((repeat' split at hk) <;> first | (cases hk;done))
 case typeAssert x xt at_ ok=>cases ok <;> simp only [kC] at hk <;> (repeat' split at hk) <;> cases hk
 case binOp op t x y t2 =>
  simp only [kC,binC] at hk
  (repeat' split at hk) <;> first
   | (cases hk;done)
   | (rename_i hn;cases hk;obtain ⟨_,_,q,_⟩:=isNil_run (P:=P) hn;cases q)
 all_goals simp only [kC,sliceC,convC] at hk
 all_goals first
  | (cases hk;done)
  | ((repeat' split at hk) <;> first | (cases hk;done))
theorem kC_invokeV {o:Oper} {tbl:List (Nat × Nat)} {tbl2:List (Nat × Nat × Option Nat)} {f:Opd} {args:List Opd} (hk:kC P o=some (.invokeV tbl tbl2 f args)):∃ g name as ts,o.op=.call ⟨.invoke g name,as,ts⟩∧tbl=methsC P name∧tbl2=methsVC P name∧opdC g=some f∧opdsC as.toList=some args:=by
 obtain ⟨dst,op,type,pos,after,guard⟩:=o
 cases op
 case call c =>
  obtain ⟨callee,as,ts⟩:=c
  cases callee
  case value g=>simp only [kC] at hk;split at hk <;> cases hk
  case invoke g name =>
   simp only [kC] at hk
   split at hk
   ·rename_i g' as' hg has
    split at hk
    ·cases hk
    ·cases hk
     exact ⟨g,name,as,ts,rfl,rfl,rfl,hg,has⟩
   ·cases hk
  case builtin b =>
   simp only [kC] at hk
   cases b <;> simp only [builtinC,lenC,appendC,copyC,clearC,deleteC,mmC,mmNC] at hk <;> first
    | (cases hk;done)
    | ((repeat' split at hk) <;> first | (cases hk;done))
 case makeFunc fn x y =>
  cases fn <;> simp only [kC] at hk <;> first
   | (cases hk;done)
   | ((repeat' split at hk) <;> first | (cases hk;done))
 case makeMap t r=>cases r <;> simp [kC] at hk
 case next x is=>cases is <;> simp only [kC] at hk <;> first | (cases hk;done) | ((repeat' split at hk) <;> first | (cases hk;done))
 case typeAssert x xt at_ ok=>cases ok <;> simp only [kC] at hk <;> (repeat' split at hk) <;> cases hk
 case binOp op t x y t2 =>
  simp only [kC,binC] at hk
  (repeat' split at hk) <;> first
   | (cases hk;done)
   | (rename_i hn;cases hk;obtain ⟨_,_,q,_⟩:=isNil_run (P:=P) hn;cases q)
 all_goals simp only [kC,sliceC,convC] at hk
 all_goals first
  | (cases hk;done)
  | ((repeat' split at hk) <;> first | (cases hk;done))
theorem call_fn {ro:Option Nat} {n:Nat} {o:Oper} {fid:Nat} {us:Array Value} {ρ:Rho} {a:Act} {h:Heap} {w:World} {v:V} {h':Heap} (hs:CallSnd P B w0 ρ fid us w h v h') {r:Result Next} (hr:r=(callFunc fid us).run P w)
  {next:Act→World→Prop} {Q:Exit→Act→World→Prop} (hn:∀ u w',Ret P B w0 ρ h.size v h' u w'→next (a.put o.dst u) w'):o.uponIn (Fw ro) n P a next Q r:=by
 subst hr
 rcases hs with ⟨q1,q2⟩ | ⟨u,w',q1,q2⟩
 ·rw [q1,Oper.uponIn_enter]
  refine ⟨fw_depth,?_⟩
  obtain ⟨g1,g2⟩:=calls_fw (ro:=ro) (q2 (n-1))
  refine ⟨g1,fun cs hr=>?_⟩
  obtain ⟨e,w',fr,q3,q4,q5,q6⟩:=g2 cs hr
  refine ⟨e,w',fr,?_,q4,q5,q6⟩
  cases e with
  | returned u=>exact hn u w' q3
  | panicked c=>exact q3.elim
  | outgrown=>exact q3.elim
 ·rw [q1]
  exact hn u w' q2
theorem call_op {call:CallF} (hc:CallOk P B w0 call) {ro:Option Nat} {n nt:Nat} {o:Oper} {f:Opd} {args:List Opd} (hk:kC P o=some (.call f args)) {ρ:Rho} {tm:TM} {a:Act} {h:Heap} {w:World} (ht:TMR ρ nt tm a.tmps) (r:Rel P B w0 ρ h w)
  {v:V} {h':Heap} (hx:opA call (.call f args) tm h=some (v,h')) {next:Act→World→Prop} {Q:Exit→Act→World→Prop}
  (hn:∀ u w',Ret P B w0 ρ h.size v h' u w'→next (a.put o.dst u) w'):o.wpIn (Fw ro) n P a w next Q:=by
 refine ⟨about_ok,?_⟩
 rw [Oper.semAt_eq _ _ _ (not_defer hk)]
 obtain ⟨g,as,ts,hop,hg,has⟩:=kC_call hk
 obtain ⟨dst,op,type,pos,after,guard⟩:=o
 simp only at hop
 subst hop
 simp only [opA] at hx
 split at hx
 ·rename_i fid first caps vs hf hvs
  have hg':=ev_sound ht hg hf
  have has':=evs_sound ht has hvs
  cases hcr:a.eval g <;> rw [hcr] at hg'
  case func fn fi cp =>
   cases hg' with
   | func _ _ _ _ _ h1 h2 =>
   have hall:VRs ρ (first++vs++caps) (fi++as.map a.eval++cp).toList:=by
    simp only [Array.toList_append,Array.toList_map]
    exact (h1.append has').append h2
   refine call_fn (hc.fn _ _ _ _ _ hx ρ w (fi++as.map a.eval++cp) r hall) ?_ hn
   simp only [execOp,resolve,hcr,Deferred.ofValue,Sem.run_bind,Sem.run_pure,Result.andThen_ok,invoke]
  all_goals cases hg'
 ·rename_i b vs hf hvs
  have hg':=ev_sound ht hg hf
  have has':=evs_sound ht has hvs
  cases hcr:a.eval g <;> rw [hcr] at hg'
  case func fn fi cp =>
   cases hg' with
   | yld _ e l he hl =>
   subst hl
   obtain ⟨f,tmps,asg,body,q1,q2⟩:=hc.yl _ _ _ _ _ hx ρ w (as.map a.eval) e r he (by simpa using has')
   have hrun:(execOp a.eval ⟨dst,.call ⟨.value g,as,ts⟩,type,pos,after,guard⟩).run P w=.ok (.round e.blk f tmps asg body) w:=by
    simp only [execOp,resolve,hcr,Deferred.ofValue,Sem.run_bind,Sem.run_pure,Result.andThen_ok,invoke,Array.empty_append,q1]
   rw [hrun,Oper.uponIn_round]
   refine ⟨fw_depth,(round_fw (ro:=ro) (q2 (n-1))).mono fun e' w' he'=>?_⟩
   cases e' with
   | returned u=>exact hn u w' he'
   | panicked c=>exact he'.elim
   | outgrown=>exact he'.elim
  all_goals cases hg'
 ·cases hx
theorem meth_find {name:String} {t f:Nat}:∀ {l:List Nat},methA t (l.filterMap fun t=>match P.info? t with
  | some i=>match i.methods.find? (·.name == name),P.underlying t with
   | some m,some (.pointer _)=>match m.path.toList,m.func with
    | [],some (f,true)=>some (t,f)
    | _,_=>none
   | _,_=>none
  | none=>none)=some f→∃ i m e,P.info? t=some i∧i.methods.find? (·.name == name)=some m∧P.underlying t=some (.pointer e)∧m.path.toList=[]∧m.func=some (f,true):=by
 intro l
 induction l with
 | nil=>intro h;simp [methA] at h
 | cons u l ih =>
  intro h
  rw [List.filterMap_cons] at h
  split at h
  ·exact ih h
  ·rename_i p hp
   split at hp
   ·rename_i i hi
    split at hp
    ·rename_i m e hm he
     split at hp
     ·rename_i f' hpath hf
      cases hp
      simp only [methA] at h
      split at h
      ·rename_i hu
       cases h;subst hu
       exact ⟨i,m,e,hi,hm,he,hpath,hf⟩
      ·exact ih h
     ·cases hp
    ·cases hp
   ·cases hp
theorem method_run {name:String} {t f:Nat} (h:methA t (methsC P name)=some f) {v:Value} {w:World} (k:Nat):(method (k+1) t v name).run P w=.ok (f,v) w:=by
 obtain ⟨i,m,e,h1,h2,h3,h4,h5⟩:=meth_find (P:=P) h
 unfold method
 simp only [typeInfo,Sem.run_bind,run_program,Result.andThen_ok,h1,Sem.run_pure,h2,h4,follow,h5,receiverAt,run_und h3,Place.get]
theorem methV_find {name:String} {t:Nat} {p:Nat × Option Nat}:∀ {l:List Nat},methV t (l.filterMap fun t=>match P.info? t with
  | some i=>match i.methods.find? (·.name == name),P.underlying t with
   | some m,some (.pointer e)=>match m.path.toList,m.func,aggC P e with
    | [],some (f,false),some g=>some (t,f,g)
    | _,_,_=>none
   | _,_=>none
  | none=>none)=some p→∃ i m e,P.info? t=some i∧i.methods.find? (·.name == name)=some m∧P.underlying t=some (.pointer e)∧m.path.toList=[]∧m.func=some (p.1,false)∧aggC P e=some p.2:=by
 intro l
 induction l with
 | nil=>intro h;simp [methV] at h
 | cons u l ih =>
  intro h
  rw [List.filterMap_cons] at h
  split at h
  ·exact ih h
  ·rename_i q hp
   split at hp
   ·rename_i i hi
    split at hp
    ·rename_i m e hm he
     split at hp
     ·rename_i f' g hpath hf hg
      cases hp
      simp only [methV] at h
      split at h
      ·rename_i hu
       cases h;subst hu
       exact ⟨i,m,e,hi,hm,he,hpath,hf,hg⟩
      ·exact ih h
     ·cases hp
    ·cases hp
   ·cases hp
theorem wrapNil_run {w:World} (xt:TypeId) (a:Addr) (nm:String):(Builtin.ssaWrapNilChk_ #[xt] xt #[.pointer (some a),strVal "",strVal nm]).run P w=.ok (.pointer (some a)) w:=rfl
theorem methodV_run {name:String} {t:Nat} {p:Nat × Option Nat} (h:methV t (methsVC P name)=some p) {ρ:Rho} {h0:Heap} {w:World} (r:Rel P B w0 ρ h0 w) {v u:V} {x:Value} (hx:VR ρ v x) (hl:loadA h0 p.2 v=some u) (k:Nat) :
  ∃ y,(method (k+1) t x name).run P w=.ok (p.1,y) w∧VR ρ u y:=by
 obtain ⟨i,m,e,h1,h2,h3,h4,h5,h6⟩:=methV_find (P:=P) h
 obtain ⟨a,rfl,y,q1,q2⟩:=load_sound (P:=P) r h6 hx hl
 refine ⟨y,?_,q2⟩
 have hem:m.path.isEmpty=true:=by
  cases hp:m.path with
  | mk l=>rw [hp] at h4;simp at h4;subst h4;rfl
 unfold method
 simp only [typeInfo,Sem.run_bind,run_program,Result.andThen_ok,h1,Sem.run_pure,h2,h4,follow,h5,receiverAt,run_und h3,Place.get,hem,if_true,wrapNil_run,asAddr,q1]
theorem inv_op {call:CallF} (hc:CallOk P B w0 call) {ro:Option Nat} {n nt:Nat} {o:Oper} {tbl:List (Nat × Nat)} {f:Opd} {args:List Opd} (hk:kC P o=some (.invoke tbl f args)) {ρ:Rho} {tm:TM} {a:Act} {h:Heap} {w:World} (ht:TMR ρ nt tm a.tmps) (r:Rel P B w0 ρ h w)
  {v:V} {h':Heap} (hx:opA call (.invoke tbl f args) tm h=some (v,h')) {next:Act→World→Prop} {Q:Exit→Act→World→Prop}
  (hn:∀ u w',Ret P B w0 ρ h.size v h' u w'→next (a.put o.dst u) w'):o.wpIn (Fw ro) n P a w next Q:=by
 refine ⟨about_ok,?_⟩
 rw [Oper.semAt_eq _ _ _ (not_defer hk)]
 obtain ⟨g,name,as,ts,hop,rfl,hg,has⟩:=kC_invoke hk
 obtain ⟨dst,op,type,pos,after,guard⟩:=o
 simp only at hop
 subst hop
 simp only [opA] at hx
 split at hx
 ·rename_i t v0 vs hf hvs
  split at hx
  ·rename_i fid hm
   have hg':=ev_sound ht hg hf
   have has':=evs_sound ht has hvs
   cases hcr:a.eval g <;> rw [hcr] at hg'
   case iface t2 u2 =>
    cases hg' with
    | iface _ _ _ hv2 =>
    have hall:VRs ρ (v0::vs) (#[u2]++as.map a.eval).toList:=by
     simp only [Array.toList_append,Array.toList_map]
     exact .cons _ _ _ _ hv2 has'
    refine call_fn (hc.fn _ _ _ _ _ hx ρ w (#[u2]++as.map a.eval) r hall) ?_ hn
    have hdep:0<Made.depth:=by decide
    obtain ⟨k,hk2⟩:∃ k,P.types.size+Made.depth=k+1:=⟨P.types.size+Made.depth-1,by omega⟩
    have h0:(#[Value.iface t u2]++as.map a.eval)[0]? = some (.iface t u2):=by
     rw [←Array.getElem?_toList];simp
    have h1:(#[Value.iface t u2]++as.map a.eval).extract 1 (#[Value.iface t u2]++as.map a.eval).size=as.map a.eval:=by
     apply Array.toList_inj.1
     simp [Array.toList_extract]
     rw [List.take_of_length_le (by simp)]
    simp only [execOp,resolve,hcr,Sem.run_bind,Sem.run_pure,Result.andThen_ok,invoke,h0,h1,callMethod,run_program,hk2,method_run hm]
   all_goals cases hg'
  ·cases hx
 ·cases hx
theorem invV_op {call:CallF} (hc:CallOk P B w0 call) {ro:Option Nat} {n nt:Nat} {o:Oper} {tbl:List (Nat × Nat)} {tbl2:List (Nat × Nat × Option Nat)} {f:Opd} {args:List Opd} (hk:kC P o=some (.invokeV tbl tbl2 f args)) {ρ:Rho} {tm:TM} {a:Act} {h:Heap} {w:World} (ht:TMR ρ nt tm a.tmps) (r:Rel P B w0 ρ h w)
  {v:V} {h':Heap} (hx:opA call (.invokeV tbl tbl2 f args) tm h=some (v,h')) {next:Act→World→Prop} {Q:Exit→Act→World→Prop}
  (hn:∀ u w',Ret P B w0 ρ h.size v h' u w'→next (a.put o.dst u) w'):o.wpIn (Fw ro) n P a w next Q:=by
 refine ⟨about_ok,?_⟩
 rw [Oper.semAt_eq _ _ _ (not_defer hk)]
 obtain ⟨g,name,as,ts,hop,rfl,rfl,hg,has⟩:=kC_invokeV hk
 obtain ⟨dst,op,type,pos,after,guard⟩:=o
 simp only at hop
 subst hop
 simp only [opA] at hx
 split at hx
 ·rename_i t v0 vs hf hvs
  have hg':=ev_sound ht hg hf
  have has':=evs_sound ht has hvs
  have hdep:0<Made.depth:=by decide
  obtain ⟨k,hk2⟩:∃ k,P.types.size+Made.depth=k+1:=⟨P.types.size+Made.depth-1,by omega⟩
  cases hcr:a.eval g <;> rw [hcr] at hg'
  case iface t2 u2 =>
   cases hg' with
   | iface _ _ _ hv2 =>
   have h0:(#[Value.iface t u2]++as.map a.eval)[0]? = some (.iface t u2):=by
    rw [←Array.getElem?_toList];simp
   have h1:(#[Value.iface t u2]++as.map a.eval).extract 1 (#[Value.iface t u2]++as.map a.eval).size=as.map a.eval:=by
    apply Array.toList_inj.1
    simp [Array.toList_extract]
    rw [List.take_of_length_le (by simp)]
   have fin:∀ (fid:Nat) (u0:V) (y2:Value),(method (k+1) t u2 name).run P w=.ok (fid,y2) w→VR ρ u0 y2→call (.fn fid) (u0::vs) h=some (v,h') →
     Oper.uponIn (Fw ro) n P ⟨dst,.call ⟨.invoke g name,as,ts⟩,type,pos,after,guard⟩ a next Q ((execOp a.eval ⟨dst,.call ⟨.invoke g name,as,ts⟩,type,pos,after,guard⟩).run P w):=by
    intro fid u0 y2 q1 q2 q3
    have hall:VRs ρ (u0::vs) (#[y2]++as.map a.eval).toList:=by
     simp only [Array.toList_append,Array.toList_map]
     exact .cons _ _ _ _ q2 has'
    refine call_fn (hc.fn _ _ _ _ _ q3 ρ w (#[y2]++as.map a.eval) r hall) ?_ hn
    simp only [execOp,resolve,hcr,Sem.run_bind,Sem.run_pure,Result.andThen_ok,invoke,h0,h1,callMethod,run_program,hk2,q1]
   split at hx
   ·rename_i fid hm
    exact fin fid v0 u2 (method_run hm k) hv2 hx
   ·split at hx
    ·rename_i fid g0 hm
     split at hx
     ·rename_i u0 hl
      obtain ⟨y2,hy1,hy2⟩:=methodV_run hm r hv2 hl k
      exact fin fid u0 y2 hy1 hy2 hx
     ·cases hx
    ·cases hx
  all_goals cases hg'
 ·cases hx
def K.calls:K→Bool
 | .call .. | .invoke .. | .invokeV ..=>true
 | _=>false
theorem opA_nc {call:CallF} {k:K} {tm:TM} {h:Heap} (hk:k.calls=false):opA call k tm h=opK k tm h:=by
 cases k <;> first | rfl | (cases hk;done)
theorem op_here {call:CallF} (hc:CallOk P B w0 call) {ro:Option Nat} {n nt:Nat} {o:Oper} {k:K} (hk:kC P o=some k) {ρ:Rho} {tm:TM} {a:Act} {h:Heap} {w:World} (ht:TMR ρ nt tm a.tmps) (r:Rel P B w0 ρ h w)
  {v:V} {h':Heap} (hx:opA call k tm h=some (v,h')) {next:Act→World→Prop} {Q:Exit→Act→World→Prop}
  (hn:∀ u w',Ret P B w0 ρ h.size v h' u w'→next (a.put o.dst u) w'):o.wpIn (Fw ro) n P a w next Q:=by
 cases hcall:k.calls with
 | true =>
  cases k <;> first | (cases hcall;done) | skip
  ·exact call_op hc hk ht r hx hn
  ·exact inv_op hc hk ht r hx hn
  ·exact invV_op hc hk ht r hx hn
 | false =>
  rw [opA_nc hcall] at hx
  cases ha:k.isAlloc with
  | false =>
   obtain ⟨u,w',ρ',q1,q2,q3,q4⟩:=opK_sound hk ha ht r hx
   exact up_done (not_defer hk) q1 (hn u w' ⟨ρ',q2,q3,q4⟩)
  | true =>
   obtain ⟨ob,q1,q2⟩:=alloc_sound (B:=B) (w0:=w0) hk ha hx
   subst q1
   obtain ⟨u,w',em,g1,g2,g3⟩:=q2 ht (r.push ob) r.none_at (by rw [Heap.size_push];omega) (by rw [Heap.get_push,if_pos rfl])
   exact up_done (not_defer hk) g1 (hn u w' ⟨_,g2,g3,New.with_ r.none_at (Nat.le_refl _)⟩)
theorem wanted_sound {ops:Array Oper} {nt:Nat} {g:Option (Nat × Bool)} {o:Oper} (hg:guardC ops nt o.guard=some g) {ρ:Rho} {tm:TM} {a:Array Value} (ht:TMR ρ nt tm a) {b:Bool} (hb:wantedA tm g=some b):Region.wanted o (yielded ops a)=b:=by
 unfold guardC at hg
 unfold Region.wanted
 split at hg
 ·rename_i h0
  cases hg
  simp only [wantedA,Option.some.injEq] at hb
  rw [h0];exact hb
 ·rename_i j wnt h0
  rw [h0]
  split at hg
  ·rename_i t hgt
   split at hg
   ·rename_i hcnd
    have hne:=hcnd.2
    cases hg
    simp only [wantedA] at hb
    unfold yielded
    simp only [hgt,Option.bind_some]
    split at hb
    ·rename_i c hc
     cases hb
     obtain ⟨u,q1,q2⟩:=ht.2 _ _ hne hc
     cases q2
     rw [q1]
     simp only
     rw [Bool.eq_iff_iff];simp
    ·rename_i hc
     cases hb
     obtain ⟨u,q1,q2⟩:=ht.2 _ _ hne hc
     cases q2
     rw [q1];simp
    ·cases hb
   ·cases hg
  ·cases hg
theorem opA_bad {call:CallF} {k:K} {tm:TM} {h:Heap} {x:V × Heap} (hx:opA call k tm h=some x):k≠.bad:=by
 intro e
 subst e
 cases hx
theorem kX_of {o:Oper} (h:kX P o≠.bad):kC P o=some (kX P o):=by
 unfold kX at h ⊢
 cases hk:kC P o with
 | some k=>rfl
 | none=>rw [hk] at h;exact absurd rfl h
theorem opC_parts {ops:Array Oper} {nt:Nat} {o:Oper} {ao:AOp} (h:opC P ops nt o=some ao):(ao.k≠.bad→kC P o=some ao.k)∧guardC ops nt o.guard=some ao.guard∧ao.dst=o.dst∧dstOk nt o.dst=true:=by
 unfold opC at h
 split at h
 ·rename_i g hg
  split at h
  ·rename_i hd
   cases h
   exact ⟨fun hb=>kX_of hb,hg,rfl,hd⟩
  ·cases h
 ·cases h
theorem undef_sound (ρ:Rho):VR ρ undefV undef:=.tuple _ _ .nil
theorem put_DX {nt:Nat} {d:Option Nat} (hd:dstOk nt d=true) (tm:TM) (v:V):(TM.put tm d v).get DX=tm.get DX:=by
 cases d with
 | none=>rfl
 | some d =>
  simp [dstOk] at hd
  simp only [TM.put]
  exact TM.get_set_ne _ _ _ _ (Ne.symm hd.2)
theorem ops_sound {call:CallF} (hc:CallOk P B w0 call) (hm:CallHM call) {ro:Option Nat} {n nt:Nat} {ops:Array Oper}:∀ (l:List Oper) (i:Nat),(∀ j o,l[j]? = some o→ops[i+j]? = some o)→∀ {al:List AOp},opsC P ops nt l=some al →
  ∀ {ρ:Rho} {tm:TM} {a:Act} {h:Heap} {w:World},ActR ρ nt ro tm a→Rel P B w0 ρ h w→∀ {tm':TM} {h':Heap},runOps call al tm h=some (tm',h')→∀ {rest:List Nat}
  {Q:Exit→Act→World→Prop},(∀ a' w' ρ',ActR ρ' nt ro tm' a'→Rel P B w0 ρ' h' w'→New ρ ρ' h.size→wpOpsIn (Fw ro) n P ops Q rest a' w') →
   wpOpsIn (Fw ro) n P ops Q (List.range' i l.length++rest) a w
 | [],i,hl,al,hal,ρ,tm,a,h,w,ht,r,tm',h',hx,rest,Q,hq=>by
  cases hal
  cases hx
  exact hq a w ρ ht r (New.refl _ _)
 | o :: l,i,hl,al,hal,ρ,tm,a,h,w,ht,r,tm',h',hx,rest,Q,hq=>by
  have ho:ops[i]? = some o:=by simpa using hl 0 o (by simp)
  have hl':∀ j o',l[j]? = some o'→ops[i+1+j]? = some o':=fun j o' hj=>by
   have:=hl (j+1) o' (by simpa using hj)
   rwa [show i+(j+1)=i+1+j by omega] at this
  unfold opsC at hal
  split at hal
  ·rename_i ao al' hao hal'
   cases hal
   obtain ⟨hk,hg,hdst,hdo⟩:=opC_parts hao
   simp only [List.length_cons,List.range'_succ,List.cons_append,wpOpsIn,ho]
   unfold runOps at hx
   split at hx
   ·rename_i tm2 h2 hst
    unfold stepOp at hst
    split at hst
    ·rename_i hw
     rw [wanted_sound hg ht.1 hw,if_pos rfl]
     split at hst
     ·rename_i v h3 hop
      cases hst
      have hsz:=(HM.opA hm hop).size
      refine op_here hc (hk (opA_bad hop)) ht.1 r hop fun u w' hret=>?_
      obtain ⟨ρ',q1,q2,q3⟩:=hret
      refine ops_sound hc hm l (i+1) hl' hal' (ρ:=ρ') (ht.next (by rw [hdst];exact TMR.put (ht.1.mono q3.1) hdo q1) q3.1 (put_defers _ _ _) (by rw [hdst];exact put_DX hdo _ _)) q2 hx ?_
      intro a' w'' ρ'' g2 g3 g4
      exact hq a' w'' ρ'' g2 g3 (q3.trans g4 hsz)
     ·cases hst
    ·rename_i hw
     rw [wanted_sound hg ht.1 hw]
     simp only [Bool.false_eq_true,if_false]
     cases hst
     refine ⟨about_ok,?_⟩
     refine ops_sound hc hm l (i+1) hl' hal' (ρ:=ρ) (ht.next (by rw [hdst];exact TMR.put ht.1 hdo (undef_sound _)) (RLe.refl _) (put_defers _ _ _) (by rw [hdst];exact put_DX hdo _ _)) r hx ?_
     intro a' w'' ρ'' g2 g3 g4
     exact hq a' w'' ρ'' g2 g3 g4
    ·cases hst
   ·cases hx
  ·cases hal
end
end Abs
end Go.Proofs.YthgcjbniipfnbaaGreatDoor
namespace Go.Proofs.YthgcjbniipfnbaaGreatDoor
namespace Abs
set_option linter.unusedVariables false
set_option linter.unusedSimpArgs false
open Go.RowKit
/-! ### What an operation reads -/
theorem ev_congr {tm tm':TM} {x:Opd} (h:∀ t∈x.reads,tm.get t=tm'.get t):ev tm x=ev tm' x:=by
 cases x with
 | t i=>exact h i (by simp [Opd.reads])
 | c v=>rfl
theorem evo_congr {tm tm':TM} {x:Option Opd} (h:∀ t∈oreads x,tm.get t=tm'.get t):evo tm x=evo tm' x:=by
 cases x with
 | none=>rfl
 | some x=>simp only [evo];rw [ev_congr (x:=x) h]
theorem evs_congr {tm tm':TM}:∀ {x:List Opd},(∀ t∈lreads x,tm.get t=tm'.get t)→evs tm x=evs tm' x
 | [],_=>rfl
 | x::r,h=>by
  unfold evs
  rw [ev_congr (x:=x) fun t ht=>h t (by simp [lreads,ht]),evs_congr (x:=r) fun t ht=>h t (by simp [lreads,ht])]
theorem evParts_congr {tm tm':TM}:∀ {x:List (Nat × Nat × Opd)},(∀ t∈preads x,tm.get t=tm'.get t)→evParts tm x=evParts tm' x
 | [],_=>rfl
 | (a,b,x)::r,h=>by
  unfold evParts
  rw [ev_congr (x:=x) fun t ht=>h t (by simp [preads,ht]),evParts_congr (x:=r) fun t ht=>h t (by simp [preads,ht])]
theorem opK_congr {k:K} {tm tm':TM} {h:Heap} (hr:∀ t∈k.reads,tm.get t=tm'.get t):opK k tm h=opK k tm' h:=by
 cases k <;> simp only [K.reads,List.mem_append] at hr <;> simp only [opK]
 case pick c a b =>
  rw [ev_congr (x:=c) fun t ht=>hr t (.inl (.inl ht))]
  split
  ·rename_i t ht
   cases t
   ·simp only [Bool.false_eq_true,if_false];rw [ev_congr (x:=b) fun t ht=>hr t (.inr ht)]
   ·simp only [if_true];rw [ev_congr (x:=a) fun t ht=>hr t (.inl (.inr ht))]
  ·rfl
 case build z ps=>rw [evParts_congr hr]
 case buildSl ty z n ps=>rw [evParts_congr hr]
 case sliceStr x lo hi=>rw [ev_congr (x:=x) fun t ht=>hr t (.inl (.inl ht)),evo_congr (x:=lo) fun t ht=>hr t (.inl (.inr ht)),evo_congr (x:=hi) fun t ht=>hr t (.inr ht)]
 case sliceArr n sz x lo hi=>rw [ev_congr (x:=x) fun t ht=>hr t (.inl (.inl ht)),evo_congr (x:=lo) fun t ht=>hr t (.inl (.inr ht)),evo_congr (x:=hi) fun t ht=>hr t (.inr ht)]
 case sliceSl sz x lo hi mx=>rw [ev_congr (x:=x) fun t ht=>hr t (.inl (.inl (.inl ht))),evo_congr (x:=lo) fun t ht=>hr t (.inl (.inl (.inr ht))),evo_congr (x:=hi) fun t ht=>hr t (.inl (.inr ht)),evo_congr (x:=mx) fun t ht=>hr t (.inr ht)]
 case mapUpd kk m k v=>rw [ev_congr (x:=m) fun t ht=>hr t (.inl (.inl ht)),ev_congr (x:=k) fun t ht=>hr t (.inl (.inr ht)),ev_congr (x:=v) fun t ht=>hr t (.inr ht)]
 case minN mx xs=>rw [evs_congr (x:=xs) hr]
 case entSt m s x=>rw [ev_congr (x:=m) fun t ht=>hr t (.inl (.inl ht)),ev_congr (x:=s) fun t ht=>hr t (.inl (.inr ht)),ev_congr (x:=x) fun t ht=>hr t (.inr ht)]
 case mkFn fn a b=>rw [evs_congr (x:=a) fun t ht=>hr t (.inl ht),evs_congr (x:=b) fun t ht=>hr t (.inr ht)]
 all_goals first
  | rfl
  | (rename_i x;rw [ev_congr (x:=x) hr];done)
  | (rename_i x y;rw [ev_congr (x:=x) fun t ht=>hr t (.inl ht),ev_congr (x:=y) fun t ht=>hr t (.inr ht)];done)
theorem opA_congr {call:CallF} {k:K} {tm tm':TM} {h:Heap} (hr:∀ t∈k.reads,tm.get t=tm'.get t):opA call k tm h=opA call k tm' h:=by
 cases hcall:k.calls with
 | true =>
  cases k <;> first | (cases hcall;done) | skip
  all_goals
   simp only [K.reads,List.mem_append] at hr
   simp only [opA]
   rename_i f args
   rw [ev_congr (x:=f) fun t ht=>hr t (.inl ht),evs_congr (x:=args) fun t ht=>hr t (.inr ht)]
 | false=>rw [opA_nc hcall,opA_nc hcall,opK_congr hr]
theorem wantedA_congr {o:AOp} {tm tm':TM} (hr:∀ t∈o.reads,tm.get t=tm'.get t):wantedA tm o.guard=wantedA tm' o.guard:=by
 cases hg:o.guard with
 | none=>rfl
 | some p =>
  obtain ⟨t,b⟩:=p
  simp only [wantedA]
  rw [hr t (by simp [AOp.reads,hg])]
/-! ### The trace -/
def stH (tr:List (DOp × Log)) (h':Heap) (q:Nat):Heap:=match tr[q]? with
 | some x=>x.2.h
 | none=>h'
def stTm (tr:List (DOp × Log)) (tm':TM) (q:Nat):TM:=match tr[q]? with
 | some x=>x.2.tm
 | none=>tm'
structure StepAt (call:CallF) (d:DOp) (L:Log) (tm2:TM) (h2:Heap):Prop where
 o:L.o=d.o
 put:tm2=TM.put L.tm d.o.dst L.v
 is:(L.ran=false∧wantedA L.tm d.o.guard=some false∧h2=L.h∧L.v=undefV)∨(L.ran=true∧wantedA L.tm d.o.guard=some true∧opA call d.o.k L.tm L.h=some (L.v,h2))
theorem trace_ok {call:CallF}:∀ (l:List DOp) {tm tm':TM} {h h':Heap} {tr:List (DOp × Log)},traceDraw call l tm h=some (tr,tm',h') →
  stTm tr tm' 0=tm∧stH tr h' 0=h∧tr.map (·.1)=l∧∀ q d L,tr[q]? = some (d,L)→StepAt call d L (stTm tr tm' (q+1)) (stH tr h' (q+1))
 | [],tm,tm',h,h',tr,hx=>by
  cases hx
  exact ⟨rfl,rfl,rfl,fun q d L hq=>by simp at hq⟩
 | d :: r,tm,tm',h,h',tr,hx=>by
  unfold traceDraw at hx
  split at hx
  ·rename_i hw
   split at hx
   ·rename_i tr2 tm2 h2 hh
    cases hx
    obtain ⟨q1,q2,q3,q4⟩:=trace_ok r hh
    refine ⟨rfl,rfl,by simp [q3],fun q d' L hq=>?_⟩
    cases q with
    | zero =>
     simp at hq
     obtain ⟨rfl,rfl⟩:=hq
     have e1:stTm ((d,({ o:=d.o,ran:=false,tm:=tm,h:=h,v:=undefV }:Log))::tr2) tm' (0+1)=stTm tr2 tm' 0:=by simp [stTm]
     have e2:stH ((d,({ o:=d.o,ran:=false,tm:=tm,h:=h,v:=undefV }:Log))::tr2) h' (0+1)=stH tr2 h' 0:=by simp [stH]
     rw [e1,e2,q1,q2]
     exact ⟨rfl,rfl,.inl ⟨rfl,hw,rfl,rfl⟩⟩
    | succ q =>
     have:=q4 q d' L (by simpa using hq)
     simpa [stTm,stH] using this
   ·cases hx
  ·rename_i hw
   split at hx
   ·rename_i v h3 hop
    split at hx
    ·rename_i tr2 tm2 h2 hh
     cases hx
     obtain ⟨q1,q2,q3,q4⟩:=trace_ok r hh
     refine ⟨rfl,rfl,by simp [q3],fun q d' L hq=>?_⟩
     cases q with
     | zero =>
      simp at hq
      obtain ⟨rfl,rfl⟩:=hq
      have e1:stTm ((d,({ o:=d.o,ran:=true,tm:=tm,h:=h,v:=v }:Log))::tr2) tm' (0+1)=stTm tr2 tm' 0:=by simp [stTm]
      have e2:stH ((d,({ o:=d.o,ran:=true,tm:=tm,h:=h,v:=v }:Log))::tr2) h' (0+1)=stH tr2 h' 0:=by simp [stH]
      rw [e1,e2,q1,q2]
      exact ⟨rfl,rfl,.inr ⟨rfl,hw,hop⟩⟩
     | succ q =>
      have:=q4 q d' L (by simpa using hq)
      simpa [stTm,stH] using this
    ·cases hx
   ·cases hx
  ·cases hx
theorem tail_ok (l:Log) (p:Nat):∀ (r:List (DOp × Log)) (hN:Heap),okTail l p r hN=true→∀ c,(c=r.length∨∃ d L,r[c]? = some (d,L)∧d.o.k.isC=true) →
  (∀ c' d L,c'<c→r[c']? = some (d,L)→d.o.k.isC=true→d.anc.contains p=false)→okLater l (stH r hN c)=true
 | [],hN,hok,c,hc,hn=>by
  rcases hc with rfl | ⟨d,L,hd,_⟩
  ·exact hok
  ·simp at hd
 | (d,L)::r,hN,hok,c,hc,hn=>by
  unfold okTail at hok
  cases c with
  | zero =>
   rcases hc with hc | ⟨d',L',hd,hC⟩
   ·simp at hc
   ·simp at hd
    obtain ⟨rfl,rfl⟩:=hd
    rw [if_pos hC] at hok
    simp only [Bool.and_eq_true] at hok
    simpa [stH] using hok.1
  | succ c =>
   have hrec:okTail l p r hN=true:=by
    by_cases hC:d.o.k.isC=true
    ·rw [if_pos hC] at hok
     simp only [Bool.and_eq_true,Bool.or_eq_true] at hok
     have:=hn 0 d L (by omega) (by simp) hC
     rcases hok.2 with h1 | h1
     ·rw [this] at h1;cases h1
     ·exact h1
    ·rw [if_neg hC] at hok;exact hok
   have:=tail_ok l p r hN hrec c (by
    rcases hc with hc | ⟨d',L',hd,hC⟩
    ·left;simp at hc;omega
    ·right;exact ⟨d',L',by simpa using hd,hC⟩) (fun c' d' L' h1 h2 h3=>hn (c'+1) d' L' (by omega) (by simpa using h2) h3)
   simpa [stH] using this
theorem all_ok:∀ (q0:Nat) (tr:List (DOp × Log)) (hN:Heap),okAll q0 tr hN=true→∀ p d L,tr[p]? = some (d,L)→d.o.k.isC=false→okTail L (q0+p) (tr.drop (p+1)) hN=true
 | q0,[],hN,_,p,d,L,hp,_=>by simp at hp
 | q0,(d0,L0)::r,hN,hok,p,d,L,hp,hC=>by
  unfold okAll at hok
  simp only [Bool.and_eq_true,Bool.or_eq_true] at hok
  cases p with
  | zero =>
   simp at hp
   obtain ⟨rfl,rfl⟩:=hp
   rcases hok.1 with h1 | h1
   ·rw [hC] at h1;cases h1
   ·simpa using h1
  | succ p =>
   have:=all_ok (q0+1) r hN hok.2 p d L (by simpa using hp) hC
   rwa [show q0+1+p=q0+(p+1) by omega] at this
theorem later_at {tr:List (DOp × Log)} {hN:Heap} (hok:okAll 0 tr hN=true) {p c:Nat} {d:DOp} {L:Log} (hp:tr[p]? = some (d,L)) (hC:d.o.k.isC=false) (hpc:p<c) (hcN:c≤tr.length)
  (hc:c=tr.length∨∃ d L,tr[c]? = some (d,L)∧d.o.k.isC=true) (hn:∀ c' d L,p<c'→c'<c→tr[c']? = some (d,L)→d.o.k.isC=true→d.anc.contains p=false):okLater L (stH tr hN c)=true:=by
 have h1:=all_ok 0 tr hN hok p d L hp hC
 rw [Nat.zero_add] at h1
 have h2:=tail_ok L p (tr.drop (p+1)) hN h1 (c-(p+1)) (by
  rcases hc with hc | ⟨d',L',hd,hC'⟩
  ·left;rw [List.length_drop];omega
  ·right;exact ⟨d',L',by rw [List.getElem?_drop,show p+1+(c-(p+1))=c by omega];exact hd,hC'⟩)
  (fun c' d' L' q1 q2 q3=>hn (p+1+c') d' L' (by omega) (by omega) (by rwa [List.getElem?_drop] at q2) q3)
 have e:stH (tr.drop (p+1)) hN (c-(p+1))=stH tr hN c:=by
  unfold stH
  rw [List.getElem?_drop,show p+1+(c-(p+1))=c by omega]
 rwa [e] at h2
theorem sameObj_eq {x y:Option Obj} (h:sameObj x y=true):x=y∧∃ o,x=some o:=by
 unfold sameObj at h
 split at h
 ·simp only [Bool.and_eq_true,beq_iff_eq,decide_eq_true_eq] at h
  rw [V.beqs_eq _ _ h.1.1,h.1.2,h.2]
  exact ⟨rfl,_,rfl⟩
 ·exact ⟨rfl,_,rfl⟩
 ·cases h
/-! ### The checks on a drawn region's list -/
structure Chk (ops:Array Oper) (l:List DOp):Prop where
 len:l.length=ops.size
 all:∀ i,i<ops.size→∃ (q:Nat) (d:DOp),l[q]? = some d∧d.idx=i
 lt:∀ (q:Nat) (d:DOp),l[q]? = some d→d.idx<ops.size
 anc:∀ (q:Nat) (d:DOp),l[q]? = some d→∀ p∈d.anc,p<q
 edge:∀ (q:Nat) (d:DOp) (o:Oper),l[q]? = some d→ops[d.idx]? = some o→∀ e∈o.after.toList,Region.binds .any e=true→∃ (p:Nat) (d':DOp),p∈d.anc∧l[p]? = some d'∧d'.idx=e.on
 from_:∀ (q:Nat) (d:DOp) (o:Oper),l[q]? = some d→ops[d.idx]? = some o→∀ p∈d.anc,∃ (e:Edge) (r:Nat) (d':DOp),e∈o.after.toList∧Region.binds .any e=true∧l[r]? = some d'∧d'.idx=e.on∧(p=r∨p∈d'.anc)
 pair:∀ (q:Nat) (d:DOp) (p:Nat) (d':DOp),l[q]? = some d→l[p]? = some d'→p<q→d'.idx≠d.idx∧(p∈d.anc∨(clash d'.o d.o=false∧d'.o.k.isC=false))
theorem drawPos_of {l:List DOp} {i r:Nat} (h:drawPos l i=some r):∃ d,l[r]? = some d∧d.idx=i:=by
 unfold drawPos at h
 rw [List.findIdx?_eq_some_iff_getElem] at h
 obtain ⟨h1,h2,_⟩:=h
 exact ⟨l[r],List.getElem?_eq_getElem h1,by simpa using h2⟩
theorem chk_of {ops:Array Oper} {l:List DOp} (h:chkAll ops l=true):Chk ops l:=by
 unfold chkAll at h
 simp only [Bool.and_eq_true,beq_iff_eq,List.all_eq_true] at h
 obtain ⟨⟨hlen,hsur⟩,hall⟩:=h
 have one:∀ q d,l[q]? = some d→chkOne ops l q d=true:=by
  intro q d hq
  have hlt:q<l.length:=(List.getElem?_eq_some_iff.1 hq).1
  have:=hall q (by simpa using hlt)
  rw [hq] at this
  exact this
 have parts:∀ q d,l[q]? = some d→_:=fun q d hq=>by
  have h1:=one q d hq
  unfold chkOne at h1
  simp only [Bool.and_eq_true,decide_eq_true_eq,List.all_eq_true] at h1
  exact h1
 refine ⟨hlen,fun i hi=>?_,fun q d hq=>(parts q d hq).1.1.1.1,fun q d hq p hp=>(parts q d hq).1.1.1.2 p hp,fun q d o hq ho e he hb=>?_,fun q d o hq ho p hp=>?_,fun q d p d' hq hp hlt=>?_⟩
 ·have h1:=hsur i (by simpa using hi)
  obtain ⟨r,hr⟩:=Option.isSome_iff_exists.1 h1
  obtain ⟨d,hd,he⟩:=drawPos_of hr
  exact ⟨r,d,hd,he⟩
 ·have h1:=(parts q d hq).1.1.2
  rw [ho] at h1
  simp only [Option.map_some,Option.getD_some,List.all_eq_true,Bool.or_eq_true,Bool.not_eq_true',List.any_eq_true] at h1
  rcases h1 e he with h2 | ⟨p,h2,h3⟩
  ·rw [hb] at h2;cases h2
  ·split at h3
   ·rename_i d' hd'
    exact ⟨p,d',h2,hd',by simpa using h3⟩
   ·cases h3
 ·have h1:=(parts q d hq).1.2 p hp
  rw [ho] at h1
  simp only [Option.map_some,Option.getD_some,List.any_eq_true,Bool.and_eq_true] at h1
  obtain ⟨e,he,hb,h2⟩:=h1
  split at h2
  ·rename_i r hr
   obtain ⟨d',hd',hi⟩:=drawPos_of hr
   refine ⟨e,r,d',he,hb,hd',hi,?_⟩
   simp only [Bool.or_eq_true,beq_iff_eq] at h2
   rcases h2 with h2 | h2
   ·exact .inl h2
   ·rw [hd'] at h2
    exact .inr (by simpa using h2)
  ·cases h2
 ·have h1:=(parts q d hq).2 p (by simpa using hlt)
  rw [hp] at h1
  simp only [Bool.and_eq_true,Bool.not_eq_true',beq_eq_false_iff_ne,Bool.or_eq_true] at h1
  refine ⟨h1.1,?_⟩
  rcases h1.2 with h2 | h2
  ·exact .inl (by simpa using h2)
  ·exact .inr h2
theorem drawList_ok {P:Program} {ops:Array Oper} {nt:Nat} {b:Array Nat} {perm:List Nat}:∀ (q:Nat) (r:List Nat) {l:List DOp},drawList P ops nt b perm q r=some l→∀ (j:Nat) (d:DOp),l[j]? = some d→∃ o,ops[d.idx]? = some o∧opC P ops nt o=some d.o
 | q,[],l,h,j,d,hj=>by cases h;simp at hj
 | q, i::r,l,h,j,d,hj=>by
  unfold drawList at h
  split at h
  ·rename_i d0 l0 h0 h1
   cases h
   cases j with
   | zero =>
    simp at hj
    subst hj
    unfold drawOne at h0
    split at h0
    ·rename_i o ho
     split at h0
     ·rename_i a ha
      cases h0
      exact ⟨o,ho,ha⟩
     ·cases h0
    ·cases h0
   | succ j=>exact drawList_ok (q+1) r h1 j d (by simpa using hj)
  ·cases h
end Abs
end Go.Proofs.YthgcjbniipfnbaaGreatDoor
namespace Go.Proofs.YthgcjbniipfnbaaGreatDoor
namespace Abs
set_option linter.unusedVariables false
set_option linter.unusedSimpArgs false
open Go.RowKit
section
variable {P:Program} {B:Nat} {w0:World}
def DoneAt (l:List DOp) (listed:Array Bool) (q:Nat):Bool:=match l[q]? with
 | some d=>listed.getD d.idx false
 | none=>false
noncomputable def tmD (tr:List (DOp × Log)) (D:Nat→Bool) (tm:TM):Nat→TM
 | 0=>tm
 | q+1=>match tr[q]? with
  | some (d,L)=>if D q then TM.put (tmD tr D tm q) d.o.dst L.v else tmD tr D tm q
  | none=>tmD tr D tm q
theorem calls_of_isC {k:K} (h:k.isC=false):k.calls=false:=by cases k <;> first | rfl | (cases h;done)
theorem calls_of_alloc {k:K} (h:k.isAlloc=true):k.calls=false:=by cases k <;> first | rfl | (cases h;done)
theorem put_get (tm:TM) (dst:Option Nat) (v:V) (t:Nat):(TM.put tm dst v).get t=if dst=some t then some v else tm.get t:=by
 cases dst with
 | none=>simp [TM.put]
 | some d =>
  simp only [TM.put,TM.get_set,Option.some.injEq]
  by_cases h:t=d
  ·rw [if_pos h,if_pos h.symm]
  ·rw [if_neg h,if_neg (Ne.symm h)]
theorem clash_reads {x y:AOp} (h:clash x y=false):(∀ d,x.dst=some d→d∉y.reads∧y.dst≠some d)∧(∀ d,y.dst=some d→d∉x.reads):=by
 unfold clash at h
 simp only [Bool.or_eq_false_iff] at h
 refine ⟨fun d hd=>?_,fun d hd=>?_⟩
 ·have:=h.1
  rw [hd] at this
  simp only [Bool.or_eq_false_iff] at this
  refine ⟨by simpa using this.1,?_⟩
  intro e
  rw [e] at this
  simp at this
 ·have:=h.2
  rw [hd] at this
  simpa using this
structure Inv (P:Program) (B:Nat) (w0:World) (l:List DOp) (tr:List (DOp × Log)) (tm:TM) (h0 h':Heap) (ρ0:Rho) (nt:Nat) (ds:List Deferred) (D:Nat→Bool) (a:Act) (w:World) (ρ:Rho) (qs:Nat):Prop where
 closed:∀ q d,l[q]? = some d→D q=true→∀ p∈d.anc,D p=true
 le:qs≤l.length
 edge:qs=l.length∨∃ d,l[qs]? = some d∧d.o.k.isC=true∧D qs=false
 before:∀ c d,c<qs→l[c]? = some d→d.o.k.isC=true→D c=true
 rel:Rel P B w0 ρ (stH tr h' qs) w
 tms:TMR ρ nt (tmD tr D tm l.length) a.tmps
 pend:∀ p d L,p<qs→tr[p]? = some (d,L)→L.ran=true→d.o.k.isAlloc=true→D p=false→ρ L.h.size=none
 defers:a.defers=ds
 new:New ρ0 ρ h0.size
variable {call:CallF} {l:List DOp} {tr:List (DOp × Log)} {tm tm':TM} {h0 h':Heap}
structure TrOk (call:CallF) (l:List DOp) (tr:List (DOp × Log)) (tm tm':TM) (h0 h':Heap):Prop where
 tm0:stTm tr tm' 0=tm
 h0:stH tr h' 0=h0
 map:tr.map (·.1)=l
 step:∀ q d L,tr[q]? = some (d,L)→StepAt call d L (stTm tr tm' (q+1)) (stH tr h' (q+1))
theorem TrOk.len (t:TrOk call l tr tm tm' h0 h'):tr.length=l.length:=by rw [←t.map,List.length_map]
theorem TrOk.get (t:TrOk call l tr tm tm' h0 h') {q:Nat} {d:DOp} (h:l[q]? = some d):∃ L,tr[q]? = some (d,L):=by
 rw [←t.map,List.getElem?_map,Option.map_eq_some_iff] at h
 obtain ⟨⟨d',L⟩,h1,h2⟩:=h
 exact ⟨L,by rw [h1];simp at h2;rw [h2]⟩
theorem TrOk.back (t:TrOk call l tr tm tm' h0 h') {q:Nat} {d:DOp} {L:Log} (h:tr[q]? = some (d,L)):l[q]? = some d:=by
 rw [←t.map,List.getElem?_map,h];rfl
theorem TrOk.at_ (t:TrOk call l tr tm tm' h0 h') {q:Nat} {d:DOp} {L:Log} (h:tr[q]? = some (d,L)):stTm tr tm' q=L.tm∧stH tr h' q=L.h:=by
 unfold stTm stH;rw [h];exact ⟨rfl,rfl⟩
theorem reads_same {ops:Array Oper} (t:TrOk call l tr tm tm' h0 h') (hk:Chk ops l) {D:Nat→Bool} {p:Nat} {d:DOp} {L:Log} (hp:tr[p]? = some (d,L)) (hD:D p=false)
  (hanc:∀ x∈d.anc,D x=true) (hcl:∀ q d,l[q]? = some d→D q=true→∀ p∈d.anc,D p=true):∀ x∈d.o.reads,(tmD tr D tm l.length).get x=TM.get L.tm x:=by
 intro x hx
 have hlp:=t.back hp
 have hplt:p<l.length:=(List.getElem?_eq_some_iff.1 hlp).1
 have up:∀ q,q≤p→(tmD tr D tm q).get x=(stTm tr tm' q).get x:=by
  intro q
  induction q with
  | zero=>intro _;rw [t.tm0];rfl
  | succ q ih =>
   intro hq
   have ihq:=ih (by omega)
   obtain ⟨dq,hdq⟩:∃ dq,l[q]? = some dq:=⟨l[q]'(by omega),List.getElem?_eq_getElem (by omega)⟩
   obtain ⟨Lq,hLq⟩:=t.get hdq
   have hst:=t.step q dq Lq hLq
   rw [hst.put,←(t.at_ hLq).1]
   simp only [tmD,hLq]
   cases hDq:D q with
   | true=>rw [if_pos rfl,put_get,put_get,ihq]
   | false =>
    simp only [Bool.false_eq_true,if_false]
    rw [put_get,ihq]
    have hnc:clash dq.o d.o=false:=by
     rcases (hk.pair p d q dq hlp hdq (by omega)).2 with h1 | h1
     ·have:=hanc q h1
      rw [hDq] at this;cases this
     ·exact h1.1
    rw [if_neg]
    intro e
    exact ((clash_reads hnc).1 x e).1 hx
 have down:∀ m,(tmD tr D tm (p+m)).get x=(tmD tr D tm p).get x:=by
  intro m
  induction m with
  | zero=>rfl
  | succ m ih =>
   rw [show p+(m+1)=(p+m)+1 by omega]
   simp only [tmD]
   cases hq:tr[p+m]? with
   | none=>exact ih
   | some dl =>
    obtain ⟨dq,Lq⟩:=dl
    simp only
    cases hDq:D (p+m) with
    | false=>simp only [Bool.false_eq_true,if_false];exact ih
    | true =>
     rw [if_pos rfl,put_get,ih]
     have hne:m≠0:=by
      intro e
      subst e
      rw [Nat.add_zero,hD] at hDq;cases hDq
     have hlq:=t.back hq
     have hnc:clash d.o dq.o=false:=by
      rcases (hk.pair (p+m) dq p d hlq hlp (by omega)).2 with h1 | h1
      ·have:=hcl (p+m) dq hlq hDq p h1
       rw [hD] at this;cases this
      ·exact h1.1
     rw [if_neg]
     intro e
     exact (clash_reads hnc).2 x e hx
 have:=down (l.length-p)
 rw [show p+(l.length-p)=l.length by omega] at this
 rw [this,up p (Nat.le_refl _),(t.at_ hp).1]
theorem tmD_more {ops:Array Oper} (t:TrOk call l tr tm tm' h0 h') (hk:Chk ops l) {D D':Nat→Bool} {p:Nat} {d:DOp} {L:Log} (hp:tr[p]? = some (d,L)) (hD:D p=false) (hD':∀ q,D' q=(D q || q == p))
  (hcl:∀ q d,l[q]? = some d→D q=true→∀ p∈d.anc,D p=true) (x:Nat):(tmD tr D' tm l.length).get x=if d.o.dst=some x then some L.v else (tmD tr D tm l.length).get x:=by
 have hlp:=t.back hp
 have hplt:p<l.length:=(List.getElem?_eq_some_iff.1 hlp).1
 have lo:∀ q,q≤p→tmD tr D' tm q=tmD tr D tm q:=by
  intro q
  induction q with
  | zero=>intro _;rfl
  | succ q ih =>
   intro hq
   have e:D' q=D q:=by rw [hD' q];simp;omega
   simp only [tmD,e,ih (by omega)]
 have hi:∀ m,(tmD tr D' tm (p+1+m)).get x=if d.o.dst=some x then some L.v else (tmD tr D tm (p+1+m)).get x:=by
  intro m
  induction m with
  | zero =>
   rw [Nat.add_zero]
   have e:D' p=true:=by rw [hD' p];simp
   simp only [tmD,hp,e,hD,if_true,Bool.false_eq_true,if_false,lo p (Nat.le_refl _)]
   exact put_get _ _ _ _
  | succ m ih =>
   rw [show p+1+(m+1)=(p+1+m)+1 by omega]
   simp only [tmD]
   cases hq:tr[p+1+m]? with
   | none=>exact ih
   | some dl =>
    obtain ⟨dq,Lq⟩:=dl
    simp only
    have e:D' (p+1+m)=D (p+1+m):=by
     rw [hD']
     have:(p+1+m == p)=false:=by simp;omega
     rw [this,Bool.or_false]
    rw [e]
    cases hDq:D (p+1+m) with
    | false=>simp only [Bool.false_eq_true,if_false];exact ih
    | true =>
     rw [if_pos rfl,if_pos rfl,put_get,put_get,ih]
     have hlq:=t.back hq
     have hnc:clash d.o dq.o=false:=by
      rcases (hk.pair (p+1+m) dq p d hlq hlp (by omega)).2 with h1 | h1
      ·have:=hcl _ dq hlq hDq p h1
       rw [hD] at this;cases this
      ·exact h1.1
     by_cases h1:dq.o.dst=some x
     ·rw [if_pos h1,if_pos h1,if_neg]
      intro e2
      exact ((clash_reads hnc).1 x e2).2 h1
     ·rw [if_neg h1,if_neg h1]
 have:=hi (l.length-(p+1))
 rwa [show p+1+(l.length-(p+1))=l.length by omega] at this
theorem rel_up (hm:CallHM call) (t:TrOk call l tr tm tm' h0 h') {ρ:Rho} {w:World} {q:Nat} (hr:Rel P B w0 ρ (stH tr h' q) w):∀ m,q+m≤l.length→(∀ c d,q≤c→c<q+m→l[c]? = some d→d.o.k.isC=false) →
  Rel P B w0 ρ (stH tr h' (q+m)) w∧(stH tr h' q).size≤(stH tr h' (q+m)).size:=by
 intro m
 induction m with
 | zero=>intro _ _;exact ⟨hr,Nat.le_refl _⟩
 | succ m ih =>
  intro hle hnc
  obtain ⟨ih1,ih2⟩:=ih (by omega) (fun c d h1 h2 h3=>hnc c d h1 (by omega) h3)
  have hlt:q+m<l.length:=by omega
  obtain ⟨L,hL⟩:=t.get (List.getElem?_eq_getElem hlt)
  have hst:=t.step _ _ _ hL
  have hc:=hnc (q+m) _ (by omega) (by omega) (List.getElem?_eq_getElem hlt)
  rw [show q+(m+1)=q+m+1 by omega]
  rcases hst.is with ⟨_,_,h1,_⟩ | ⟨_,_,h1⟩
  ·rw [h1,←(t.at_ hL).2];exact ⟨ih1,ih2⟩
  ·rw [←(t.at_ hL).2] at h1
   have hnc':=calls_of_isC hc
   rw [opA_nc hnc'] at h1
   refine ⟨?_,Nat.le_trans ih2 (HM.op h1).size⟩
   generalize hkk:(l[q+m]'hlt).o.k=kk at hc h1
   have hpush:stH tr h' (q+m+1)=stH tr h' (q+m)∨∃ ob,stH tr h' (q+m+1)=(stH tr h' (q+m)).push ob:=by
    generalize stH tr h' (q+m+1)=h2 at h1
    generalize stH tr h' (q+m)=h1' at h1
    generalize L.tm=tmx at h1
    generalize L.v=vv at h1
    clear ih1 ih2 hst hL hkk hnc'
    cases kk <;> simp only [opK] at h1 <;> first
     | (cases hc;done)
     | (cases h1;exact .inr ⟨_,rfl⟩)
     | (cases h1;done)
     | skip
    case makeSl sz bt z a b =>
     split at h1
     ·unfold makeSlA at h1
      split at h1
      ·split at h1
       ·cases h1;exact .inr ⟨_,rfl⟩
       ·cases h1
      ·cases h1
     ·cases h1
    case entM x =>
     split at h1
     ·exact .inl (ent_same h1)
     ·cases h1
    all_goals ((repeat' split at h1) <;> first | (cases h1;done) | (cases h1;exact .inl rfl) | (cases h1;exact .inr ⟨_,rfl⟩))
   rcases hpush with e | ⟨ob,e⟩
   ·rw [e];exact ih1
   ·rw [e];exact ih1.push ob
theorem pure_heap {k:K} (h1:k.isC=false) (h2:k.isAlloc=false) {tm:TM} {h h':Heap} {v:V} (hx:opK k tm h=some (v,h')):h'=h:=by
 cases k <;> simp only [opK] at hx <;> first
  | (cases h1;done)
  | (cases h2;done)
  | (split at hx <;> first | exact ent_same hx | (cases hx;done))
  | ((repeat' split at hx) <;> first | (cases hx;done) | (cases hx;rfl))
  | (cases hx;done)
theorem sizes (hm:CallHM call) (t:TrOk call l tr tm tm' h0 h') {p:Nat}:∀ m,p+m≤l.length→(stH tr h' p).size≤(stH tr h' (p+m)).size:=by
 intro m
 induction m with
 | zero=>intro _;exact Nat.le_refl _
 | succ m ih =>
  intro hle
  have hlt:p+m<l.length:=by omega
  obtain ⟨L,hL⟩:=t.get (List.getElem?_eq_getElem hlt)
  have hst:=t.step _ _ _ hL
  rw [show p+(m+1)=p+m+1 by omega]
  refine Nat.le_trans (ih (by omega)) ?_
  rcases hst.is with ⟨_,_,h1,_⟩ | ⟨_,_,h1⟩
  ·rw [h1,(t.at_ hL).2];exact Nat.le_refl _
  ·rw [(t.at_ hL).2];exact (HM.opA hm h1).size
theorem sizes' (hm:CallHM call) (t:TrOk call l tr tm tm' h0 h') {p q:Nat} (h1:p≤q) (h2:q≤l.length):(stH tr h' p).size≤(stH tr h' q).size:=by
 have:=sizes hm t (p:=p) (q-p) (by omega)
 rwa [show p+(q-p)=q by omega] at this
theorem alloc_size {k:K} (ha:k.isAlloc=true) {tm:TM} {h h':Heap} {v:V} (hx:opK k tm h=some (v,h')):h'.size=h.size+1:=by
 cases k <;> simp only [opK] at hx <;> first
  | (cases ha;done)
  | (cases hx;rfl)
  | skip
 case makeSl sz bt z a b =>
  split at hx
  ·unfold makeSlA at hx
   split at hx
   ·split at hx
    ·cases hx;rfl
    ·cases hx
   ·cases hx
  ·cases hx
 all_goals ((repeat' split at hx) <;> first | (cases hx;done) | (cases hx;rfl))
theorem id_lt (hm:CallHM call) (t:TrOk call l tr tm tm' h0 h') {p q:Nat} {d:DOp} {L:Log} (hp:tr[p]? = some (d,L)) (hr:L.ran=true) (ha:d.o.k.isAlloc=true) (h1:p<q) (h2:q≤l.length):L.h.size<(stH tr h' q).size:=by
 have hst:=t.step _ _ _ hp
 rcases hst.is with ⟨h,_⟩ | ⟨_,_,hop⟩
 ·rw [hr] at h;cases h
 ·have hnc:=calls_of_alloc ha
  rw [opA_nc hnc] at hop
  have:=alloc_size ha hop
  have:=sizes' hm t (p:=p+1) (q:=q) (by omega) h2
  omega
theorem next_C (l:List DOp):∀ (m q:Nat),q+m=l.length→∃ qs,q≤qs∧qs≤l.length∧(qs=l.length∨∃ d,l[qs]? = some d∧d.o.k.isC=true)∧∀ c d,q≤c→c<qs→l[c]? = some d→d.o.k.isC=false
 | 0,q,h=>⟨q,Nat.le_refl _,by omega,.inl (by omega),fun c d h1 h2=>by omega⟩
 | m+1,q,h=>by
  have hlt:q<l.length:=by omega
  cases hC:(l[q]'hlt).o.k.isC with
  | true=>exact ⟨q,Nat.le_refl _,by omega,.inr ⟨_,List.getElem?_eq_getElem hlt,hC⟩,fun c d h1 h2=>by omega⟩
  | false =>
   obtain ⟨qs,h1,h2,h3,h4⟩:=next_C l m (q+1) (by omega)
   refine ⟨qs,by omega,h2,h3,fun c d g1 g2 g3=>?_⟩
   by_cases e:c=q
   ·subst e
    rw [List.getElem?_eq_getElem hlt] at g3
    cases g3
    exact hC
   ·exact h4 c d (by omega) g2 g3
theorem inv_step {ops:Array Oper} (hc:CallOk P B w0 call) (hm:CallHM call) (t:TrOk call l tr tm tm' h0 h') (hk:Chk ops l) (hok:okAll 0 tr h'=true) {nt:Nat} (hops:∀ (q:Nat) (d:DOp),l[q]? = some d→∃ o,ops[d.idx]? = some o∧opC P ops nt o=some d.o)
  {ro:Option Nat} {n:Nat} {ρ0:Rho} {ds:List Deferred} {D D':Nat→Bool} {a:Act} {w:World} {ρ:Rho} {qs:Nat} (inv:Inv P B w0 l tr tm h0 h' ρ0 nt ds D a w ρ qs)
  {p:Nat} {d:DOp} (hp:l[p]? = some d) (hD:D p=false) (hanc:∀ x∈d.anc,D x=true) (hD':∀ q,D' q=(D q || q == p)) {Q:Exit→Act→World→Prop} {K:Act→World→Prop}
  (hK:∀ a' w' ρ' qs',Inv P B w0 l tr tm h0 h' ρ0 nt ds D' a' w' ρ' qs'→K a' w'):wpOpIn (Fw ro) n P ops Q d.idx K a w:=by
 obtain ⟨L,hL⟩:=t.get hp
 obtain ⟨o,ho,hoc⟩:=hops p d hp
 obtain ⟨hkc,hgc,hdst,hdo⟩:=opC_parts hoc
 have hst:=t.step _ _ _ hL
 have hplt:p<l.length:=(List.getElem?_eq_some_iff.1 hp).1
 have hrd:=reads_same t hk hL hD hanc inv.closed
 have hrdk:∀ x∈d.o.k.reads,(tmD tr D tm l.length).get x=TM.get L.tm x:=fun x hx=>hrd x (by simp [AOp.reads,hx])
 have hwant:wantedA (tmD tr D tm l.length) d.o.guard=wantedA L.tm d.o.guard:=wantedA_congr (o:=d.o) hrd
 -- where it stands
 have hple:p≤qs:=by
  rcases Nat.lt_or_ge qs p with hlt | hge
  ·rcases inv.edge with e | ⟨dq,hq1,hq2,hq3⟩
   ·omega
   ·rcases (hk.pair p d qs dq hp hq1 hlt).2 with h1 | h1
    ·have:=hanc qs h1;rw [hq3] at this;cases this
    ·rw [hq2] at h1;cases h1.2
  ·exact hge
 have hclosed':∀ q dq,l[q]? = some dq→D' q=true→∀ x∈dq.anc,D' x=true:=by
  intro q dq hq hDq x hx
  rw [hD'] at hDq ⊢
  by_cases e:q=p
  ·subst e
   rw [hp] at hq;cases hq
   rw [hanc x hx];rfl
  ·have:D q=true:=by simpa [e] using hDq
   rw [inv.closed q dq hq this x hx];rfl
 have hmore:=tmD_more t hk hL hD hD' inv.closed
 have tmr':∀ {ρ':Rho} {a2:Act} {u:Value},RLe ρ ρ'→VR ρ' L.v u→a2.tmps=(a.put o.dst u).tmps→TMR ρ' nt (tmD tr D' tm l.length) a2.tmps:=by
  intro ρ' a2 u hle hv ha2
  have h1:=TMR.put (a:=a) (inv.tms.mono hle) hdo hv
  rw [ha2]
  refine ⟨h1.1,fun x v hxne hx=>?_⟩
  refine h1.2 x v hxne ?_
  rw [put_get]
  have hx2:(tmD tr D' tm l.length).get x=some v:=hx
  rw [hmore x,hdst] at hx2
  exact hx2
 -- the next place,behind one that calls or writes
 have movedOn:∀ {a2:Act} {w2:World} {ρ2:Rho},p=qs→Rel P B w0 ρ2 (stH tr h' (p+1)) w2→TMR ρ2 nt (tmD tr D' tm l.length) a2.tmps→a2.defers=ds→New ρ ρ2 L.h.size→K a2 w2:=by
  intro a2 w2 ρ2 epq hr2 ht2 hd2 hn2
  have hCp:d.o.k.isC=true:=by
   rcases inv.edge with e | ⟨dq,hq1,hq2,hq3⟩
   ·omega
   ·rw [←epq,hp] at hq1;cases hq1;exact hq2
  obtain ⟨qs',g1,g2,g3,g4⟩:=next_C l (l.length-(p+1)) (p+1) (by omega)
  have hup:=(rel_up hm t hr2 (qs'-(p+1)) (by omega) (fun c dc h1 h2 h3=>g4 c dc h1 (by omega) h3)).1
  rw [show p+1+(qs'-(p+1))=qs' by omega] at hup
  have hDlate:∀ q dq,p<q→l[q]? = some dq→D q=false:=by
   intro q dq hq1 hq2
   cases hDq:D q with
   | false=>rfl
   | true =>
    rcases (hk.pair q dq p d hq2 hp hq1).2 with h1 | h1
    ·have:=inv.closed q dq hq2 hDq p h1
     rw [hD] at this;cases this
    ·rw [hCp] at h1;cases h1.2
  refine hK a2 w2 ρ2 qs' ⟨hclosed',g2,?_,?_,hup,ht2,?_,hd2,?_⟩
  ·rcases g3 with e | ⟨dq,hq1,hq2⟩
   ·exact .inl e
   ·refine .inr ⟨dq,hq1,hq2,?_⟩
    rw [hD',hDlate qs' dq (by omega) hq1]
    have:(qs' == p)=false:=by simp;omega
    rw [this];rfl
  ·intro c dc hc1 hc2 hc3
   rw [hD']
   by_cases e:c=p
   ·subst e;simp
   ·rcases Nat.lt_or_ge c p with h1 | h1
    ·rw [inv.before c dc (by omega) hc2 hc3];rfl
    ·rw [g4 c dc (by omega) hc1 hc2] at hc3;cases hc3
  ·intro p2 d2 L2 hp1 hp2 hran hall hD2
   rw [hD'] at hD2
   simp only [Bool.or_eq_false_iff,beq_eq_false_iff_ne] at hD2
   have hlt2:p2<l.length:=(List.getElem?_eq_some_iff.1 (t.back hp2)).1
   rcases Nat.lt_or_ge p2 p with h1 | h1
   ·have hold:=inv.pend p2 d2 L2 (by omega) hp2 hran hall hD2.1
    cases hx:ρ2 L2.h.size with
    | none=>rfl
    | some e =>
     rcases hn2.2 _ _ hx with h3 | h3
     ·rw [hold] at h3;cases h3
     ·have:=id_lt hm t hp2 hran hall h1 (by omega)
      rw [(t.at_ hL).2] at this
      omega
   ·cases hx:ρ2 L2.h.size with
    | none=>rfl
    | some e =>
     have h3:=hr2.dom _ _ hx
     have h4:=sizes' hm t (p:=p+1) (q:=p2) (by omega) (by omega)
     rw [(t.at_ hp2).2] at h4
     omega
  ·refine inv.new.trans hn2 ?_
   have:=sizes' hm t (p:=0) (q:=p) (by omega) (by omega)
   rwa [t.h0,(t.at_ hL).2] at this
 -- what stays,where it calls and writes nothing
 have stay:∀ {a2:Act} {w2:World} {ρ2:Rho},p<qs→Rel P B w0 ρ2 (stH tr h' qs) w2→TMR ρ2 nt (tmD tr D' tm l.length) a2.tmps→a2.defers=ds→New ρ0 ρ2 h0.size →
   (∀ p2 d2 L2,p2<qs→tr[p2]? = some (d2,L2)→L2.ran=true→d2.o.k.isAlloc=true→D p2=false→p2≠p→ρ2 L2.h.size=none)→K a2 w2:=by
  intro a2 w2 ρ2 hlt hr2 ht2 hd2 hn2 hpend
  refine hK a2 w2 ρ2 qs ⟨hclosed',inv.le,?_,?_,hr2,ht2,?_,hd2,hn2⟩
  ·rcases inv.edge with e | ⟨dq,hq1,hq2,hq3⟩
   ·exact .inl e
   ·refine .inr ⟨dq,hq1,hq2,?_⟩
    rw [hD',hq3]
    have:(qs == p)=false:=by simp;omega
    rw [this];rfl
  ·intro c dc hc1 hc2 hc3
   rw [hD',inv.before c dc hc1 hc2 hc3];rfl
  ·intro p2 d2 L2 hp1 hp2 hran hall hD2
   rw [hD'] at hD2
   simp only [Bool.or_eq_false_iff,beq_eq_false_iff_ne] at hD2
   exact hpend p2 d2 L2 hp1 hp2 hran hall hD2.1 hD2.2
 have hpdef:∀ u,(a.put o.dst u).defers=ds:=fun u=>by rw [put_defers,inv.defers]
 have hCd:p<qs→d.o.k.isC=false:=by
  intro hlt
  cases hC:d.o.k.isC with
  | false=>rfl
  | true=>have:=inv.before p d hlt hp hC;rw [hD] at this;cases this
 unfold wpOpIn
 rw [ho]
 simp only
 rcases hst.is with ⟨hran,hw,hh,hv⟩ | ⟨hran,hw,hop⟩
 ·-- passed over
  rw [←hwant] at hw
  rw [wanted_sound hgc inv.tms hw]
  simp only [Bool.false_eq_true,if_false]
  refine ⟨about_ok,?_⟩
  have hvu:VR ρ L.v undef:=by rw [hv];exact undef_sound _
  rcases Nat.lt_or_ge p qs with hlt | hge
  ·exact stay hlt inv.rel (tmr' (RLe.refl _) hvu rfl) (hpdef _) inv.new (fun p2 d2 L2 h1 h2 h3 h4 h5 _=>inv.pend p2 d2 L2 h1 h2 h3 h4 h5)
  ·have epq:p=qs:=by omega
   refine movedOn epq ?_ (tmr' (RLe.refl _) hvu rfl) (hpdef _) (New.refl _ _)
   have:=inv.rel
   rw [←epq,(t.at_ hL).2,←hh] at this
   exact this
 ·rw [←hwant] at hw
  rw [wanted_sound hgc inv.tms hw,if_pos rfl]
  have hkc:=hkc (opA_bad hop)
  rcases Nat.lt_or_ge p qs with hlt | hge
  ·have hC:=hCd hlt
   have hnc:=calls_of_isC hC
   have hlater:okLater L (stH tr h' qs)=true:=by
    refine later_at hok hL hC hlt (by rw [t.len];exact inv.le) ?_ ?_
    ·rcases inv.edge with e | ⟨dq,hq1,hq2,hq3⟩
     ·exact .inl (by rw [t.len];exact e)
     ·obtain ⟨Lq,hLq⟩:=t.get hq1
      exact .inr ⟨dq,Lq,hLq,hq2⟩
    ·intro c' d' L' h1 h2 h3 h4
     have h5:=inv.before c' d' h2 (t.back h3) h4
     cases hcc:d'.anc.contains p with
     | false=>rfl
     | true =>
      have:=inv.closed c' d' (t.back h3) h5 p (by simpa using hcc)
      rw [hD] at this;cases this
   unfold okLater at hlater
   rw [if_pos hran,hst.o] at hlater
   rw [opA_nc hnc] at hop
   cases ha:d.o.k.isAlloc with
   | true =>
    rw [ha,if_pos rfl,hop] at hlater
    simp only at hlater
    have hop2:opK d.o.k (tmD tr D tm l.length) L.h=some (L.v,stH tr h' (p+1)):=by rw [opK_congr hrdk];exact hop
    obtain ⟨ob,e1,e2⟩:=alloc_sound (B:=B) (w0:=w0) hkc ha hop2
    obtain ⟨e3,o3,e4⟩:=sameObj_eq hlater
    have hget:(stH tr h' qs).get L.h.size=some ob:=by
     rw [e3,e1,Heap.get_push,if_pos rfl]
    have hnone:=inv.pend p d L hlt hL hran ha hD
    have hlt2:L.h.size<(stH tr h' qs).size:=by
     rcases Nat.lt_or_ge L.h.size (stH tr h' qs).size with h1 | h1
     ·exact h1
     ·rw [inv.rel.fresh _ h1] at hget;cases hget
    obtain ⟨u,w2,em,g1,g2,g3⟩:=e2 inv.tms inv.rel hnone hlt2 hget
    refine up_done (not_defer hkc) g1 ?_
    have hh0:h0.size≤L.h.size:=by
     have:=sizes' hm t (p:=0) (q:=p) (by omega) (by omega)
     rwa [t.h0,(t.at_ hL).2] at this
    refine stay hlt g3 (tmr' (with_le hnone) g2 rfl) (hpdef _) (inv.new.trans (New.with_ hnone (Nat.le_refl _)) hh0) ?_
    intro p2 d2 L2 h1 h2 h3 h4 h5 h6
    have hne:L2.h.size≠L.h.size:=by
     rcases Nat.lt_or_ge p2 p with h7 | h7
     ·have:=id_lt hm t h2 h3 h4 h7 (by omega)
      rw [(t.at_ hL).2] at this;omega
     ·have:=id_lt hm t hL hran ha (show p<p2 by omega) (by have:=(List.getElem?_eq_some_iff.1 (t.back h2)).1;omega)
      rw [(t.at_ h2).2] at this;omega
    unfold Rho.with_
    rw [if_neg hne]
    exact inv.pend p2 d2 L2 h1 h2 h3 h4 h5
   | false =>
    rw [ha] at hlater
    simp only [Bool.false_eq_true,if_false] at hlater
    split at hlater
    ·rename_i v2 hx2 hopq
     have hvv:=V.beq_eq _ _ hlater
     subst hvv
     have hpure:=pure_heap hC ha hopq
     subst hpure
     have hopq2:opK d.o.k (tmD tr D tm l.length) (stH tr h' qs)=some (L.v,stH tr h' qs):=by rw [opK_congr hrdk];exact hopq
     obtain ⟨u,w2,ρ2,g1,g2,g3,g4⟩:=opK_sound hkc ha inv.tms inv.rel hopq2
     refine up_done (not_defer hkc) g1 ?_
     have hss:h0.size≤(stH tr h' qs).size:=by
      have:=sizes' hm t (p:=0) (q:=qs) (by omega) inv.le
      rwa [t.h0] at this
     refine stay hlt g3 (tmr' g4.1 g2 rfl) (hpdef _) (inv.new.trans g4 hss) ?_
     intro p2 d2 L2 h1 h2 h3 h4 h5 h6
     cases hx:ρ2 L2.h.size with
     | none=>rfl
     | some e =>
      rcases g4.2 _ _ hx with h7 | h7
      ·rw [inv.pend p2 d2 L2 h1 h2 h3 h4 h5] at h7;cases h7
      ·have:=id_lt hm t h2 h3 h4 h1 inv.le;omega
    ·cases hlater
  ·have epq:p=qs:=by omega
   have hrel:=inv.rel
   rw [←epq,(t.at_ hL).2] at hrel
   have hop2:opA call d.o.k (tmD tr D tm l.length) L.h=some (L.v,stH tr h' (p+1)):=by rw [opA_congr hrdk];exact hop
   refine op_here hc hkc inv.tms hrel hop2 fun u w2 hret=>?_
   obtain ⟨ρ2,q1,q2,q3⟩:=hret
   exact movedOn epq q2 (tmr' q3.1 q1 rfl) (hpdef _) q3
theorem ready_of {ops:Array Oper} {listed:Array Bool} {i:Nat} (h:i∈Region.ready .any ops listed):i<ops.size∧listed.getD i true=false∧∀ o,ops[i]? = some o→∀ e∈o.after.toList,Region.binds .any e=true→listed.getD e.on false=true:=by
 unfold Region.ready at h
 rw [List.mem_filter] at h
 obtain ⟨h1,h2⟩:=h
 simp only [Bool.and_eq_true,Bool.not_eq_true'] at h2
 refine ⟨by simpa using h1,h2.1,fun o ho e he hb=>?_⟩
 have h3:=h2.2
 rw [ho] at h3
 simp only [Option.map_some,Option.getD_some,Array.all_eq_true,Bool.or_eq_true,Bool.not_eq_true'] at h3
 obtain ⟨j,hj,rfl⟩:=List.getElem_of_mem he
 rcases h3 j (by simpa using hj) with h4 | h4
 ·have:Region.binds .any (o.after.toList[j])=false:=by simpa using h4
  rw [this] at hb;cases hb
 ·simpa using h4
theorem ready_mk {ops:Array Oper} {listed:Array Bool} {i:Nat} {o:Oper} (ho:ops[i]? = some o) (h1:listed.getD i true=false) (h2:∀ e∈o.after.toList,Region.binds .any e=true→listed.getD e.on false=true):i∈Region.ready .any ops listed:=by
 have hlt:i<ops.size:=(Array.getElem?_eq_some_iff.1 ho).1
 unfold Region.ready
 rw [List.mem_filter]
 refine ⟨by simpa using hlt,?_⟩
 rw [ho]
 simp only [h1,Bool.not_false,Option.map_some,Option.getD_some,Bool.true_and,Array.all_eq_true,Bool.or_eq_true,Bool.not_eq_true']
 intro j hj
 cases hb:Region.binds .any o.after[j] with
 | false=>exact .inl rfl
 | true=>exact .inr (h2 _ (by rw [←Array.getElem_toList];exact List.getElem_mem _) hb)
def left (ops:Array Oper) (listed:Array Bool):Nat:=((List.range ops.size).filter fun i=>!listed.getD i false).length
theorem getD_set (listed:Array Bool) (i j:Nat) (hi:i<listed.size) (b:Bool):(listed.setIfInBounds i true).getD j b=if j=i then true else listed.getD j b:=by
 simp only [Array.getD_eq_getD_getElem?]
 by_cases e:j=i
 ·subst e;rw [Array.getElem?_setIfInBounds_self_of_lt hi,if_pos rfl];rfl
 ·rw [Array.getElem?_setIfInBounds_ne (Ne.symm e),if_neg e]
theorem filter_less {α:Type} (p q:α→Bool):∀ (l:List α) (x:α),x∈l→p x=true→q x=false→(∀ y∈l,q y=true→p y=true)→(l.filter q).length<(l.filter p).length
 | [],x,h,_,_,_=>by cases h
 | y :: l,x,h,hp,hq,himp=>by
  have hle:∀ l:List α,(∀ y∈l,q y=true→p y=true)→(l.filter q).length≤(l.filter p).length:=by
   intro l
   induction l with
   | nil=>intro _;simp
   | cons z l ih =>
    intro hi
    have ih':=ih fun y hy=>hi y (by simp [hy])
    cases hqz:q z with
    | true=>simp [List.filter_cons,hqz,hi z (by simp) hqz,ih']
    | false =>
     cases hpz:p z with
     | true=>simp [List.filter_cons,hqz,hpz];omega
     | false=>simp [List.filter_cons,hqz,hpz,ih']
  rcases List.mem_cons.1 h with e | e
  ·subst e
   have:=hle l fun z hz=>himp z (by simp [hz])
   simp [List.filter_cons,hp,hq];omega
  ·have ih:=filter_less p q l x e hp hq fun z hz=>himp z (by simp [hz])
   cases hqy:q y with
   | true=>simp [List.filter_cons,hqy,himp y (by simp) hqy];omega
   | false =>
    cases hpy:p y with
    | true=>simp [List.filter_cons,hqy,hpy];omega
    | false=>simp [List.filter_cons,hqy,hpy];omega
theorem left_less {ops:Array Oper} {listed:Array Bool} {i:Nat} (hi:i<ops.size) (hs:listed.size=ops.size) (h:listed.getD i false=false):left ops (listed.setIfInBounds i true)<left ops listed:=by
 refine filter_less _ _ _ i (by simpa using hi) (by rw [h];rfl) (by rw [getD_set _ _ _ (by omega),if_pos rfl];rfl) ?_
 intro y hy hq
 rw [getD_set _ _ _ (by omega)] at hq
 by_cases e:y=i
 ·subst e;rw [h];rfl
 ·rw [if_neg e] at hq;exact hq
theorem tmD_all (t:TrOk call l tr tm tm' h0 h') {D:Nat→Bool} (hall:∀ q,q<l.length→D q=true):∀ q,q≤l.length→∀ x,(tmD tr D tm q).get x=(stTm tr tm' q).get x:=by
 intro q
 induction q with
 | zero=>intro _ x;rw [t.tm0];rfl
 | succ q ih =>
  intro hq x
  obtain ⟨L,hL⟩:=t.get (List.getElem?_eq_getElem (show q<l.length by omega))
  have hst:=t.step _ _ _ hL
  rw [hst.put,←(t.at_ hL).1]
  simp only [tmD,hL,hall q (by omega),if_true]
  rw [put_get,put_get,ih (by omega)]
theorem draw_any {ops:Array Oper} (hc:CallOk P B w0 call) (hm:CallHM call) (t:TrOk call l tr tm tm' h0 h') (hk:Chk ops l) (hok:okAll 0 tr h'=true) {nt:Nat} (hops:∀ (q:Nat) (d:DOp),l[q]? = some d→∃ o,ops[d.idx]? = some o∧opC P ops nt o=some d.o)
  {ro:Option Nat} {n:Nat} {ρ0:Rho} {ds:List Deferred} {Q:Exit→Act→World→Prop}
  (hq:∀ a' w' ρ',a'.defers=ds→TMR ρ' nt tm' a'.tmps→Rel P B w0 ρ' h' w'→New ρ0 ρ' h0.size→Q .normal a' w') :
  ∀ (fuel:Nat) (listed:Array Bool) (a:Act) (w:World) (ρ:Rho) (qs:Nat),listed.size=ops.size→left ops listed≤fuel→Inv P B w0 l tr tm h0 h' ρ0 nt ds (DoneAt l listed) a w ρ qs→wpAnyIn (Fw ro) n P .any ops Q fuel listed a w:=by
 -- nothing is ready: all is done
 have fin:∀ (listed:Array Bool) (a:Act) (w:World) (ρ:Rho) (qs:Nat),listed.size=ops.size→Inv P B w0 l tr tm h0 h' ρ0 nt ds (DoneAt l listed) a w ρ qs→Region.ready .any ops listed=[]→Q .normal a w:=by
  intro listed a w ρ qs hs inv hnil
  have hall:∀ q,q<l.length→DoneAt l listed q=true:=by
   intro q
   induction q using Nat.strongRecOn with
   | _ q ih =>
    intro hq
    cases hD:DoneAt l listed q with
    | true=>rfl
    | false =>
     obtain ⟨o,ho,hoc⟩:=hops q l[q] (List.getElem?_eq_getElem hq)
     have hlist:listed.getD (l[q]).idx false=false:=by
      unfold DoneAt at hD
      rw [List.getElem?_eq_getElem hq] at hD
      exact hD
     have hidx:=hk.lt q l[q] (List.getElem?_eq_getElem hq)
     have hlist2:listed.getD (l[q]).idx true=false:=by
      rw [Array.getD_eq_getD_getElem?] at hlist ⊢
      rw [Array.getElem?_eq_getElem (by omega)] at hlist ⊢
      exact hlist
     have:(l[q]).idx∈Region.ready .any ops listed:=by
      refine ready_mk ho hlist2 fun e he hb=>?_
      obtain ⟨p,d',hp1,hp2,hp3⟩:=hk.edge q l[q] o (List.getElem?_eq_getElem hq) ho e he hb
      have hpq:=hk.anc q l[q] (List.getElem?_eq_getElem hq) p hp1
      have:=ih p hpq (by omega)
      unfold DoneAt at this
      rw [hp2] at this
      rw [←hp3];exact this
     rw [hnil] at this
     cases this
  have hqs:qs=l.length:=by
   rcases inv.edge with e | ⟨d,hd1,hd2,hd3⟩
   ·exact e
   ·have hlt:=(List.getElem?_eq_some_iff.1 hd1).1
    rw [hall qs hlt] at hd3;cases hd3
  have hend:stH tr h' l.length=h'∧stTm tr tm' l.length=tm':=by
   unfold stH stTm
   rw [List.getElem?_eq_none (by rw [t.len];exact Nat.le_refl _)]
   exact ⟨rfl,rfl⟩
  have hrel:=inv.rel
  rw [hqs,hend.1] at hrel
  refine hq a w ρ inv.defers ⟨inv.tms.1,fun x v hxne hx=>?_⟩ hrel inv.new
  refine inv.tms.2 x v hxne ?_
  rw [tmD_all t hall l.length (Nat.le_refl _) x,hend.2]
  exact hx
 intro fuel
 induction fuel with
 | zero =>
  intro listed a w ρ qs hs hleft inv
  have hnil:Region.ready .any ops listed=[]:=by
   cases hr:Region.ready .any ops listed with
   | nil=>rfl
   | cons i r =>
    obtain ⟨h1,h2,_⟩:=ready_of (ops:=ops) (listed:=listed) (i:=i) (by rw [hr];simp)
    have:i∈(List.range ops.size).filter fun i=>!listed.getD i false:=by
     rw [List.mem_filter]
     refine ⟨by simpa using h1,?_⟩
     rw [Array.getD_eq_getD_getElem?] at h2 ⊢
     rw [Array.getElem?_eq_getElem (by omega)] at h2 ⊢
     simpa using h2
    have hpos:=List.length_pos_of_mem this
    unfold left at hleft
    omega
  exact ⟨hnil,fin listed a w ρ qs hs inv hnil⟩
 | succ fuel ih =>
  intro listed a w ρ qs hs hleft inv
  refine ⟨fun hnil=>fin listed a w ρ qs hs inv hnil,fun i hi=>?_⟩
  obtain ⟨h1,h2,h3⟩:=ready_of hi
  obtain ⟨p,d,hp,rfl⟩:=hk.all i h1
  obtain ⟨o,ho,hoc⟩:=hops p d hp
  have h2':listed.getD d.idx false=false:=by
   rw [Array.getD_eq_getD_getElem?] at h2 ⊢
   rw [Array.getElem?_eq_getElem (by omega)] at h2 ⊢
   exact h2
  have hDp:DoneAt l listed p=false:=by unfold DoneAt;rw [hp];exact h2'
  have hanc:∀ x∈d.anc,DoneAt l listed x=true:=by
   intro x hx
   obtain ⟨e,r,d',e1,e2,e3,e4,e5⟩:=hk.from_ p d o hp ho x hx
   have hr:DoneAt l listed r=true:=by unfold DoneAt;rw [e3];simp only;rw [e4];exact h3 o ho e e1 e2
   rcases e5 with e5 | e5
   ·subst e5;exact hr
   ·exact inv.closed r d' e3 hr x e5
  refine inv_step hc hm t hk hok hops inv hp hDp hanc (D':=DoneAt l (listed.setIfInBounds d.idx true)) ?_ ?_
  ·intro q
   unfold DoneAt
   cases hq:l[q]? with
   | none =>
    have:(q == p)=false:=by
     simp only [beq_eq_false_iff_ne]
     intro e;subst e;rw [hp] at hq;cases hq
    rw [this];rfl
   | some dq =>
    simp only
    rw [getD_set _ _ _ (by omega)]
    by_cases e:q=p
    ·subst e
     rw [hp] at hq;cases hq
     simp
    ·have hne:dq.idx≠d.idx:=by
      rcases Nat.lt_or_ge q p with h4 | h4
      ·exact (hk.pair p d q dq hp hq h4).1
      ·exact Ne.symm (hk.pair q dq p d hq hp (by omega)).1
     have:(q == p)=false:=by simpa using e
     rw [if_neg hne,this,Bool.or_false]
  ·intro a' w' ρ' qs' inv'
   exact ih (listed.setIfInBounds d.idx true) a' w' ρ' qs' (by simpa using hs) (by have:=left_less h1 hs h2';omega) inv'
theorem trace_DX {call:CallF} {nt:Nat}:∀ (l:List DOp) (hd:∀ d∈l,dstOk nt d.o.dst=true) {tr:List (DOp × Log)} {tm tm':TM} {h h':Heap},traceDraw call l tm h=some (tr,tm',h')→tm'.get DX=tm.get DX
 | [],_,_,_,_,_,_,hx=>by cases hx;rfl
 | d::l,hd,tr,tm,tm',h,h',hx=>by
  have h0:=hd d List.mem_cons_self
  have h1:∀ d∈l,dstOk nt d.o.dst=true:=fun d hm=>hd d (List.mem_cons_of_mem _ hm)
  unfold traceDraw at hx
  split at hx
  ·split at hx
   ·rename_i hh;cases hx;rw [trace_DX l h1 hh,put_DX h0]
   ·cases hx
  ·split at hx
   ·split at hx
    ·rename_i hh;cases hx;rw [trace_DX l h1 hh,put_DX h0]
    ·cases hx
   ·cases hx
  ·cases hx
theorem draw_sound {call:CallF} (hc:CallOk P B w0 call) (hm:CallHM call) {ro:Option Nat} {n nt id:Nat} {ops:Array Oper} {l:List DOp} (hmix:P.follows .mixedOrders=true) (hl:drawC P nt ops=some l)
  {ρ:Rho} {tm:TM} {a:Act} {h:Heap} {w:World} (hta:ActR ρ nt ro tm a) (r:Rel P B w0 ρ h w) {tm':TM} {h':Heap} (hx:runDraw call l tm h=some (tm',h')) {Q:Exit→Act→World→Prop}
  (hq0:∀ a' w' ρ',ActR ρ' nt ro tm' a'→Rel P B w0 ρ' h' w'→New ρ ρ' h.size→Q .normal a' w'):(Code.region id ops true).wpIn (Fw ro) n P Q a w:=by
 unfold runDraw at hx
 split at hx
 ·rename_i tr tm2 h2 htr
  split at hx
  ·rename_i hok
   cases hx
   unfold drawC at hl
   simp only at hl
   split at hl
   ·rename_i l2 hdl
    split at hl
    ·rename_i hchk
     cases hl
     obtain ⟨t1,t2,t3,t4⟩:=trace_ok l htr
     have t:TrOk call l tr tm tm' h h':=⟨t1,t2,t3,t4⟩
     have hk:=chk_of hchk
     have hops:=drawList_ok _ _ hdl
     have ht:=hta.1
     have hdx:tm'.get DX=tm.get DX:=trace_DX (nt:=nt) l (fun d hm=>by
      obtain ⟨q,hq1,hq2⟩:=List.mem_iff_getElem.1 hm
      obtain ⟨o,_,ho⟩:=hops q d (by rw [List.getElem?_eq_getElem hq1,hq2])
      have:=opC_parts ho
      rw [this.2.2.1];exact this.2.2.2) htr
     have hq:∀ a' w' ρ',a'.defers=a.defers→TMR ρ' nt tm' a'.tmps→Rel P B w0 ρ' h' w'→New ρ ρ' h.size→Q .normal a' w':=fun a' w' ρ' q1 q2 q3 q4=>hq0 a' w' ρ' (hta.next q2 q4.1 q1 hdx) q3 q4
     refine wpIn_region_any hmix ?_
     obtain ⟨qs,g1,g2,g3,g4⟩:=next_C l l.length 0 (by omega)
     have hup:=(rel_up (ρ:=ρ) (w:=w.drew) hm t (q:=0) (by rw [t2];exact r.drew) qs (by omega) (fun c d h1 h2 h3=>g4 c d h1 (by omega) h3)).1
     rw [Nat.zero_add] at hup
     have hfalse:∀ q,DoneAt l (Array.replicate ops.size false) q=false:=by
      intro q
      unfold DoneAt
      split
      ·rw [Array.getD_eq_getD_getElem?]
       rename_i d _
       by_cases hlt:d.idx<ops.size
       ·simp [hlt]
       ·simp [hlt]
      ·rfl
     have tm0:∀ q,tmD tr (DoneAt l (Array.replicate ops.size false)) tm q=tm:=by
      intro q
      induction q with
      | zero=>rfl
      | succ q ih =>
       simp only [tmD,hfalse,Bool.false_eq_true,if_false,ih]
       split <;> rfl
     refine draw_any hc hm t hk hok hops (ρ0:=ρ) (ds:=a.defers) hq ops.size _ a w.drew ρ qs (by simp) ?_ ⟨?_,g2,?_,?_,hup,by rw [tm0];exact ht,?_,rfl,New.refl _ _⟩
     ·unfold left
      refine Nat.le_trans (List.length_filter_le _ _) (by simp)
     ·intro q d h1 h2;rw [hfalse] at h2;cases h2
     ·rcases g3 with e | ⟨d,e1,e2⟩
      ·exact .inl e
      ·exact .inr ⟨d,e1,e2,hfalse _⟩
     ·intro c d h1 h2 h3
      rw [g4 c d (Nat.zero_le _) h1 h2] at h3;cases h3
     ·intro p d L h1 h2 h3 h4 h5
      cases hx:ρ L.h.size with
      | none=>rfl
      | some e =>
       have h6:=r.dom _ _ hx
       have h7:=sizes' hm t (p:=0) (q:=p) (by omega) (by have:=(List.getElem?_eq_some_iff.1 (t.back h2)).1;omega)
       rw [t2,(t.at_ h2).2] at h7
       omega
    ·cases hl
   ·cases hl
  ·cases hx
 ·cases hx
end
end Abs
end Go.Proofs.YthgcjbniipfnbaaGreatDoor
namespace Go.Proofs.YthgcjbniipfnbaaGreatDoor
namespace Abs
set_option linter.unusedVariables false
set_option linter.unusedSimpArgs false
open Go.RowKit
section
variable {P:Program} {B:Nat} {w0:World}
def LoopArr (F:Fence) (n:Nat) (P:Program) (c:Code) (Q:Exit→Act→World→Prop) (a:Act) (w:World):Prop :=
 ∀ (b:Frame) (k:List Item) (cs:List Frame),b.roundOf=F.round→F.fn b.fn→F.room (cs.length+1+n) →
  ∃ e a' w',Q e a' w'∧ArrivesIn (Machine.fenced P F) P (lone (b.atR a (.code c::.inLoop c::k)) cs w) b k cs e a' w'
theorem loop_wp {F:Fence} {n:Nat} {c:Code} {Q:Exit→Act→World→Prop} {a:Act} {w:World} (h:LoopArr F n P c Q a w):(Code.loop c).wpIn F n P Q a w:=by
 intro b k cs hro hb hr
 obtain ⟨e,a',w',hq,harr⟩:=h b k cs hro hb hr
 exact ⟨e,a',w',hq,.of_steps (.one (fenced_calm hb hr rfl) stepR_loop) harr⟩
theorem loop_unroll {F:Fence} {n:Nat} {c:Code} {Q:Exit→Act→World→Prop} {a:Act} {w:World} (h:c.wpIn F n P (Exit.then (fun a' w'=>LoopArr F n P c Q a' w') Q) a w):LoopArr F n P c Q a w:=by
 intro b k cs hro hb hr
 obtain ⟨e,a₁,w₁,hq,harr⟩:=h b (.inLoop c::k) cs hro hb hr
 cases e with
 | normal =>
  obtain ⟨e₂,a₂,w₂,hq₂,harr₂⟩:=hq b k cs hro hb hr
  exact ⟨e₂,a₂,w₂,hq₂,.of_steps (StepsIn.trans harr (.one (fenced_calm hb hr rfl) stepR_inLoop)) harr₂⟩
 | exit id=>exact ⟨_,a₁,w₁,hq,.pass (x:=.inLoop c) rfl (fun _ _=>.inl (by simp)) harr⟩
 | goto l=>exact ⟨_,a₁,w₁,hq,.pass (x:=.inLoop c) rfl (fun _ _=>.inl (by simp)) harr⟩
 | ret=>exact ⟨_,a₁,w₁,hq,.pass (x:=.inLoop c) rfl (fun _ _=>.inl (by simp)) harr⟩
 | panic ch=>exact ⟨_,a₁,w₁,hq,.pass (x:=.inLoop c) rfl (fun _ _=>.inl (by simp)) harr⟩
 | outgrown=>exact ⟨_,a₁,w₁,hq,.pass (x:=.inLoop c) rfl (fun _ _=>.inl (by simp)) harr⟩
def Snd (ro:Option Nat) (n:Nat) (P:Program) (c:Code) (Q:Exit→Act→World→Prop) (a:Act) (w:World):Prop :=
 c.wpIn (Fw ro) n P Q a w∧∀ c',c=.loop c'→LoopArr (Fw ro) n P c' Q a w
theorem Snd.of {ro:Option Nat} {n:Nat} {c:Code} {Q:Exit→Act→World→Prop} {a:Act} {w:World} (h:c.wpIn (Fw ro) n P Q a w) (hc:∀ c',c≠.loop c'):Snd ro n P c Q a w :=
 ⟨h,fun c' e=>absurd e (hc c')⟩
theorem LoopArr.mono {F:Fence} {n:Nat} {c:Code} {Q Q':Exit→Act→World→Prop} {a:Act} {w:World} (h:LoopArr F n P c Q a w) (hq:∀ e a w,Q e a w→Q' e a w):LoopArr F n P c Q' a w :=
 fun b k cs hro hb hr=>let ⟨e,a',w',q,r⟩:=h b k cs hro hb hr;⟨e,a',w',hq _ _ _ q,r⟩
def LoopOk (P:Program) (B:Nat) (w0:World) (L:LoopF):Prop :=
 ∀ (ro:Option Nat) (n nt:Nat) (c:Code) (ac:AC),codeC P nt c=some ac→(ro=none∨ac.noD=true)→∀ (ρ:Rho) (tm:TM) (a:Act) (h:Heap) (w:World),ActR ρ nt ro tm a→Rel P B w0 ρ h w →
  ∀ (ex:Ex) (tm':TM) (h':Heap),L ac tm h=some (ex,tm',h')→Snd ro n P c (Post P B w0 ρ h.size nt ro ex tm' h') a w
theorem TMR.dx {ρ:Rho} {nt:Nat} {tm:TM} {a:Array Value} (h:TMR ρ nt tm a) (v:V):TMR ρ nt (tm.set DX v) a :=
 ⟨h.1,fun i x hi hx=>h.2 i x hi (by rw [←TM.get_set_ne tm DX i v hi];exact hx)⟩
theorem deferred_push (tm:TM) (x:V):deferred (pushD tm x)=x::deferred tm:=by
 unfold pushD
 rw [deferred,TM.get_set_same]
theorem wpIn_scope {F:Fence} {n:Nat} {c:Code} {Q:Exit→Act→World→Prop} {a:Act} {w:World} (h:c.wpIn F n P Q a w) (hg:∀ l a w,¬ Q (.goto l) a w):(Code.scope c).wpIn F n P Q a w:=by
 intro b k cs hro hb hr
 have s1:StepsIn (Machine.fenced P F) P (lone (b.atR a (.code (.scope c)::k)) cs w) (lone (b.atR a (.code c::.inScope c::k)) cs w) :=
  .one (fenced_calm hb hr rfl) (step_lone_go (by simp [stepG,stepG.exec,Frame.atR]))
 obtain ⟨e,a₁,w₁,hq,harr⟩:=h b (.inScope c::k) cs hro hb hr
 refine ⟨e,a₁,w₁,hq,.of_steps s1 ?_⟩
 cases e with
 | normal=>exact StepsIn.trans harr (.one (fenced_calm hb hr rfl) (step_lone_go (by simp [stepG,stepG.exec,Frame.atR])))
 | exit id=>exact ⟨fun k' hk=>harr.1 k' (by simpa [exitTo] using hk),fun hr' hk=>harr.2 hr' (by simpa [exitTo] using hk)⟩
 | goto l=>exact absurd hq (hg _ _ _)
 | ret=>exact harr
 | panic chain=>exact harr
 | outgrown=>exact harr
theorem wpIn_range2 {F:Fence} {n:Nat} {g:Operand} {ps:Array Tmp} {assign body:Code} {Q:Exit→Act→World→Prop} {a:Act} {w:World}
  (h:∀ fn,F.fn fn→∃ (l:Nat) (mark:List Deferred) (w₁:World) (d:Deferred) (w₁':World),
   (Instr.enterLoop fn a.tmps ps assign body F.round).run P w=.ok (l,mark) w₁ ∧
   (resolve a.eval (rangeCall g l) 0).run P w₁=.ok d w₁' ∧
   (∀ f',Target.leads P w₁' d.target d.args=some f'→F.fn f') ∧
   ((∃ f args w₂,(invoke d.target d.args).run P w₁'=.ok (.enter f args) w₂∧(F.depth.isSome=true→1≤n)∧CallsIn F (n-1) P f args w₂ (rangePost F n P l Q { a with defers:=mark++a.defers })) ∨
    (∃ v w₂,(invoke d.target d.args).run P w₁'=.ok (.value v) w₂∧rangePost F n P l Q { a with defers:=mark++a.defers } (.returned v) w₂))) :
  (Code.rangeFunc g ps assign body).wpIn F n P Q a w:=by
 intro b k cs hro hb hr
 obtain ⟨l,mark,w₁,d,w₁',he,hres,hlead,hcase⟩:=h b.fn hb
 rw [←hro] at he
 have h0:(lone (b.atR a (.code (.rangeFunc g ps assign body)::k)) cs w).fenced P F:=by
  refine fenced_lone (.inl hb) (fun f' hf'=>hlead f' ?_) (Fence.room_le hr (by omega))
  have hev:=Frame.eval_atR b a (.code (.rangeFunc g ps assign body)::k)
  simp only [Frame.atR] at hev
  simp only [Frame.about,Frame.atR,he,hev,hres] at hf'
  exact hf'
 rcases hcase with ⟨f,args,w₂,hinv,hn,hF,hcall⟩ | ⟨v,w₂,hinv,jump,w₄,hend,hj⟩
 ·have henter:=stepR_rangeFunc (P:=P) (b:=b) (a:=a) (k:=k) (cs:=cs) (w:=w) he hres hinv
  have hroom:F.room ((b.atR { a with defers:=mark++a.defers } (.inRangeFunc l::k)::cs).length+1+(n-1)):=Fence.room_enter hr hn
  obtain ⟨e,w₃,fr,hR,hsteps,hfn,hleave⟩:=hcall (b.atR { a with defers:=mark++a.defers } (.inRangeFunc l::k)::cs) hroom
  cases e with
  | outgrown =>
   obtain ⟨a₀,w₀,hq⟩:=hR
   exact ⟨.outgrown,a₀,w₀,hq,.inr (Outgrown.of_steps (.one henter) hsteps)⟩
  | returned v =>
   have hl:(lone fr (b.atR { a with defers:=mark++a.defers } (.inRangeFunc l::k)::cs) w₃).fenced P F:=fenced_leaving (hfn ▸ hF) hroom hleave
   obtain ⟨jump,w₄,hend,hj⟩:=hR
   have sback:StepsIn (Machine.fenced P F) P (lone (b.atR a (.code (.rangeFunc g ps assign body)::k)) cs w) (lone (b.atR { a with defers:=mark++a.defers } ((jump.map Item.code).toList++k)) cs w₄):=by
    refine .head h0 henter (StepsIn.trans hsteps (.head hl ?_ (.one (fenced_calm (fr:=b.atR { a with defers:=mark++a.defers } (.endRangeFunc l::k)) hb hr rfl) (stepR_endRangeFunc hend))))
    rw [←finish_atR_inRangeFunc l v];exact step_leave_returned hleave
   cases jump with
   | none=>exact ⟨.normal,_,w₄,hj,sback⟩
   | some c =>
    obtain ⟨e',a'',w₅,hq,harr⟩:=hj b k cs hro hb hr
    exact ⟨e',a'',w₅,hq,.of_steps sback harr⟩
  | panicked chain =>
   have hl:(lone fr (b.atR { a with defers:=mark++a.defers } (.inRangeFunc l::k)::cs) w₃).fenced P F:=fenced_leaving (hfn ▸ hF) hroom hleave
   refine ⟨.panic chain,_,w₃,hR,.inRangeFunc l::k,.head h0 henter (StepsIn.trans hsteps (.one hl ?_))⟩
   rw [←Frame.raise_atR];exact step_leave_panicked hleave
 ·have henter:step P (lone (b.atR a (.code (.rangeFunc g ps assign body)::k)) cs w)=.next (lone ((b.atR { a with defers:=mark++a.defers } (.inRangeFunc l::k)).finish v) cs w₂) :=
   step_lone_go (by
    have hev:=Frame.eval_atR b { a with defers:=mark++a.defers } (.inRangeFunc l::k)
    simp only [Frame.atR] at hev
    have hres':Sem.run P (resolve ({ tmps:=a.tmps,defers:=mark++a.defers }:Act).eval { callee:=.value g,args:=#[.const (.func (.yield l) #[] #[])],argTypes:=#[] } 0) w₁=.ok d w₁':=hres
    simp [stepG,stepG.exec,Frame.atR,Sem.runT_eq,he,GStep.bare_after,stepG.apply,hev,Sem.run_bind,hres',hinv,Result.andThen])
  rw [finish_atR_inRangeFunc] at henter
  have sback:StepsIn (Machine.fenced P F) P (lone (b.atR a (.code (.rangeFunc g ps assign body)::k)) cs w) (lone (b.atR { a with defers:=mark++a.defers } ((jump.map Item.code).toList++k)) cs w₄) :=
   .head h0 henter (.one (fenced_calm (fr:=b.atR { a with defers:=mark++a.defers } (.endRangeFunc l::k)) hb hr rfl) (stepR_endRangeFunc hend))
  cases jump with
  | none=>exact ⟨.normal,_,w₄,hj,sback⟩
  | some c =>
   obtain ⟨e',a'',w₅,hq,harr⟩:=hj b k cs hro hb hr
   exact ⟨e',a'',w₅,hq,.of_steps sback harr⟩
theorem lastD_spec:∀ {l pre:List Oper} {c:Call},lastD l=some (pre,c)→∃ o,l=pre++[o]∧o.op=.defer c∧o.guard=none∧o.dst=none
 | [],_,_,h=>by cases h
 | [o],pre,c,h=>by
  simp only [lastD] at h
  split at h
  ·rename_i c' h1 h2 h3
   cases h
   exact ⟨o,rfl,h1,h2,h3⟩
  ·cases h
 | o::o2::r,pre,c,h=>by
  simp only [lastD] at h
  split at h
  ·rename_i l c' hl
   cases h
   obtain ⟨x,h1,h2⟩:=lastD_spec hl
   exact ⟨x,by rw [h1];rfl,h2⟩
  ·cases h
theorem range_end {ρ ρ2 ρ3:Rho} {n nt:Nat} {tm:TM} {a:Act} {h h':Heap} {w3:World} {D l:Nat} {e0 e1:Emb} (ht:ActR ρ nt none tm a) (r3:Rel P B w0 ρ3 h' w3) (hn:New ρ2 ρ3 (h.size+2)) (hn2:New ρ ρ2 h.size) (he0:ρ2 h.size=some e0) (hD:e0.blk=D) (he1:ρ2 (h.size+1)=some e1) (hl:e1.blk=l)
  {st:LoopState} {pend:Option Ex} {n1:Nat} {t1:TM} {p1:List Nat} {a1 b1:AC} (hg:h'.get (h.size+1)=some (.loop st pend n1 t1 p1 a1 b1)) (hst:st≠.busy) (u:Value) :
  rangePost (Fw none) n P l (Post P B w0 ρ h.size nt none (exOf pend) (pushMark tm h.size) (h'.put (h.size+1) .dead)) { a with defers:=[{ target:=.collected D,args:=#[] }]++a.defers } (.returned u) w3:=by
 have he1':=hn.1 _ _ he1
 obtain ⟨o,q1,q2⟩:=r3.obj _ _ he1'
 rw [hg] at q1
 cases q1
 obtain ⟨hB,rec,q3,q4⟩:=q2
 subst hl
 have hend:=run_endLoop (P:=P) q3 (by rw [q4.state];exact hst)
 have r4:Rel P B w0 ρ3 (h'.put (h.size+1) .dead) (w3.putObj e1.blk (.loop { rec with state:=.exhausted })) :=
  r3.setOwn he1' hg rfl (.inr rfl) (fun S hS=>by cases hS) hB _ trivial
 have hle:RLe ρ ρ3:=fun b e hb=>hn.1 _ _ (hn2.1 _ _ hb)
 have hnew:New ρ ρ3 h.size:=⟨hle,fun b e hb=>by
  rcases hn.2 b e hb with q | q
  ·exact hn2.2 b e q
  ·exact .inr (by omega)⟩
 have hact:ActR ρ3 nt none (pushMark tm h.size) { a with defers:=[{ target:=.collected D,args:=#[] }]++a.defers }:=by
  refine ⟨(ht.1.mono hle).dx _,fun _=>?_⟩
  unfold pushMark
  rw [deferred_push]
  exact .mark _ e0 _ _ _ (hn.1 _ _ he0) hD.symm ((ht.2 rfl).mono hle)
 refine ⟨_,_,hend,?_⟩
 have hpd:=q4.pend
 split
 ·rename_i hn
  rw [hpd] at hn
  cases pend with
  | none=>exact ⟨.normal,ρ3,hact,r4,hnew⟩
  | some x=>cases x with
   | normal=>exact ⟨.normal,ρ3,hact,r4,hnew⟩
   | exit id=>cases hn
   | ret=>cases hn
 ·rename_i c hn
  rw [hpd] at hn
  cases pend with
  | none=>cases hn
  | some x=>cases x with
   | normal=>cases hn
   | exit id=>cases hn;exact wpIn_exit ⟨.exit id,ρ3,hact,r4,hnew⟩
   | ret=>cases hn;exact wpIn_ret ⟨.ret,ρ3,hact,r4,hnew⟩
theorem range_sound {call:CallF} (hc:CallOk P B w0 call) {n nt:Nat} {f:Operand} {ps:Array Tmp} {asg body:Code} {ρ:Rho} {tm:TM} {a:Act} {h h3:Heap} {w:World} {v3:V} (ht:ActR ρ nt none tm a) (r:Rel P B w0 ρ h w) {fid:FuncId} {fi cp:Array Value} {first caps:List V} (hcr:a.eval f=.func (.func fid) fi cp) (hv1:VRs ρ first fi.toList) (hv2:VRs ρ caps cp.toList)
  {aa ab:AC} (haa:codeC P nt asg=some aa) (hab:codeC P nt body=some ab) (c1:(ps.all fun p=>dstOk nt (some p))=true) (c2:aa.noD=true) (c3:ab.noD=true) (hcall:call (.fn fid) (first++[.yld (h.size+1)]++caps) ((h.push .dfr).push (.loop .ready none nt tm ps.toList aa ab))=some (v3,h3))
  {st:LoopState} {pend:Option Ex} {n1:Nat} {t1:TM} {p1:List Nat} {a1 b1:AC} (hg:h3.get (h.size+1)=some (.loop st pend n1 t1 p1 a1 b1)) (hst:st≠.busy) :
  (Code.rangeFunc f ps asg body).wpIn (Fw none) n P (Post P B w0 ρ h.size nt none (exOf pend) (pushMark tm h.size) (h3.put (h.size+1) .dead)) a w:=by
 have hnone:ρ h.size=none:=r.none_at
 have e1:(h.push .dfr).get h.size=some .dfr:=by rw [Heap.get_push,if_pos rfl]
 have r1:=(r.push .dfr).lay hnone (by rw [Heap.size_push];omega) e1 (.deferred (some [])) 0 ⟨r.base,World.alloc_heap_new w _⟩
 generalize hρ1:Rho.with_ ρ h.size ⟨w.heap.size,0,0⟩=ρ1 at r1
 have hle1:RLe ρ ρ1:=by rw [←hρ1];exact with_le hnone
 have hnone2:ρ1 (h.size+1)=none:=r1.none_at
 have hsz1:(w.alloc (.deferred (some []))).heap.size=w.heap.size+1:=World.size_alloc _ _
 have e2:((h.push .dfr).push (.loop .ready none nt tm ps.toList aa ab)).get (h.size+1)=some (.loop .ready none nt tm ps.toList aa ab):=by rw [Heap.get_push,if_pos (by rw [Heap.size_push])]
 let W:FuncId→World:=fun fn=>(w.alloc (.deferred (some []))).alloc (.loop { state:=.ready,pending:=none,fn,tmps:=a.tmps,params:=ps,assign:=asg,body,defers:=w.heap.size })
 have hsnd:∀ fn:FuncId,∃ ρ2 e0 el,ρ2 h.size=some e0∧e0.blk=w.heap.size∧ρ2 (h.size+1)=some el∧el.blk=w.heap.size+1∧New ρ ρ2 h.size ∧
   Rel P B w0 ρ2 ((h.push .dfr).push (.loop .ready none nt tm ps.toList aa ab)) (W fn):=by
  intro fn
  have hle2:=with_le (e:=⟨(w.alloc (.deferred (some []))).heap.size,0,0⟩) hnone2
  have r2:=(r1.push (.loop .ready none nt tm ps.toList aa ab)).lay hnone2 (by rw [Heap.size_push,Heap.size_push];omega) e2 (.loop { state:=.ready,pending:=none,fn,tmps:=a.tmps,params:=ps,assign:=asg,body,defers:=w.heap.size }) 0
   ⟨r1.base,_,World.alloc_heap_new _ _,⟨rfl,rfl,(ht.1.mono hle1).mono hle2,rfl,fun p hp=>by
    have:=Array.all_eq_true'.1 c1 p (by simpa using hp)
    exact this,haa,hab,c2,c3⟩⟩
  refine ⟨_,⟨w.heap.size,0,0⟩,⟨(w.alloc (.deferred (some []))).heap.size,0,0⟩,?_,rfl,with_same,hsz1,⟨fun b e hb=>hle2 _ _ (hle1 _ _ hb),?_⟩,r2⟩
  ·exact hle2 _ _ (by rw [←hρ1];exact with_same)
  ·intro b e hb
   unfold Rho.with_ at hb
   by_cases q:b=h.size+1
   ·exact .inr (by omega)
   ·rw [if_neg q,←hρ1] at hb
    unfold Rho.with_ at hb
    by_cases q2:b=h.size
    ·exact .inr (by omega)
    ·rw [if_neg q2] at hb;exact .inl hb
 have hcallsnd:∀ fn:FuncId,∃ ρ2 e0 el,ρ2 h.size=some e0∧e0.blk=w.heap.size∧ρ2 (h.size+1)=some el∧el.blk=w.heap.size+1∧New ρ ρ2 h.size ∧
   CallSnd P B w0 ρ2 fid (fi++#[.func (.yield (w.heap.size+1)) #[] #[]]++cp) (W fn) ((h.push .dfr).push (.loop .ready none nt tm ps.toList aa ab)) v3 h3:=by
  intro fn
  obtain ⟨ρ2,e0,el,g1,g2,g3,g4,g5,g6⟩:=hsnd fn
  refine ⟨ρ2,e0,el,g1,g2,g3,g4,g5,hc.fn _ _ _ _ _ hcall ρ2 _ _ g6 ?_⟩
  simp only [Array.toList_append]
  exact ((hv1.mono g5.1).append (.cons _ _ _ _ (.yld _ el _ g3 g4.symm) .nil)).append (hv2.mono g5.1)
 have hsize:((h.push .dfr).push (.loop .ready none nt tm ps.toList aa ab)).size=h.size+2:=rfl
 have hres:∀ fn:FuncId,(resolve a.eval (rangeCall f (w.heap.size+1)) 0).run P (W fn)=.ok { target:=.fn (.func fid) cp,args:=fi++#[.func (.yield (w.heap.size+1)) #[] #[]] } (W fn):=by
  intro fn
  have hm1:Array.map a.eval #[Operand.const (.func (.yield (w.heap.size+1)) #[] #[])]=#[.func (.yield (w.heap.size+1)) #[] #[]]:=by simp [Act.eval]
  simp only [resolve,hcr,Deferred.ofValue,Sem.run_bind,Sem.run_pure,Result.andThen_ok,hm1]
 refine wpIn_range2 ?_
 intro fn _
 obtain ⟨ρ2,e0,el,g1,g2,g3,g4,g5,g6⟩:=hcallsnd fn
 refine ⟨_,_,_,_,_,run_enterLoop_outer _ _ _ _ _,hres fn,fun _ _=>trivial,?_⟩
 rcases g6 with ⟨q1,q2⟩ | ⟨u,w',q1,ρ3,s1,s2,s3⟩
 ·refine .inl ⟨fid,_,_,by simp only [invoke];exact q1,fw_depth,?_⟩
  obtain ⟨m1,m2⟩:=calls_fw (ro:=none) (q2 (n-1))
  refine ⟨m1,fun cs hr=>?_⟩
  obtain ⟨e',w',fr,s1,s2,s3,s4⟩:=m2 cs hr
  refine ⟨e',w',fr,?_,s2,s3,s4⟩
  cases e' with
  | returned u =>
   obtain ⟨ρ3,s1,s2,s3⟩:=s1
   exact range_end ht s2 (hsize ▸ s3) g5 g1 g2 g3 g4 hg hst u
  | panicked c=>exact s1.elim
  | outgrown=>exact s1.elim
 ·exact .inr ⟨u,w',by simp only [invoke];exact q1,range_end ht s2 (hsize ▸ s3) g5 g1 g2 g3 g4 hg hst u⟩
theorem code_sound {call:CallF} {L:LoopF} (hc:CallOk P B w0 call) (hm:CallHM call) (hl:LoopOk P B w0 L) (hlm:LoopHM L) (ro:Option Nat) (n nt:Nat) :
  ∀ (c:Code) (ac:AC),codeC P nt c=some ac→(ro=none∨ac.noD=true)→∀ (ρ:Rho) (tm:TM) (a:Act) (h:Heap) (w:World),ActR ρ nt ro tm a→Rel P B w0 ρ h w →
  ∀ (ex:Ex) (tm':TM) (h':Heap),execC call L ac tm h=some (ex,tm',h')→Snd ro n P c (Post P B w0 ρ h.size nt ro ex tm' h') a w:=by
 intro c
 induction c with
 | skip =>
  intro ac hac hnd ρ tm a h w ht r ex tm' h' hx
  cases hac
  cases hx
  exact .of (wpIn_skip ⟨.normal,ρ,ht,r,New.refl _ _⟩) (fun _ e=>by cases e)
 | region id ops draw =>
  intro ac hac hnd ρ tm a h w ht r ex tm' h' hx
  cases draw with
  | false =>
   simp only [codeC] at hac
   split at hac
   ·rename_i pre cl hld
    obtain ⟨od,k1,k2,k3,k4⟩:=lastD_spec hld
    split at hac
    ·rename_i l g hops hcal
     split at hac
     ·rename_i f args hf hargs
      cases hac
      have hro:ro=none:=hnd.resolve_right (by simp [AC.noD])
      subst hro
      unfold execC at hx
      split at hx
      ·rename_i tm2 h2 hx2
       unfold execC at hx2
       split at hx2
       ·rename_i tm3 h3 hrun
        cases hx2
        unfold execC at hx
        split at hx
        ·rename_i fid first caps vs hev hevs
         cases hx
         refine .of (wpIn_region ?_) (fun _ e=>by cases e)
         have hpl:∀ j o,pre[j]? = some o→ops[0+j]? = some o:=by
          intro j o hj
          rw [Nat.zero_add,←Array.getElem?_toList,k1,List.getElem?_append_left (List.getElem?_eq_some_iff.1 hj).1]
          exact hj
         have hlast:ops[pre.length]? = some od:=by
          rw [←Array.getElem?_toList,k1];simp
         have hrange:List.range ops.size=List.range' 0 pre.length++[pre.length]:=by
          rw [←Array.length_toList,k1,List.length_append,List.length_singleton,List.range_succ,List.range_eq_range']
         rw [hrange]
         refine ops_sound (P:=P) hc hm (ro:=none) (n:=n) (ops:=ops) pre 0 hpl hops ht r hrun (fun a' w' ρ' q2 q3 q4=>?_)
         simp only [wpOpsIn,hlast]
         have hwant:Region.wanted od (yielded ops a'.tmps)=true:=by unfold Region.wanted;rw [k3]
         rw [if_pos hwant]
         refine ⟨about_ok,?_⟩
         have hg':=ev_sound q2.1 hf hev
         have has':=evs_sound q2.1 hargs hevs
         obtain ⟨callee,as,ts⟩:=cl
         simp only at hcal
         subst hcal
         cases hcr:a'.eval g <;> rw [hcr] at hg'
         case func fn fi cp =>
          cases hg' with
          | func _ _ _ _ _ h1 h2 =>
          have hrun2:(Oper.semAt (Fw none).round a'.eval od).run P w'=.ok (.defer { target:=.fn (.func fid) cp,args:=fi++as.map a'.eval }) w':=by
           show (Oper.semAt none a'.eval od).run P w'=_
           rw [Oper.semAt_none]
           simp only [execOp,k2,resolve,hcr,Deferred.ofValue,Sem.run_bind,Sem.run_pure,Result.andThen_ok]
          rw [hrun2,Oper.uponIn_defer,k4]
          refine ⟨.normal,ρ',⟨?_,fun _=>?_⟩,q3,q4⟩
          ·exact q2.1.dx _
          ·rw [deferred_push]
           refine .call fid _ cp (fi++as.map a'.eval) _ _ ?_ (q2.2 rfl)
           simp only [Array.toList_append,Array.toList_map]
           exact (h1.append has').append h2
         all_goals cases hg'
        ·cases hx
       ·cases hx2
      ·rename_i hne
       exfalso
       unfold execC at hx
       split at hx
       ·exact hne _ _ (by unfold execC;rename_i q;rw [q])
       ·cases hx
     ·cases hac;cases hx
    ·cases hac;cases hx
   ·split at hac
    ·rename_i l hops
     cases hac
     unfold execC at hx
     split at hx
     ·rename_i tm2 h2 hrun
      cases hx
      refine .of (wpIn_region ?_) (fun _ e=>by cases e)
      have:=ops_sound (P:=P) hc hm (ro:=ro) (n:=n) (ops:=ops) ops.toList 0 (fun j o hj=>by simpa using hj) hops ht r hrun (rest:=[])
       (Q:=Post P B w0 ρ h.size nt ro .normal tm' h') (fun a' w' ρ' q2 q3 q4=>⟨.normal,ρ',q2,q3,q4⟩)
      rw [List.range_eq_range',←Array.length_toList,←List.append_nil (List.range' _ _)]
      exact this
     ·cases hx
    ·cases hac;cases hx
  | true =>
   simp only [codeC] at hac
   split at hac
   ·rename_i hmix
    split at hac
    ·rename_i l hdl
     cases hac
     unfold execC at hx
     split at hx
     ·rename_i tm2 h2 hrun
      cases hx
      exact .of (draw_sound hc hm hmix hdl ht r hrun (fun a' w' ρ' q2 q3 q4=>⟨.normal,ρ',q2,q3,q4⟩)) (fun _ e=>by cases e)
     ·cases hx
    ·cases hac;cases hx
   ·cases hac;cases hx
 | seq x y ihx ihy =>
  intro ac hac hnd ρ tm a h w ht r ex tm' h' hx
  simp only [codeC] at hac
  split at hac
  ·rename_i ax ay hax hay
   cases hac
   have hnd1:ro=none∨ax.noD=true:=hnd.imp id fun q=>by simp only [AC.noD,Bool.and_eq_true] at q;exact q.1
   have hnd2:ro=none∨ay.noD=true:=hnd.imp id fun q=>by simp only [AC.noD,Bool.and_eq_true] at q;exact q.2
   refine .of (wpIn_seq ?_) (fun _ e=>by cases e)
   unfold execC at hx
   split at hx
   ·rename_i tm2 h2 hx2
    have hsz:=(HM.exec hm hlm ax hx2).size
    refine wpIn_mono (ihx ax hax hnd1 ρ tm a h w ht r _ _ _ hx2).1 ?_
    rintro e a' w' ⟨he,ρ',q1,q2,q3⟩
    cases he
    refine wpIn_mono (ihy ay hay hnd2 ρ' tm2 a' h2 w' q1 q2 _ _ _ hx).1 ?_
    rintro e a'' w'' ⟨he2,ρ'',g1,g2,g3⟩
    exact ⟨he2,ρ'',g1,g2,q3.trans g3 hsz⟩
   ·rename_i hnn
    refine wpIn_mono (ihx ax hax hnd1 ρ tm a h w ht r _ _ _ hx).1 ?_
    rintro e a' w' ⟨he,ρ',q1,q2,q3⟩
    cases he with
    | normal=>exact absurd hx (hnn _ _)
    | exit id=>exact ⟨.exit id,ρ',q1,q2,q3⟩
    | ret=>exact ⟨.ret,ρ',q1,q2,q3⟩
  ·cases hac
 | cond cx x y ihx ihy =>
  intro ac hac hnd ρ tm a h w ht r ex tm' h' hx
  simp only [codeC] at hac
  split at hac
  ·rename_i acx ax ay hcx hax hay
   cases hac
   have hnd1:ro=none∨ax.noD=true:=hnd.imp id fun q=>by simp only [AC.noD,Bool.and_eq_true] at q;exact q.1
   have hnd2:ro=none∨ay.noD=true:=hnd.imp id fun q=>by simp only [AC.noD,Bool.and_eq_true] at q;exact q.2
   refine .of ?_ (fun _ e=>by cases e)
   unfold execC at hx
   split at hx
   ·rename_i t hev
    have hv:=ev_sound ht.1 hcx hev
    have hcr:a.eval cx=.bool t:=by
     cases hcr:a.eval cx <;> rw [hcr] at hv <;> cases hv
     rfl
    refine wpIn_cond hcr ?_
    cases t with
    | true=>exact (ihx ax hax hnd1 ρ tm a h w ht r _ _ _ hx).1
    | false=>exact (ihy ay hay hnd2 ρ tm a h w ht r _ _ _ (by simpa using hx)).1
   ·cases hx
  ·cases hac
 | block id c ih =>
  intro ac hac hnd ρ tm a h w ht r ex tm' h' hx
  simp only [codeC] at hac
  split at hac
  ·rename_i ac' hac'
   cases hac
   refine .of (wpIn_block ?_) (fun _ e=>by cases e)
   unfold execC at hx
   split at hx
   ·rename_i i tm2 h2 hx2
    cases hx
    refine wpIn_mono (ih ac' hac' hnd ρ tm a h w ht r _ _ _ hx2).1 ?_
    rintro e a' w' ⟨he,ρ',q1,q2,q3⟩
    cases he
    by_cases hi:i=id
    ·simp only [Exit.inBlock,hi,if_true];exact ⟨.normal,ρ',q1,q2,q3⟩
    ·simp only [Exit.inBlock,hi,if_false];exact ⟨.exit i,ρ',q1,q2,q3⟩
   ·rename_i hne
    refine wpIn_mono (ih ac' hac' hnd ρ tm a h w ht r _ _ _ hx).1 ?_
    rintro e a' w' ⟨he,ρ',q1,q2,q3⟩
    cases he with
    | normal=>exact ⟨.normal,ρ',q1,q2,q3⟩
    | exit i=>exact absurd hx (hne _ _ _)
    | ret=>exact ⟨.ret,ρ',q1,q2,q3⟩
  ·cases hac
 | loop c ih =>
  intro ac hac hnd ρ tm a h w ht r ex tm' h' hx
  have hac0:=hac
  simp only [codeC] at hac
  split at hac
  ·rename_i ac' hac'
   cases hac
   have key:LoopArr (Fw ro) n P c (Post P B w0 ρ h.size nt ro ex tm' h') a w:=by
    refine loop_unroll ?_
    unfold execC at hx
    split at hx
    ·rename_i tm2 h2 hx2
     have hsz:=(HM.exec hm hlm ac' hx2).size
     refine wpIn_mono (ih ac' hac' hnd ρ tm a h w ht r _ _ _ hx2).1 ?_
     rintro e a' w' ⟨he,ρ',q1,q2,q3⟩
     cases he
     have:=(hl ro n nt (.loop c) (.loop ac') hac0 hnd ρ' tm2 a' h2 w' q1 q2 _ _ _ hx).2 c rfl
     refine this.mono ?_
     rintro e a'' w'' ⟨he2,ρ'',g1,g2,g3⟩
     exact ⟨he2,ρ'',g1,g2,q3.trans g3 hsz⟩
    ·rename_i hnn
     refine wpIn_mono (ih ac' hac' hnd ρ tm a h w ht r _ _ _ hx).1 ?_
     rintro e a' w' ⟨he,ρ',q1,q2,q3⟩
     cases he with
     | normal=>exact absurd hx (hnn _ _)
     | exit id=>exact ⟨.exit id,ρ',q1,q2,q3⟩
     | ret=>exact ⟨.ret,ρ',q1,q2,q3⟩
   exact ⟨loop_wp key,fun c' e=>by cases e;exact key⟩
  ·cases hac
 | exit id =>
  intro ac hac hnd ρ tm a h w ht r ex tm' h' hx
  cases hac
  cases hx
  exact .of (wpIn_exit ⟨.exit id,ρ,ht,r,New.refl _ _⟩) (fun _ e=>by cases e)
 | ret =>
  intro ac hac hnd ρ tm a h w ht r ex tm' h' hx
  cases hac
  cases hx
  exact .of (wpIn_ret ⟨.ret,ρ,ht,r,New.refl _ _⟩) (fun _ e=>by cases e)
 | rangeFunc f ps asg body _ _ =>
  intro ac hac hnd ρ tm a h w ht r ex tm' h' hx
  simp only [codeC] at hac
  split at hac
  ·rename_i f' aa ab hf haa hab
   split at hac
   ·rename_i hcond
    obtain ⟨c1,c2,c3⟩:=hcond
    cases hac
    have hro:ro=none:=hnd.resolve_right (by simp [AC.noD])
    subst hro
    unfold execC at hx
    split at hx
    ·rename_i fid first caps hev
     split at hx
     ·rename_i v3 h3 hcall
      split at hx
      ·rename_i st pend n1 t1 p1 a1 b1 hg
       have hst:st≠.busy:=by rintro rfl;cases hx
       have hx2:exOf pend=ex∧pushMark tm h.size=tm'∧h3.put (h.size+1) .dead=h':=by
        cases st <;> first | exact absurd rfl hst | (simp only [Option.some.injEq,Prod.mk.injEq] at hx;exact hx)
       obtain ⟨rfl,rfl,rfl⟩:=hx2
       refine .of ?_ (fun _ e=>by cases e)
       have hg':=ev_sound ht.1 hf hev
       cases hcr:a.eval f <;> rw [hcr] at hg'
       case func fn0 fi cp =>
        cases hg' with
        | func _ _ _ _ _ hv1 hv2 =>
        exact range_sound hc ht r hcr hv1 hv2 haa hab c1 c2 c3 hcall hg hst
       all_goals cases hg'
      ·cases hx
     ·cases hx
    ·cases hx
   ·cases hac;cases hx
  ·cases hac;cases hx
 | scope c ih =>
  intro ac hac hnd ρ tm a h w ht r ex tm' h' hx
  simp only [codeC] at hac
  refine .of (wpIn_scope (ih ac hac hnd ρ tm a h w ht r ex tm' h' hx).1 ?_) (fun _ e=>by cases e)
  rintro l a w ⟨he,_⟩
  cases he
 | label l =>
  intro ac hac hnd ρ tm a h w ht r ex tm' h' hx
  cases hac
  cases hx
  exact .of (wpIn_label ⟨.normal,ρ,ht,r,New.refl _ _⟩) (fun _ e=>by cases e)
 | goto=>intro ac hac hnd ρ tm a h w ht r ex tm' h' hx;cases hac;cases hx
 | refuse=>intro ac hac hnd ρ tm a h w ht r ex tm' h' hx;cases hac;cases hx
/-! ### A call's end -/
theorem Rel.reset {ρ:Rho} {h:Heap} {w:World} (r:Rel P B w0 ρ h w) (l:Nat):Rel P B w0 ρ { h with low:=l } w:=r.congr rfl fun _=>rfl
theorem CellFacts.narrow {ρ ρ':Rho} {w w':World} {e:Emb} {cs:List V} {n:Nat} (hn:∀ b e,b<n→ρ' b=some e→ρ b=some e) (hd:∀ b e,ρ b=some e→b<n) (h0:CellFacts ρ w e cs) (h1:CellFacts ρ' w' e cs):CellFacts ρ w' e cs:=by
 intro i v hv
 obtain ⟨u0,_,q0⟩:=h0 i v hv
 obtain ⟨u1,q1,q2⟩:=h1 i v hv
 exact ⟨u1,q1,q2.narrow hn (q0.scope hd)⟩
theorem MR.narrow {ρ ρ':Rho} {n:Nat} (hn:∀ b e,b<n→ρ' b=some e→ρ b=some e) (hd:∀ b e,ρ b=some e→b<n):∀ {x:List (V × V)} {y z:List MapEntry},MR ρ x y→MR ρ' x z→MR ρ x z
 | [],[],[],_,_=>trivial
 | (k,v)::x,m::y,m'::z,h0,h1=>⟨h1.1.narrow hn (h0.1.scope hd),h1.2.1.narrow hn (h0.2.1.scope hd),MR.narrow hn hd h0.2.2 h1.2.2⟩
 | [],_::_,_,h0,_=>h0.elim
 | _::_,[],_,h0,_=>h0.elim
 | [],[],_::_,_,h1=>h1.elim
 | _::_,_::_,[],_,h1=>h1.elim
theorem ORel.narrow {ρ ρ':Rho} {w w':World} {e:Emb} {o:Obj} {n:Nat} (hn:∀ b e,b<n→ρ' b=some e→ρ b=some e) (hd:∀ b e,ρ b=some e→b<n) (h0:ORel P B ρ w e o) (h1:ORel P B ρ' w' e o):ORel P B ρ w' e o:=by
 cases o with
 | cells cs st=>cases st with
  | ro=>exact ⟨h1.1,h0.2.narrow hn hd h1.2⟩
  | tip S fz ty=>exact ⟨h1.1,h0.2.1.narrow hn hd h1.2.1,h1.2.2⟩
  | sup=>exact CellFacts.narrow hn hd h0 h1
 | map es bs cl =>
  obtain ⟨_,ces0,q0,q1,_⟩:=h0
  obtain ⟨g0,ces,g1,g2,g3⟩:=h1
  exact ⟨g0,ces,g1,MR.narrow hn hd q1 g2,g3⟩
 | loop st pend nt tm ps asg body =>
  obtain ⟨_,r0,q0,q1⟩:=h0
  obtain ⟨g0,r,g1,g2⟩:=h1
  refine ⟨g0,r,g1,{ g2 with tmr:=⟨⟨g2.tmr.1.1,q1.tmr.1.2⟩,fun i v hi hv=>?_⟩ }⟩
  obtain ⟨u0,_,k0⟩:=q1.tmr.2 i v hi hv
  obtain ⟨u1,k1,k2⟩:=g2.tmr.2 i v hi hv
  exact ⟨u1,k1,k2.narrow hn (k0.scope hd)⟩
 | dfr=>exact h1
 | iter m s seen c =>
  obtain ⟨_,m0,_,_,q2⟩:=h0
  obtain ⟨g0,m',g1,gz,g2⟩:=h1
  refine ⟨g0,m',g1,gz,?_⟩
  cases m with
  | none=>exact g2
  | some b =>
   obtain ⟨e0,k1,_⟩:=q2
   obtain ⟨e',k2,k3⟩:=g2
   exact ⟨e',hn b e' (hd b e0 k1) k2,k3⟩
 | dead=>trivial
theorem Rel.cut {ρ ρ':Rho} {h h1:Heap} {w w':World} (r:Rel P B w0 ρ h w) (r1:Rel P B w0 ρ' h1 w') (hn:New ρ ρ' h.size) (hg:∀ b,b<h.size→h1.get b=h.get b):Rel P B w0 ρ h w':=by
 have nar:∀ b e,b<h.size→ρ' b=some e→ρ b=some e:=fun b e hb he=>(hn.2 b e he).resolve_right (by omega)
 refine ⟨r.dom,fun b e hb=>?_,?_,fun b e o h1' h2 h3=>?_,r.fresh,r1.below,r1.base,r.glob⟩
 ·obtain ⟨o,q1,q2⟩:=r.obj b e hb
  obtain ⟨o',g1,g2⟩:=r1.obj b e (hn.1 b e hb)
  rw [hg b (r.dom b e hb),q1] at g1
  cases g1
  exact ⟨o,q1,ORel.narrow nar r.dom q2 g2⟩
 ·intro b b' e e' o o' S q1 q2 q3 q4 q5 q6 q7 q8
  exact r1.sep b b' e e' o o' S (hn.1 _ _ q1) (hn.1 _ _ q2) q3 (by rw [hg b (r.dom _ _ q1)];exact q4) q5 (by rw [hg b' (r.dom _ _ q2)];exact q6) q7 q8
 ·exact r1.live b e o (hn.1 _ _ h1') (by rw [hg b (r.dom _ _ h1')];exact h2) h3
theorem close_sound {ρ ρ':Rho} {h h1:Heap} {w w':World} {v v':V} {h':Heap} {u:Value} (r:Rel P B w0 ρ h w) (r1:Rel P B w0 ρ' h1 w') (hn:New ρ ρ' h.size) (hm:HM { h with low:=h.size } h1) (hv:VR ρ' v u)
  (hc:closeCall h v h1=(v',h')):v'=v∧∃ ρ'',VR ρ'' v u∧Rel P B w0 ρ'' h' w'∧New ρ ρ'' h.size:=by
 unfold closeCall at hc
 split at hc
 ·rename_i hk
  cases hc
  refine ⟨rfl,ρ,?_,r.cut r1 hn (fun b hb=>hm.get b (by omega) hb),New.refl _ _⟩
  exact hv.narrow (fun b e hb he=>(hn.2 b e he).resolve_right (by omega)) hk.2
 ·cases hc
  exact ⟨rfl,ρ',hv,r1.reset _,hn⟩
def resSem (a:Array Value):ResultVar→Sem Value
 | .tmp t=>pure (a.getD t undef)
 | .cell p t=>do loadVar t (←asAddr (a.getD p undef))
theorem results_eq (fn:Func) (a:Array Value):results fn a=(do let vs ←fn.results.mapM (resSem a);pure (if h:vs.size=1 then vs[0] else .tuple vs)):=by
 unfold results
 congr 1
theorem res_sound {ρ:Rho} {h:Heap} {w:World} (r:Rel P B w0 ρ h w) {nt:Nat} {tm:TM} {a:Array Value} (ht:TMR ρ nt tm a) {x:ResultVar} {y:Res} (hy:resC P x=some y) {v:V} (hv:resA tm h y=some v) :
  ∃ u,(resSem a x).run P w=.ok u w∧VR ρ v u:=by
 unfold resC at hy
 split at hy
 ·split at hy
  ·cases hy
  rename_i hne
  cases hy
  simp only [resA] at hv
  obtain ⟨u,q1,q2⟩:=ht.2 _ _ hne hv
  exact ⟨u,by simp [resSem,q1],q2⟩
 ·split at hy
  ·cases hy
  rename_i p t hne
  split at hy
  ·rename_i g hg
   cases hy
   simp only [resA] at hv
   split at hv
   ·rename_i q hq
    obtain ⟨u,q1,q2⟩:=ht.2 _ _ hne hq
    obtain ⟨ad,had,u',g1,g2⟩:=load_sound (P:=P) r hg q2 hv
    subst had
    exact ⟨u',by simp [resSem,q1,asAddr,g1],g2⟩
   ·cases hv
  ·cases hy
theorem ress_sound {ρ:Rho} {h:Heap} {w:World} (r:Rel P B w0 ρ h w) {nt:Nat} {tm:TM} {a:Array Value} (ht:TMR ρ nt tm a):∀ {x:List ResultVar} {y:List Res},ressC P x=some y→∀ {v:List V},ressA tm h y=some v →
  ∃ u,(x.mapM (m:=Sem) (resSem a)).run P w=.ok u w∧VRs ρ v u
 | [],y,hy,v,hv=>by cases hy;cases hv;exact ⟨[],rfl,.nil⟩
 | x::xs,y,hy,v,hv=>by
  unfold ressC at hy
  split at hy
  ·rename_i p q hp hq
   cases hy
   unfold ressA at hv
   split at hv
   ·rename_i s t hs ht'
    cases hv
    obtain ⟨u,g1,g2⟩:=res_sound (P:=P) r ht hp hs
    obtain ⟨us,g3,g4⟩:=ress_sound r ht hq ht'
    refine ⟨u::us,?_,.cons _ _ _ _ g2 g4⟩
    rw [List.mapM_cons]
    simp only [Sem.run_bind,g1,Result.andThen_ok,g3,Sem.run_pure]
   ·cases hv
  ·cases hy
theorem results_sound {ρ:Rho} {h:Heap} {w:World} (r:Rel P B w0 ρ h w) {fn:Func} {nt:Nat} {tm:TM} {a:Array Value} (ht:TMR ρ nt tm a) {rs:List Res} (hr:ressC P fn.results.toList=some rs) {v:List V} (hv:ressA tm h rs=some v) :
  ∃ u,(results fn a).run P w=.ok u w∧VR ρ (oneOf v) u:=by
 obtain ⟨us,q1,q2⟩:=ress_sound (P:=P) r ht hr hv
 have hm:=arrMapM (P:=P) (w:=w) (resSem a) fn.results q1
 refine ⟨if h:us.toArray.size=1 then us.toArray[0] else .tuple us.toArray,?_,?_⟩
 ·rw [results_eq]
  simp only [Sem.run_bind,hm,Result.andThen_ok,Sem.run_pure]
 ·cases q2 with
  | nil=>simp only [oneOf];exact .tuple _ _ .nil
  | cons v u vs us hv1 hvs =>
   cases hvs with
   | nil=>simpa [oneOf] using hv1
   | cons v2 u2 vs us hv2 hvs =>
    simp only [oneOf,List.size_toArray,List.length_cons]
    rw [dif_neg (by omega)]
    exact .tuple _ _ (.cons _ _ _ _ hv1 (.cons _ _ _ _ hv2 hvs))
theorem args_sound {ρ:Rho}:∀ {vs:List V} {us:List Value} (hv:VRs ρ vs us) (i:Nat) (tm:TM) (A:Array Value),(∀ j v,tm.get j=some v→∃ u,A[j]? = some u∧VR ρ v u)→(∀ j u,us[j]? = some u→A[i+j]? = some u) →
  ∀ j v,(argsTM i vs tm).get j=some v→∃ u,A[j]? = some u∧VR ρ v u
 | _,_,.nil,i,tm,A,h0,h1=>h0
 | _,_,.cons v u vs us hv ht,i,tm,A,h0,h1=>by
  unfold argsTM
  refine args_sound ht (i+1) (tm.set i v) A (fun j v' hj=>?_) (fun j u' hj=>?_)
  ·rw [TM.get_set] at hj
   by_cases e:j=i
   ·rw [if_pos e] at hj
    cases hj
    subst e
    exact ⟨u,by simpa using h1 0 u (by simp),hv⟩
   ·rw [if_neg e] at hj
    exact h0 j v' hj
  ·have:=h1 (j+1) u' (by simpa using hj)
   rwa [show i+(j+1)=i+1+j by omega] at this
theorem funcC_parts {fn:Func} {af:AFunc} (haf:funcC P fn=some af):∃ c ac rs,fn.body=some c∧(fn.name == "runtime.NumGoroutine")=false∧fn.params.size+fn.nfree≤fn.ntmps∧fn.params.size+fn.nfree≤DX∧codeC P fn.ntmps c=some ac∧ressC P fn.results.toList=some rs∧af=⟨fn.params.size+fn.nfree,rs,ac⟩:=by
 unfold funcC at haf
 split at haf
 ·rename_i c hbody
  split at haf
  ·cases haf
  ·rename_i hname
   split at haf
   ·rename_i hnt
    split at haf
    ·rename_i ac rs hac hrs
     cases haf
     exact ⟨c,ac,rs,hbody,by simpa using hname,hnt.1,hnt.2,hac,hrs,rfl⟩
    ·cases haf
   ·cases haf
 ·cases haf
theorem enters_of {f:FuncId} {fn:Func} (hf:P.funcs[f]? = some fn) {c:Code} (hbody:fn.body=some c) (hname:(fn.name == "runtime.NumGoroutine")=false) (args:Array Value) (w:World):(callFunc f args).run P w=.ok (.enter f args) w:=by
 simp only [callFunc,Sem.run_bind,run_program,Result.andThen_ok,hf]
 simp only [hname,Bool.false_eq_true,if_false,hbody,Option.isNone_some,Sem.run_pure]
theorem argsTM_DX:∀ (vs:List V) (i:Nat) (tm:TM),i+vs.length≤DX→(argsTM i vs tm).get DX=tm.get DX
 | [],_,_,_=>rfl
 | v::vs,i,tm,h=>by
  simp only [List.length_cons] at h
  unfold argsTM
  rw [argsTM_DX vs (i+1) _ (by omega),TM.get_set_ne _ _ _ _ (by omega)]
theorem start_act {ρ:Rho} (hg:Glob ρ) {args:List V} {us:Array Value} (hv:VRs ρ args us.toList) {nt:Nat} (h1:args.length≤nt) (h2:args.length≤DX) (ro:Option Nat):ActR ρ nt ro (argsTM 0 args .nil) { tmps:=us++Array.replicate (nt-us.size) undef,defers:=[] }:=by
 have hul:us.size=args.length:=by
  have:=hv.length
  simp only [Array.length_toList] at this
  omega
 refine ⟨⟨⟨by simp;omega,hg⟩,fun i v _=>?_⟩,fun _=>?_⟩
 ·refine args_sound hv 0 .nil _ (fun j v' hj=>by rw [TM.get_nil] at hj;cases hj) (fun j u hj=>?_) i v
  have hj':us[j]? = some u:=by simpa using hj
  have hlt:j<us.size:=(Array.getElem?_eq_some_iff.1 hj').1
  rw [Nat.zero_add,Array.getElem?_append_left hlt]
  exact hj'
 ·have:deferred (argsTM 0 args .nil)=[]:=by
   unfold deferred
   rw [argsTM_DX _ _ _ (by omega),TM.get_nil]
  rw [this];exact .nil
structure TableOk (P:Program) (C:Cfg):Prop where
 tab:∀ f af,C.F f=some af→∃ fn,P.funcs[f]? = some fn∧funcC P fn=some af
 idle:∀ f,C.I f=true→∀ (args:Array Value) (w:World),(callFunc f args).run P w=.ok (.enter f args) w∧∀ n,CallsDIn Fence.wide n P f args .returning w fun e u' w'=>u'=.returning∧(∃ v,e=.returned v)∧w'=w
theorem setPs_sound {ρ:Rho} {nt:Nat}:∀ (ps:List Nat) (vs:List V) (us:List Value) (tm tm1:TM) (A:Array Value),setPs ps vs tm=some tm1→VRs ρ vs us→TMR ρ nt tm A→(∀ p∈ps,dstOk nt (some p)=true) →
  ps.length=us.length∧TMR ρ nt tm1 ((ps.zip us).foldl (fun t p=>t.setIfInBounds p.1 p.2) A)
 | [],[],_,tm,tm1,A,hs,.nil,ht,hp=>by cases hs;exact ⟨rfl,ht⟩
 | p::ps,v::vs,_,tm,tm1,A,hs,.cons _ u _ us hv hvs,ht,hp=>by
  simp only [setPs] at hs
  have h1:=TMR.put (a:=⟨A,[]⟩) ht (hp p List.mem_cons_self) hv
  obtain ⟨q1,q2⟩:=setPs_sound ps vs us (tm.set p v) tm1 _ hs hvs h1 (fun q hq=>hp q (List.mem_cons_of_mem _ hq))
  exact ⟨by simp [q1],q2⟩
 | [],_::_,_,_,_,_,hs,_,_,_=>by simp [setPs] at hs
 | _::_,[],_,_,_,_,hs,_,_,_=>by simp [setPs] at hs
theorem yield_sound {exec:LoopF} (he:LoopOk P B w0 exec) (hlm:LoopHM exec) {b:Nat} {vs:List V} {h h':Heap} {v:V} (hx:yieldBody exec b vs h=some (v,h')) {ρ:Rho} {w:World} {us:Array Value} {e:Emb} (r:Rel P B w0 ρ h w) (hb:ρ b=some e) (hv:VRs ρ vs us.toList):YieldSnd P B w0 ρ e.blk us w h v h':=by
 unfold yieldBody at hx
 split at hx
 ·rename_i st0 pend0 nt tm ps asg body hg
  obtain ⟨o,q1,q2⟩:=r.obj b e hb
  rw [hg] at q1
  cases q1
  obtain ⟨hB,rec,hrec,hl⟩:=q2
  split at hx
  ·rename_i tm1 hset
   obtain ⟨hlen,ht1⟩:=setPs_sound ps vs us.toList tm tm1 rec.tmps hset hv hl.tmr hl.psok
   have hsz:us.size=rec.params.size:=by
    have:rec.params.toList.length=us.toList.length:=by rw [hl.pars];exact hlen
    simpa using this.symm
   have hfold:((rec.params.zip us).foldl (fun tmps (t,a)=>tmps.setIfInBounds t a) rec.tmps)=(ps.zip us.toList).foldl (fun t p=>t.setIfInBounds p.1 p.2) rec.tmps:=by
    rw [←Array.foldl_toList,Array.toList_zip,hl.pars]
   split at hx
   ·rename_i tm2 h2 hex1
    have hsz2:=(hlm _ _ _ _ _ _ hex1).size
    split at hx
    ·rename_i p1 n1 t1 q1' a1 b1 hg2
     split at hx
     ·rename_i ex tmx h3 hex2
      have hsz3:h2.size≤h3.size:=(hlm _ _ _ _ _ _ hex2).size
      refine ⟨_,_,_,_,run_yield hrec hsz,fun n=>?_⟩
      refine roundIn_of_wpIn (F:=Fence.wide) trivial ?_
      rw [hfold]
      have w1:=(he (some e.blk) n nt rec.assign asg hl.casg (.inr hl.nda) ρ tm1 { tmps:=(ps.zip us.toList).foldl (fun t p=>t.setIfInBounds p.1 p.2) rec.tmps,defers:=[] } h w ⟨ht1,fun h=>by cases h⟩ r _ _ _ hex1).1
      refine wpIn_mono (F:=Fw (some e.blk)) w1 ?_
      rintro ex1 a' w' ⟨hexr,ρ1,k1,k2,k3⟩
      cases hexr
      have hb1:=k3.1 _ _ hb
      obtain ⟨o2,m1,m2⟩:=k2.obj b e hb1
      rw [hg2] at m1
      cases m1
      obtain ⟨_,rec1,hrec1,hl1⟩:=m2
      have hlt1:e.blk<w'.heap.size:=(Array.getElem?_eq_some_iff.1 hrec1).1
      refine ⟨_,run_beginRound hrec1 hl1.state,?_⟩
      have k4:Rel P B w0 ρ1 (h2.put b (.loop .busy p1 n1 t1 q1' a1 b1)) (w'.putObj e.blk (.loop { rec1 with state:=.busy })) :=
       k2.setOwn hb1 hg2 rfl (.inl (by simp [Obj.sups])) (fun S hS=>by cases hS;rfl) hB _ ⟨hB,{ rec1 with state:=.busy },by simp [hlt1],{ hl1 with state:=rfl }⟩
      have w2:=(he (some e.blk) n nt rec.body body hl.cbody (.inr hl.ndb) ρ1 tm2 a' _ _ k1 k4 _ _ _ hex2).1
      refine wpIn_mono (F:=Fw (some e.blk)) w2 ?_
      rintro ex2 a'' w'' ⟨hexr2,ρ2,g1,g2,g3⟩
      have hb2:=g3.1 _ _ hb1
      have hnew:New ρ ρ2 h.size:=k3.trans g3 hsz2
      split at hx
      ·rename_i st2 pend2 n2 t2 q2' a2 b2 hg3
       obtain ⟨o3,m1,m2⟩:=g2.obj b e hb2
       rw [hg3] at m1
       cases m1
       obtain ⟨_,rec2,hrec2,hl2⟩:=m2
       have hlt2:e.blk<w''.heap.size:=(Array.getElem?_eq_some_iff.1 hrec2).1
       have fin:∀ (jump:Option Code) (st:LoopState) (pend:Option Ex),(if jump.isNone then LoopState.ready else .done)=st→jump=pendC pend →
         Rel P B w0 ρ2 (h3.put b (.loop st pend n2 t2 q2' a2 b2)) (w''.putObj e.blk (.loop { rec2 with state:=if jump.isNone then .ready else .done,pending:=jump })):=by
        intro jump st pend h1 h2
        exact g2.setOwn hb2 hg3 rfl (.inl (by simp [Obj.sups])) (fun S hS=>by cases hS;rfl) hB _ ⟨hB,{ rec2 with state:=if jump.isNone then .ready else .done,pending:=jump },by simp [hlt2],{ hl2 with state:=h1,pend:=h2 }⟩
       cases hexr2 with
       | normal =>
        cases hx
        exact ⟨_,_,run_endRound none hrec2,ρ2,.bool true,fin none .ready none rfl rfl,hnew⟩
       | exit id =>
        cases hx
        exact ⟨_,_,run_endRound (some (.exit id)) hrec2,ρ2,.bool false,fin (some (.exit id)) .done (some (.exit id)) rfl rfl,hnew⟩
       | ret =>
        cases hx
        exact ⟨_,_,run_endRound (some .ret) hrec2,ρ2,.bool false,fin (some .ret) .done (some .ret) rfl rfl,hnew⟩
      ·cases hx
     ·cases hx
    ·cases hx
   ·cases hx
  ·cases hx
 ·cases hx
theorem defers_sound {C:Cfg} (hT:TableOk P C) {exec:LoopF} (he:LoopOk P B w0 exec) (hlm:LoopHM exec) {fn:Func} {tmps:Array Value} {R:Ending→World→Prop} {n:Nat}:∀ (l:List V) {ds:List Deferred} {ρ:Rho} {h h2:Heap} {w:World},DefR ρ l ds→Rel P B w0 ρ h w→runDefers C exec l h=some h2 →
  (∀ ρ' w',Rel P B w0 ρ' h2 w'→New ρ ρ' h.size→∃ v,(results fn tmps).run P w'=.ok v w'∧R (.returned v) w')→LeavesInM Fence.wide n P fn tmps R ds .returning w
 | _,_,ρ,h,h2,w,.nil,r,hx,hq=>by
  simp only [runDefers] at hx
  cases hx
  exact hq ρ w r (New.refl _ _)
 | _,_,ρ,h,h2,w,.mark b e rr x ds hb hr t,r,hx,hq=>by
  unfold runDefers at hx
  split at hx
  ·rename_i hg
   obtain ⟨o,q1,q2⟩:=r.obj b e hb
   rw [hg] at q1
   cases q1
   obtain ⟨hB,hd⟩:=q2
   subst hr
   have r2:Rel P B w0 ρ (h.put b .dead) (w.putObj e.blk (.deferred none)):=r.setOwn hb hg rfl (.inr rfl) (fun S hS=>by cases hS) hB _ trivial
   exact ⟨by simp,.inl ⟨e.blk,_,rfl,run_takeDeferred hd,defers_sound hT he hlm x t r2 hx hq⟩⟩
  ·cases hx
 | _, _, ρ,h,h2,w,.call f vs cap as x ds hv t,r,hx,hq=>by
  unfold runDefers at hx
  split at hx
  ·rename_i hidle
   obtain ⟨q1,q2⟩:=hT.idle f hidle (as++cap) w
   refine ⟨by simp,.inr ⟨fw_depth (ro:=none),.func f,cap,f,as++cap,rfl,q1,fun _ _=>trivial,?_⟩⟩
   refine (q2 (n-1)).mono fun e u' w'=>?_
   rintro ⟨rfl,⟨v,rfl⟩,rfl⟩
   exact defers_sound hT he hlm x t r hx hq
  ·split at hx
   ·rename_i af haf
    split at hx
    ·rename_i hlen
     split at hx
     ·cases hx
     ·rename_i ex tm h1 hne hex
      split at hx
      ·rename_i rs hdef hres
       obtain ⟨fn',hf,hfc⟩:=hT.tab f af haf
       obtain ⟨c,ac,rs',hbody,hname,hnt,hdx,hac,hrs,rfl⟩:=funcC_parts hfc
       simp only at hlen hex hres
       have hsz:=(hlm _ _ _ _ _ _ hex).size
       refine ⟨by simp,.inr ⟨fw_depth (ro:=none),.func f,cap,f,as++cap,rfl,enters_of hf hbody hname _ _,fun _ _=>trivial,?_⟩⟩
       have hw:=(he none (n-1) fn'.ntmps c ac hac (.inl rfl) ρ (argsTM 0 vs .nil) { tmps:=(as++cap)++Array.replicate (fn'.ntmps-(as++cap).size) undef,defers:=[] } h w (start_act r.glob hv (by omega) (by omega) none) r _ _ _ hex).1
       refine (callsDIn_of_wp (F:=Fence.wide) (R:=fun e w'=>(∃ v,e=.returned v)∧∃ ρ',Rel P B w0 ρ' h1 w'∧New ρ ρ' h.size) hf hbody trivial ?_).mono fun e u' w'=>?_
       ·refine wpIn_mono (F:=Fence.wide) hw ?_
        rintro e' a' w' ⟨hexr,ρ',k1,k2,k3⟩
        have fin:a'.defers=[]∧∃ v,(results fn' a'.tmps).run P w'=.ok v w'∧((∃ u,Ending.returned v=.returned u)∧∃ ρ',Rel P B w0 ρ' h1 w'∧New ρ ρ' h.size):=by
         have hdr:=k1.2 rfl
         rw [hdef] at hdr
         obtain ⟨u,g1,_⟩:=results_sound (P:=P) k2 k1.1 hrs hres
         refine ⟨?_,u,g1,⟨u,rfl⟩,ρ',k2,k3⟩
         generalize a'.defers=D at hdr
         cases hdr;rfl
        cases hexr with
        | normal=>exact fin
        | exit id=>exact absurd rfl (hne id)
        | ret=>exact fin
       ·rintro ⟨rfl,⟨v,rfl⟩,ρ',k2,k3⟩
        exact defers_sound hT he hlm x (t.mono k3.1) k2 hx (fun ρ'' w'' g1 g2=>hq ρ'' w'' g1 (k3.trans g2 hsz))
      ·cases hx
     ·cases hx
    ·cases hx
   ·cases hx
theorem body_sound {C:Cfg} (hT:TableOk P C) {exec:LoopF} (he:LoopOk P B w0 exec) (hlm:LoopHM exec) {f:FuncId} {fn:Func} {af:AFunc} (hf:P.funcs[f]? = some fn) (haf:funcC P fn=some af)
  {args:List V} {h:Heap} {v:V} {h':Heap} (hx:callBody C exec af args h=some (v,h')) {ρ:Rho} {w:World} {us:Array Value} (r:Rel P B w0 ρ h w) (hv:VRs ρ args us.toList):CallSnd P B w0 ρ f us w h v h':=by
 obtain ⟨c,ac,rs,hbody,hname,hnt,hdx,hac,hrs,rfl⟩:=funcC_parts haf
 unfold callBody at hx
 split at hx
 ·rename_i hlen
  simp only at hlen hx
  refine .inl ⟨enters_of hf hbody hname _ _,fun n=>?_⟩
  split at hx
  ·cases hx
  ·rename_i ex tm h1 hne hex
   split at hx
   ·rename_i h2 hdefs
    split at hx
    ·rename_i vs hvs
     have hm1:=hlm _ _ _ _ _ _ hex
     have hm2:=HM.defers (C:=C) hlm _ hdefs
     refine callsIn_of_wp_marks (F:=Fence.wide) hf hbody trivial ?_
     have hw:=(he none n fn.ntmps c ac hac (.inl rfl) ρ (argsTM 0 args .nil) { tmps:=us++Array.replicate (fn.ntmps-us.size) undef,defers:=[] } _ w (start_act r.glob hv (by omega) (by omega) none) (r.reset h.size) _ _ _ hex).1
     refine wpIn_mono (F:=Fence.wide) hw ?_
     rintro e a' w' ⟨hexr,ρ',q1,q2,q3⟩
     have fin:LeavesInM Fence.wide n P fn a'.tmps (RetE P B w0 ρ h.size v h') a'.defers .returning w':=by
      refine defers_sound hT he hlm _ (q1.2 rfl) q2 hdefs fun ρ2 w2 k1 k2=>?_
      obtain ⟨u,g1,g2⟩:=results_sound (P:=P) k1 (q1.1.mono k2.1) hrs hvs
      refine ⟨u,g1,?_⟩
      have hcl:closeCall h (oneOf vs) h2=(v,h'):=Option.some.inj hx
      obtain ⟨e1,ρ'',g3,g4,g5⟩:=close_sound r k1 (q3.trans k2 hm1.size) (hm1.trans hm2) g2 hcl
      subst e1
      exact ⟨ρ'',g3,g4,g5⟩
     cases hexr with
     | normal=>exact fin
     | exit id=>exact absurd rfl (hne id)
     | ret=>exact fin
    ·cases hx
   ·cases hx
  ·cases hx
 ·cases hx
def SumOk (P:Program) (B:Nat) (w0:World) (C:Cfg):Prop :=
 ∀ f args h v h',C.S f args h=some (some (v,h'))→HM h h'∧∀ (ρ:Rho) (w:World) (us:Array Value),Rel P B w0 ρ h w→VRs ρ args us.toList→CallSnd P B w0 ρ f us w h v h'
theorem run_sound {C:Cfg} (hT:TableOk P C) (hS:SumOk P B w0 C):∀ n,CallOk P B w0 (run C n).1∧LoopOk P B w0 (run C n).2
 | 0=>by
  refine ⟨⟨?_,?_⟩,?_⟩
  ·intro f args h v h' hx;simp [run] at hx
  ·intro b args h v h' hx;simp [run] at hx
  ·intro ro n nt c ac hac hnd ρ tm a h w ht r ex tm' h' hx;simp [run] at hx
 | n + 1=>by
  obtain ⟨h1,h2⟩:=run_sound hT hS n
  obtain ⟨m1,m2⟩:=HM.run C (fun f args h v h' hx=>(hS f args h v h' hx).1) n
  have he:LoopOk P B w0 (execC (run C n).1 (run C n).2):=fun ro m nt c ac hac hnd ρ tm a h w ht r ex tm' h' hx=>code_sound h1 m1 h2 m2 ro m nt c ac hac hnd ρ tm a h w ht r ex tm' h' hx
  have hlm:LoopHM (execC (run C n).1 (run C n).2):=fun c tm h ex tm' h' hx=>HM.exec m1 m2 c hx
  refine ⟨⟨?_,?_⟩,he⟩
  ·intro f args h v h' hx ρ w us r hv
   simp only [run,runF] at hx
   split at hx
   ·rename_i q hq
    subst hx
    exact (hS f args h v h' hq).2 ρ w us r hv
   ·split at hx
    ·rename_i af haf
     obtain ⟨fn,g1,g2⟩:=hT.tab f af haf
     exact body_sound hT he hlm g1 g2 hx r hv
    ·cases hx
  ·intro b args h v h' hx ρ w us e r hb hv
   simp only [run] at hx
   exact yield_sound he hlm hx r hb hv
end
end Abs
end Go.Proofs.YthgcjbniipfnbaaGreatDoor
namespace Go.Proofs.YthgcjbniipfnbaaGreatDoor
namespace Abs
set_option linter.unusedVariables false
set_option linter.unusedSimpArgs false
open Go.RowKit
def noRho:Rho:=fun _=>none
def rhoG:Rho:=fun g=>if g<GN then some ⟨g,0,0⟩ else none
noncomputable def deadT (k:Nat):HT:=Nat.rec (motive:=fun _=>HT) HT.nil (fun n t=>t.set n .dead) k
theorem deadT_get:∀ (k n:Nat),(deadT k).get n=if n<k then some .dead else none
 | 0,n=>by rw [if_neg (by omega)];exact HT.get_nil n
 | k+1,n=>by
  show ((deadT k).set k .dead).get n=_
  rw [HT.get_set,deadT_get k n]
  by_cases h:n=k
  ·rw [if_pos h,if_pos (by omega)]
  ·rw [if_neg h]
   by_cases h2:n<k
   ·rw [if_pos h2,if_pos (by omega)]
   ·rw [if_neg h2,if_neg (by omega)]
noncomputable def gObjs:List (Nat × List V)→HT
 | []=>deadT GN
 | (g,cs)::r=>(gObjs r).set g (.cells cs .ro)
noncomputable def baseH (l:List (Nat × List V)):Heap:=⟨gObjs l,GN,GN⟩
def GW (l:List (Nat × List V)) (w:World):Prop:=∀ p∈l,p.1<w.heap.size∧CellFacts noRho w ⟨p.1,0,0⟩ p.2
theorem baseH_get:∀ (l:List (Nat × List V)) (hl:∀ p∈l,p.1<GN) (b:Nat),(b<GN→(baseH l).get b=some .dead∨∃ p∈l,p.1=b∧(baseH l).get b=some (.cells p.2 .ro))∧(GN≤b→(baseH l).get b=none)
 | [],hl,b=>by
  have:(baseH []).get b=(deadT GN).get b:=rfl
  rw [this,deadT_get]
  exact ⟨fun h=>.inl (by rw [if_pos h]),fun h=>by rw [if_neg (by omega)]⟩
 | (g,cs)::r,hl,b=>by
  have hg:g<GN:=hl (g,cs) List.mem_cons_self
  obtain ⟨h1,h2⟩:=baseH_get r (fun p hp=>hl p (List.mem_cons_of_mem _ hp)) b
  have e:(baseH ((g,cs)::r)).get b=if b=g then some (.cells cs .ro) else (baseH r).get b:=HT.get_set _ _ _ _
  rw [e]
  refine ⟨fun h=>?_,fun h=>by rw [if_neg (by omega)];exact h2 h⟩
  by_cases hb:b=g
  ·rw [if_pos hb];exact .inr ⟨(g,cs),List.mem_cons_self,hb.symm,rfl⟩
  ·rw [if_neg hb]
   rcases h1 h with q | ⟨p,q1,q2,q3⟩
   ·exact .inl q
   ·exact .inr ⟨p,List.mem_cons_of_mem _ q1,q2,q3⟩
theorem rhoG_some {b:Nat} {e:Emb} (h:rhoG b=some e):b<GN∧e=⟨b,0,0⟩:=by
 unfold rhoG at h
 by_cases hb:b<GN
 ·rw [if_pos hb] at h;cases h;exact ⟨hb,rfl⟩
 ·rw [if_neg hb] at h;cases h
theorem noRho_le' (ρ:Rho):RLe noRho ρ:=by intro b e h;cases h
theorem rel_base {P:Program} (l:List (Nat × List V)) (hl:∀ p∈l,p.1<GN) (w:World) (hw:GW l w):Rel P w.heap.size w rhoG (baseH l) w where
 dom:=by
  intro b e h
  exact (rhoG_some h).1
 obj:=by
  intro b e h
  obtain ⟨hb,rfl⟩:=rhoG_some h
  rcases (baseH_get l hl b).1 hb with q | ⟨p,q1,rfl,q3⟩
  ·exact ⟨_,q,trivial⟩
  ·obtain ⟨g1,g2⟩:=hw p q1
   exact ⟨_,q3,g1,g2.mono (noRho_le' _)⟩
 sep:=by
  intro b b' e e' o o' S h1 h2 h3 h4 h5
  obtain ⟨hb,rfl⟩:=rhoG_some h1
  rcases (baseH_get l hl b).1 hb with q | ⟨p,q1,rfl,q3⟩
  ·rw [h4] at q;cases q;cases h5
  ·rw [h4] at q3;cases q3;cases h5
 live:=by
  intro b e o h1 h2 h3
  obtain ⟨hb,rfl⟩:=rhoG_some h1
  rcases (baseH_get l hl b).1 hb with q | ⟨p,q1,rfl,q3⟩
  ·rw [h2] at q;cases q;cases h3
  ·exact (hw p q1).1
 fresh:=fun b hb=>(baseH_get l hl b).2 hb
 below:=Below.refl _ _
 base:=Nat.le_refl _
 glob:=fun g hg=>by unfold rhoG;rw [if_pos hg]
section
variable {P:Program} {B:Nat} {w0:World}
theorem Rel.below_keep {ρ:Rho} {h:Heap} {w w':World} (r:Rel P B w0 ρ h w) (hb:Below w.heap.size w w'):Rel P B w0 ρ h w':=by
 refine ⟨r.dom,fun b e hbe=>?_,r.sep,fun b e o h1 h2 h3=>Nat.lt_of_lt_of_le (r.live b e o h1 h2 h3) hb.size,r.fresh,r.below.trans ⟨hb.os,hb.tape,hb.output,hb.size,fun k hk=>hb.block k (Nat.lt_of_lt_of_le hk r.base)⟩,Nat.le_trans r.base hb.size,r.glob⟩
 obtain ⟨o,q1,q2⟩:=r.obj b e hbe
 refine ⟨o,q1,?_⟩
 cases ha:o.alive with
 | false=>cases o <;> simp_all [Obj.alive];trivial
 | true=>exact q2.heap (hb.block _ (r.live b e o hbe q1 ha))
def Gl (l:List (Nat × List V)) (h:Heap):Prop:=∀ g,g<GN→h.get g=(baseH l).get g
theorem gw_of {l:List (Nat × List V)} (hl:∀ p∈l,p.1<GN) (hc:∀ p∈l,V.scopeds 0 p.2=true) (hn:∀ p∈l,(baseH l).get p.1=some (.cells p.2 .ro)) {ρ:Rho} {h:Heap} {w:World} (r:Rel P B w0 ρ h w) (hg:Gl l h):GW l w:=by
 intro p hp
 have e:=r.glob p.1 (hl p hp)
 obtain ⟨o,q1,q2⟩:=r.obj _ _ e
 rw [hg _ (hl p hp),hn p hp] at q1
 cases q1
 refine ⟨r.live _ _ _ e (by rw [hg _ (hl p hp),hn p hp]) rfl,fun i v hi=>?_⟩
 obtain ⟨u,g1,g2⟩:=q2.2 i v hi
 refine ⟨u,g1,g2.narrow (n:=0) (fun b e hb=>absurd hb (Nat.not_lt_zero _)) ?_⟩
 have:∀ (x:List V),V.scopeds 0 x=true→∀ (i:Nat) (v:V),x[i]? = some v→V.scopd 0 v=true:=by
  intro x
  induction x with
  | nil=>intro _ i v h;simp at h
  | cons a x ih =>
   intro hx i v h
   simp only [V.scopeds,Bool.and_eq_true] at hx
   cases i with
   | zero=>simp at h;subst h;exact hx.1
   | succ i=>exact ih hx.2 i v (by simpa using h)
 exact this _ (hc p hp) i v hi
theorem frame_call {C:Cfg} (l:List (Nat × List V)) (hl:∀ p∈l,p.1<GN) (hc:∀ p∈l,V.scopeds 0 p.2=true) (hn:∀ p∈l,(baseH l).get p.1=some (.cells p.2 .ro)) (hT:TableOk P C) (hS:∀ B w0,SumOk P B w0 C) {n:Nat} {f:Nat} {args:List V} {v:V} {h1:Heap} (hx:(run C n).1 (.fn f) args (baseH l)=some (v,h1)) (ha:V.scopeds 0 args=true) (hv:v.scopd 0=true)
  {ρ:Rho} {h:Heap} {w:World} {us:Array Value} (r:Rel P B w0 ρ h w) (hg:Gl l h) (hr:VRs ρ args us.toList):CallSnd P B w0 ρ f us w h v h:=by
 have hr0:VRs rhoG args us.toList:=hr.narrow (n:=0) (fun b e hb=>absurd hb (Nat.not_lt_zero _)) ha
 have snd:=(run_sound hT (hS w.heap.size w) n).1.fn f args (baseH l) v h1 hx rhoG w us (rel_base l hl w (gw_of hl hc hn r hg)) hr0
 have conv:∀ u w',Ret P w.heap.size w rhoG (baseH l).size v h1 u w'→Ret P B w0 ρ h.size v h u w':=by
  rintro u w' ⟨ρ',q1,q2,q3⟩
  exact ⟨ρ,q1.narrow (n:=0) (fun b e hb=>absurd hb (Nat.not_lt_zero _)) hv,r.below_keep q2.below,New.refl _ _⟩
 rcases snd with ⟨q1,q2⟩ | ⟨u,w',q1,q2⟩
 ·refine .inl ⟨q1,fun m=>?_⟩
  obtain ⟨g1,g2⟩:=q2 m
  refine ⟨g1,fun cs hcs=>?_⟩
  obtain ⟨e,w',fr,q3,q4,q5,q6⟩:=g2 cs hcs
  refine ⟨e,w',fr,?_,q4,q5,q6⟩
  cases e with
  | returned u=>exact conv u w' q3
  | panicked c=>exact q3.elim
  | outgrown=>exact q3.elim
 ·exact .inr ⟨u,w',q1,conv u w' q2⟩
end
end Abs
end Go.Proofs.YthgcjbniipfnbaaGreatDoor
namespace Go.Proofs.YthgcjbniipfnbaaGreatDoor
namespace Abs
noncomputable section
set_option linter.unusedVariables false
set_option linter.unusedSimpArgs false
open Go.RowKit
def CallLe (c c':CallF):Prop:=∀ f args h r,c f args h=some r→c' f args h=some r
def LoopLe (c c':LoopF):Prop:=∀ a tm h r,c a tm h=some r→c' a tm h=some r
section
variable {c c':CallF} {L L':LoopF}
theorem opA_mono (hc:CallLe c c') {k:K} {tm:TM} {h:Heap} {r:V × Heap} (hx:opA c k tm h=some r):opA c' k tm h=some r:=by
 unfold opA at hx ⊢
 split at hx
 ·split at hx
  ·exact hc _ _ _ _ hx
  ·exact hc _ _ _ _ hx
  ·cases hx
 ·split at hx
  ·split at hx
   ·exact hc _ _ _ _ hx
   ·split at hx
    ·split at hx
     ·exact hc _ _ _ _ hx
     ·cases hx
    ·cases hx
  ·cases hx
 ·split at hx
  ·split at hx
   ·exact hc _ _ _ _ hx
   ·cases hx
  ·cases hx
 ·exact hx
theorem stepOp_mono (hc:CallLe c c') {o:AOp} {tm:TM} {h:Heap} {r:TM × Heap} (hx:stepOp c o tm h=some r):stepOp c' o tm h=some r:=by
 unfold stepOp at hx ⊢
 split at hx
 ·rename_i hw
  split at hx
  ·rename_i q;rw [opA_mono hc q];exact hx
  ·cases hx
 ·exact hx
 ·cases hx
theorem runOps_mono (hc:CallLe c c'):∀ (l:List AOp) {tm:TM} {h:Heap} {r:TM × Heap},runOps c l tm h=some r→runOps c' l tm h=some r
 | [],_,_,_,hx=>hx
 | o::l,tm,h,r,hx=>by
  unfold runOps at hx ⊢
  split at hx
  ·rename_i q;rw [stepOp_mono hc q];exact runOps_mono hc l hx
  ·cases hx
theorem trace_mono (hc:CallLe c c'):∀ (l:List DOp) {tm:TM} {h:Heap} {r:List (DOp × Log) × TM × Heap},traceDraw c l tm h=some r→traceDraw c' l tm h=some r
 | [],_,_,_,hx=>hx
 | o::l,tm,h,r,hx=>by
  unfold traceDraw at hx ⊢
  split at hx
  ·rename_i hw
   split at hx
   ·rename_i q;rw [trace_mono hc l q];exact hx
   ·cases hx
  ·rename_i hw
   split at hx
   ·rename_i q
    rw [opA_mono hc q]
    simp only
    split at hx
    ·rename_i q2;rw [trace_mono hc l q2];exact hx
    ·cases hx
   ·cases hx
  ·cases hx
theorem runDraw_mono (hc:CallLe c c') {l:List DOp} {tm:TM} {h:Heap} {r:TM × Heap} (hx:runDraw c l tm h=some r):runDraw c' l tm h=some r:=by
 unfold runDraw at hx ⊢
 split at hx
 ·rename_i q;rw [trace_mono hc l q];exact hx
 ·cases hx
theorem execC_mono (hc:CallLe c c') (hL:LoopLe L L'):∀ (a:AC) {tm:TM} {h:Heap} {r:Ex × TM × Heap},execC c L a tm h=some r→execC c' L' a tm h=some r
 | .skip,_,_,_,hx=>hx
 | .ops l,tm,h,r,hx=>by
  unfold execC at hx ⊢
  split at hx
  ·rename_i q;rw [runOps_mono hc l q];exact hx
  ·cases hx
 | .draw l,tm,h,r,hx=>by
  unfold execC at hx ⊢
  split at hx
  ·rename_i q;rw [runDraw_mono hc q];exact hx
  ·cases hx
 | .seq a b,tm,h,r,hx=>by
  unfold execC at hx ⊢
  split at hx
  ·rename_i q;rw [execC_mono hc hL a q];exact execC_mono hc hL b hx
  ·rename_i hne
   have:=execC_mono hc hL a hx
   rw [this]
   obtain ⟨e,tm',h'⟩:=r
   cases e with
   | normal=>exact absurd hx (hne _ _)
   | exit id=>rfl
   | ret=>rfl
 | .cond x a b,tm,h,r,hx=>by
  unfold execC at hx ⊢
  split at hx
  ·rename_i t q
   cases t with
   | true=>exact execC_mono hc hL a hx
   | false=>simp only [Bool.false_eq_true,if_false] at hx ⊢;exact execC_mono hc hL b hx
  ·cases hx
 | .block id a,tm,h,r,hx=>by
  unfold execC at hx ⊢
  split at hx
  ·rename_i q;rw [execC_mono hc hL a q];exact hx
  ·rename_i hne
   have:=execC_mono hc hL a hx
   rw [this]
   obtain ⟨e,tm',h'⟩:=r
   cases e with
   | normal=>rfl
   | exit id=>exact absurd hx (hne _ _ _)
   | ret=>rfl
 | .loop a,tm,h,r,hx=>by
  unfold execC at hx ⊢
  split at hx
  ·rename_i q;rw [execC_mono hc hL a q];exact hL _ _ _ _ hx
  ·rename_i hne
   have:=execC_mono hc hL a hx
   rw [this]
   obtain ⟨e,tm',h'⟩:=r
   cases e with
   | normal=>exact absurd hx (hne _ _)
   | exit id=>rfl
   | ret=>rfl
 | .exit id,_,_,_,hx=>hx
 | .ret,_,_,_,hx=>hx
 | .bad,_,_,_,hx=>hx
 | .range nt f ps asg body,tm,h,r,hx=>by
  unfold execC at hx ⊢
  split at hx
  ·split at hx
   ·rename_i q;rw [hc _ _ _ _ q];exact hx
   ·cases hx
  ·cases hx
 | .defr f args,_,_,_,hx=>by
  unfold execC at hx ⊢
  exact hx
theorem yieldBody_mono {e e':LoopF} (he:LoopLe e e') {b:Nat} {vs:List V} {h:Heap} {r:V × Heap} (hx:yieldBody e b vs h=some r):yieldBody e' b vs h=some r:=by
 unfold yieldBody at hx ⊢
 split at hx
 ·split at hx
  ·split at hx
   ·rename_i q2
    simp only [he _ _ _ _ q2]
    split at hx
    ·split at hx
     ·rename_i q4
      simp only [he _ _ _ _ q4]
      exact hx
     ·cases hx
    ·cases hx
   ·cases hx
  ·cases hx
 ·cases hx
theorem runDefers_mono {C:Cfg} {e e':LoopF} (he:LoopLe e e'):∀ (l:List V) {h h2:Heap},runDefers C e l h=some h2→runDefers C e' l h=some h2:=by
 intro l
 induction l with
 | nil=>intro h h2 hx;exact hx
 | cons x r ih =>
  intro h h2 hx
  unfold runDefers at hx ⊢
  split at hx
  ·rename_i q;cases q
  ·rename_i q
   cases q
   split at hx
   ·exact ih hx
   ·cases hx
  ·rename_i q
   cases q
   split at hx
   ·rename_i q2;rw [if_pos q2];exact ih hx
   ·rename_i q2
    rw [if_neg q2]
    split at hx
    ·rename_i q3
     split at hx
     ·rename_i q4
      rw [if_pos q4]
      split at hx
      ·cases hx
      ·rename_i ex tm h1 hne q6
       rw [he _ _ _ _ q6]
       split at hx
       ·rename_i rs d1 d2
        cases ex with
        | exit id=>exact absurd rfl (hne id)
        | normal=>simp only [d1,d2];exact ih hx
        | ret=>simp only [d1,d2];exact ih hx
       ·cases hx
      ·cases hx
     ·cases hx
    ·cases hx
  ·cases hx
theorem callBody_mono {C:Cfg} {e e':LoopF} (he:LoopLe e e') {af:AFunc} {args:List V} {h:Heap} {r:V × Heap} (hx:callBody C e af args h=some r):callBody C e' af args h=some r:=by
 unfold callBody at hx ⊢
 split at hx
 ·rename_i hl
  rw [if_pos hl]
  split at hx
  ·cases hx
  ·rename_i ex tm h1 hne q
   rw [he _ _ _ _ q]
   split at hx
   ·rename_i q2
    cases ex with
    | exit id=>exact absurd rfl (hne id)
    | normal=>simp only [runDefers_mono he _ q2];exact hx
    | ret=>simp only [runDefers_mono he _ q2];exact hx
   ·cases hx
  ·cases hx
 ·cases hx
end
theorem run_mono1 (C:Cfg):∀ n,CallLe (run C n).1 (run C (n+1)).1∧LoopLe (run C n).2 (run C (n+1)).2
 | 0=>by
  refine ⟨?_,?_⟩
  ·intro f args h r hx;simp [run] at hx
  ·intro a tm h r hx;simp [run] at hx
 | n+1=>by
  obtain ⟨h1,h2⟩:=run_mono1 C n
  have hL:LoopLe (run C (n+1)).2 (run C (n+1+1)).2:=by
   intro a tm h r hx
   exact execC_mono h1 h2 a hx
  refine ⟨?_,hL⟩
  intro f args h r hx
  cases f with
  | fn f =>
   simp only [run,runF] at hx ⊢
   split at hx
   ·exact hx
   ·split at hx
    ·exact callBody_mono hL hx
    ·cases hx
  | yl b =>
   simp only [run] at hx ⊢
   exact yieldBody_mono hL hx
theorem run_le (C:Cfg) {n m:Nat} (h:n≤m):CallLe (run C n).1 (run C m).1∧LoopLe (run C n).2 (run C m).2:=by
 induction m with
 | zero =>
  have:n=0:=by omega
  subst this
  exact ⟨fun _ _ _ _ h=>h,fun _ _ _ _ h=>h⟩
 | succ m ih =>
  by_cases e:n=m+1
  ·subst e;exact ⟨fun _ _ _ _ h=>h,fun _ _ _ _ h=>h⟩
  ·obtain ⟨h1,h2⟩:=ih (by omega)
   obtain ⟨g1,g2⟩:=run_mono1 C m
   exact ⟨fun f a h r hx=>g1 _ _ _ _ (h1 _ _ _ _ hx),fun a t h r hx=>g2 _ _ _ _ (h2 _ _ _ _ hx)⟩
/-! ### Steps for reasoning: 'in some number of rounds' -/
section
variable (C:Cfg)
def Gives (f:Nat) (args:List V) (h:Heap) (v:V) (h':Heap):Prop:=∃ n,(run C n).1 (.fn f) args h=some (v,h')
def Runs (a:AC) (tm:TM) (h:Heap) (Q:Ex→TM→Heap→Prop):Prop:=∃ n ex tm' h',execC (run C n).1 (run C n).2 a tm h=some (ex,tm',h')∧Q ex tm' h'
def Does (l:List AOp) (tm:TM) (h:Heap) (Q:TM→Heap→Prop):Prop:=∃ n tm' h',runOps (run C n).1 l tm h=some (tm',h')∧Q tm' h'
end
section
variable {C:Cfg} {tm:TM} {h:Heap}
theorem Runs.mono {a:AC} {Q Q':Ex→TM→Heap→Prop} (hx:Runs C a tm h Q) (hq:∀ e t h,Q e t h→Q' e t h):Runs C a tm h Q' :=
 let ⟨n,e,t,h',q1,q2⟩:=hx;⟨n,e,t,h',q1,hq _ _ _ q2⟩
theorem nc_of {k:K} {tm:TM} {h h':Heap} {v:V} (hk:opK k tm h=some (v,h')):k.calls=false:=by
 cases k <;> first | rfl | (simp [opK] at hk;done)
theorem Does.nil {Q:TM→Heap→Prop} (hq:Q tm h):Does C [] tm h Q:=⟨0,tm,h,rfl,hq⟩
theorem Does.op {o:AOp} {l:List AOp} {Q:TM→Heap→Prop} {v:V} {h':Heap} (hw:wantedA tm o.guard=some true) (hk:opK o.k tm h=some (v,h')) (hq:Does C l (TM.put tm o.dst v) h' Q):Does C (o::l) tm h Q:=by
 obtain ⟨n,tm2,h2,q1,q2⟩:=hq
 refine ⟨n,tm2,h2,?_,q2⟩
 have hnc:o.k.calls=false:=nc_of hk
 unfold runOps stepOp
 rw [hw]
 simp only [opA_nc hnc,hk]
 exact q1
theorem Does.skip {o:AOp} {l:List AOp} {Q:TM→Heap→Prop} (hw:wantedA tm o.guard=some false) (hq:Does C l (TM.put tm o.dst undefV) h Q):Does C (o::l) tm h Q:=by
 obtain ⟨n,tm2,h2,q1,q2⟩:=hq
 refine ⟨n,tm2,h2,?_,q2⟩
 unfold runOps stepOp
 rw [hw]
 exact q1
theorem Does.call {dst:Option Nat} {g:Option (Nat × Bool)} {fx:Opd} {xs:List Opd} {l:List AOp} {Q:TM→Heap→Prop} {f:Nat} {first caps vs:List V} {v:V} {h':Heap} (hw:wantedA tm g=some true)
  (hf:ev tm fx=some (.func (.func f) first caps)) (hxs:evs tm xs=some vs) (hg:Gives C f (first++vs++caps) h v h') (hq:Does C l (TM.put tm dst v) h' Q):Does C (⟨dst,g,.call fx xs⟩::l) tm h Q:=by
 obtain ⟨n,tm2,h2,q1,q2⟩:=hq
 obtain ⟨m,hm⟩:=hg
 refine ⟨max n m,tm2,h2,?_,q2⟩
 unfold runOps stepOp
 rw [hw]
 simp only [opA,hf,hxs]
 rw [(run_le C (Nat.le_max_right n m)).1 _ _ _ _ hm]
 simp only
 exact runOps_mono (run_le C (Nat.le_max_left n m)).1 l q1
theorem Runs.ops {l:List AOp} {Q:Ex→TM→Heap→Prop} (hx:Does C l tm h (Q .normal)):Runs C (.ops l) tm h Q:=by
 obtain ⟨n,t,h',q1,q2⟩:=hx
 exact ⟨n,.normal,t,h',by simp only [execC,q1],q2⟩
theorem Runs.skip {Q:Ex→TM→Heap→Prop} (hq:Q .normal tm h):Runs C .skip tm h Q:=⟨0,.normal,tm,h,rfl,hq⟩
theorem Runs.ret {Q:Ex→TM→Heap→Prop} (hq:Q .ret tm h):Runs C .ret tm h Q:=⟨0,.ret,tm,h,rfl,hq⟩
theorem Runs.exit {id:Nat} {Q:Ex→TM→Heap→Prop} (hq:Q (.exit id) tm h):Runs C (.exit id) tm h Q:=⟨0,.exit id,tm,h,rfl,hq⟩
theorem exec_up {n m:Nat} (hnm:n≤m) {a:AC} {tm:TM} {h:Heap} {r:Ex × TM × Heap} (hx:execC (run C n).1 (run C n).2 a tm h=some r):execC (run C m).1 (run C m).2 a tm h=some r :=
 execC_mono (run_le C hnm).1 (run_le C hnm).2 a hx
def Then (C:Cfg) (b:AC) (Q:Ex→TM→Heap→Prop):Ex→TM→Heap→Prop
 | .normal,t,h=>Runs C b t h Q
 | e,t,h=>Q e t h
theorem Runs.seq {a b:AC} {Q:Ex→TM→Heap→Prop} (hx:Runs C a tm h (Then C b Q)):Runs C (.seq a b) tm h Q:=by
 obtain ⟨n,e,t,h',q1,q2⟩:=hx
 cases e with
 | normal =>
  obtain ⟨m,e2,t2,h2,g1,g2⟩:=q2
  refine ⟨max n m,e2,t2,h2,?_,g2⟩
  simp only [execC,exec_up (Nat.le_max_left n m) q1,exec_up (Nat.le_max_right n m) g1]
 | exit id=>exact ⟨n,_,t,h',by simp only [execC,q1],q2⟩
 | ret=>exact ⟨n,_,t,h',by simp only [execC,q1],q2⟩
theorem Runs.cond {x:Opd} {a b:AC} {t:Bool} {Q:Ex→TM→Heap→Prop} (hv:ev tm x=some (.bool t)) (hx:Runs C (if t then a else b) tm h Q):Runs C (.cond x a b) tm h Q:=by
 obtain ⟨n,e,t',h',q1,q2⟩:=hx
 refine ⟨n,e,t',h',?_,q2⟩
 simp only [execC,hv]
 cases t <;> exact q1
def AtExit (id:Nat) (Q:Ex→TM→Heap→Prop):Ex→TM→Heap→Prop
 | .exit i,t,h=>if i=id then Q .normal t h else Q (.exit i) t h
 | e,t,h=>Q e t h
theorem Runs.block {id:Nat} {a:AC} {Q:Ex→TM→Heap→Prop} (hx:Runs C a tm h (AtExit id Q)):Runs C (.block id a) tm h Q:=by
 obtain ⟨n,e,t,h',q1,q2⟩:=hx
 cases e with
 | normal=>exact ⟨n,_,t,h',by simp only [execC,q1],q2⟩
 | ret=>exact ⟨n,_,t,h',by simp only [execC,q1],q2⟩
 | exit i =>
  refine ⟨n,_,t,h',by simp only [execC,q1];rfl,?_⟩
  simp only [AtExit] at q2
  by_cases hi:i=id
  ·rw [if_pos hi] at q2 ⊢;exact q2
  ·rw [if_neg hi] at q2 ⊢;exact q2
theorem Runs.round {a:AC} {Q:Ex→TM→Heap→Prop} (hx:Runs C a tm h (Then C (.loop a) Q)):Runs C (.loop a) tm h Q:=by
 obtain ⟨n,e,t,h',q1,q2⟩:=hx
 cases e with
 | normal =>
  obtain ⟨m,e2,t2,h2,g1,g2⟩:=q2
  refine ⟨max n m+1,e2,t2,h2,?_,g2⟩
  simp only [execC]
  rw [exec_up (show n≤max n m+1 by omega) q1]
  show (run C (max n m+1)).2 (.loop a) t h'=_
  simp only [run]
  exact exec_up (Nat.le_max_right n m) g1
 | exit id=>exact ⟨n,_,t,h',by simp only [execC,q1],q2⟩
 | ret=>exact ⟨n,_,t,h',by simp only [execC,q1],q2⟩
theorem Runs.loop {a:AC} {Q:Ex→TM→Heap→Prop} {σ:Type} (I:σ→TM→Heap→Prop) (μ:σ→Nat) (s0:σ) (h0:I s0 tm h)
  (step:∀ s t h,I s t h→Runs C a t h (fun e t' h'=>match e with | .normal=>∃ s',I s' t' h'∧μ s'<μ s | e=>Q e t' h')):Runs C (.loop a) tm h Q:=by
 have key:∀ m s t h,μ s=m→I s t h→Runs C (.loop a) t h Q:=by
  intro m
  induction m using Nat.strongRecOn with
  | _ m ih =>
   intro s t h hm hi
   refine Runs.round ((step s t h hi).mono fun e t' h' hq=>?_)
   cases e with
   | normal =>
    obtain ⟨s',g1,g2⟩:=hq
    exact ih (μ s') (by omega) s' t' h' rfl g1
   | exit id=>exact hq
   | ret=>exact hq
 exact key _ s0 tm h rfl h0
/-! ### Code that defers nothing, and ranges over no function -/
def AC.plain:AC→Bool
 | .ops l=>l.all fun o=>!(o.dst == some DX)
 | .draw l=>l.all fun o=>!(o.o.dst == some DX)
 | .seq a b=>a.plain && b.plain
 | .cond _ a b=>a.plain && b.plain
 | .block _ c=>c.plain
 | .loop c=>c.plain
 | .defr _ _=>false
 | .range _ _ _ _ _=>false
 | _=>true
theorem put_keepDX {d:Option Nat} (hd:(!(d == some DX))=true) (tm:TM) (v:V):(TM.put tm d v).get DX=tm.get DX:=by
 cases d with
 | none=>rfl
 | some d =>
  simp only [TM.put]
  refine TM.get_set_ne _ _ _ _ fun e=>?_
  subst e
  simp at hd
theorem runOps_DX {c:CallF}:∀ (l:List AOp) {tm tm':TM} {h h':Heap},(l.all fun o=>!(o.dst == some DX))=true→runOps c l tm h=some (tm',h')→tm'.get DX=tm.get DX
 | [],_,_,_,_,_,hx=>by cases hx;rfl
 | o::l,tm,tm',h,h',hp,hx=>by
  simp only [List.all_cons,Bool.and_eq_true] at hp
  unfold runOps at hx
  split at hx
  ·rename_i tm2 h2 hst
   rw [runOps_DX l hp.2 hx]
   unfold stepOp at hst
   split at hst
   ·split at hst
    ·cases hst;exact put_keepDX hp.1 _ _
    ·cases hst
   ·cases hst;exact put_keepDX hp.1 _ _
   ·cases hst
  ·cases hx
theorem traceD_DX {c:CallF}:∀ (l:List DOp) {tr:List (DOp × Log)} {tm tm':TM} {h h':Heap},(l.all fun o=>!(o.o.dst == some DX))=true→traceDraw c l tm h=some (tr,tm',h')→tm'.get DX=tm.get DX
 | [],_,_,_,_,_,_,hx=>by cases hx;rfl
 | o::l,tr,tm,tm',h,h',hp,hx=>by
  simp only [List.all_cons,Bool.and_eq_true] at hp
  unfold traceDraw at hx
  split at hx
  ·split at hx
   ·rename_i hh;cases hx;rw [traceD_DX l hp.2 hh];exact put_keepDX hp.1 _ _
   ·cases hx
  ·split at hx
   ·split at hx
    ·rename_i hh;cases hx;rw [traceD_DX l hp.2 hh];exact put_keepDX hp.1 _ _
    ·cases hx
   ·cases hx
  ·cases hx
def LoopDX (L:LoopF):Prop:=∀ a tm h e tm' h',AC.plain a=true→L a tm h=some (e,tm',h')→tm'.get DX=tm.get DX
theorem exec_DX {c:CallF} {L:LoopF} (hL:LoopDX L):∀ (a:AC) {tm tm':TM} {h h':Heap} {e:Ex},a.plain=true→execC c L a tm h=some (e,tm',h')→tm'.get DX=tm.get DX
 | .skip,_,_,_,_,_,_,hx=>by cases hx;rfl
 | .ops l,tm,tm',h,h',e,hp,hx=>by
  unfold execC at hx
  split at hx
  ·rename_i q;cases hx;exact runOps_DX l hp q
  ·cases hx
 | .draw l,tm,tm',h,h',e,hp,hx=>by
  unfold execC at hx
  split at hx
  ·rename_i q;cases hx
   unfold runDraw at q
   split at q
   ·rename_i q2
    split at q
    ·cases q;exact traceD_DX l hp q2
    ·cases q
   ·cases q
  ·cases hx
 | .seq a b,tm,tm',h,h',e,hp,hx=>by
  simp only [AC.plain,Bool.and_eq_true] at hp
  unfold execC at hx
  split at hx
  ·rename_i q;rw [exec_DX hL b hp.2 hx,exec_DX hL a hp.1 q]
  ·exact exec_DX hL a hp.1 hx
 | .cond x a b,tm,tm',h,h',e,hp,hx=>by
  simp only [AC.plain,Bool.and_eq_true] at hp
  unfold execC at hx
  split at hx
  ·split at hx
   ·exact exec_DX hL a hp.1 hx
   ·exact exec_DX hL b hp.2 hx
  ·cases hx
 | .block id a,tm,tm',h,h',e,hp,hx=>by
  simp only [AC.plain] at hp
  unfold execC at hx
  split at hx
  ·rename_i q;cases hx;exact exec_DX hL a hp q
  ·exact exec_DX hL a hp hx
 | .loop a,tm,tm',h,h',e,hp,hx=>by
  simp only [AC.plain] at hp
  unfold execC at hx
  split at hx
  ·rename_i q;rw [hL (.loop a) _ _ _ _ _ (by simpa only [AC.plain] using hp) hx,exec_DX hL a hp q]
  ·exact exec_DX hL a hp hx
 | .exit id,_,_,_,_,_,_,hx=>by cases hx;rfl
 | .ret,_,_,_,_,_,_,hx=>by cases hx;rfl
 | .bad,_,_,_,_,_,_,hx=>by cases hx
 | .range ..,_,_,_,_,_,hp,_=>by cases hp
 | .defr ..,_,_,_,_,_,hp,_=>by cases hp
theorem run_DX (C:Cfg):∀ n,LoopDX (run C n).2
 | 0=>by intro a tm h e tm' h' _ hx;simp [run] at hx
 | n+1=>fun a tm h e tm' h' hp hx=>exec_DX (run_DX C n) a hp hx
theorem Gives.body {f:Nat} {af:AFunc} {args:List V} {v:V} {h':Heap} (hS:C.S f args h=none) (hF:C.F f=some af) (hl:args.length=af.nparams) (hpl:af.body.plain=true) (hdx:args.length≤DX)
  (hx:Runs C af.body (argsTM 0 args .nil) { h with low:=h.size } fun e t h1=>(∀ id,e≠.exit id)∧∃ vs,ressA t h1 af.results=some vs∧closeCall h (oneOf vs) h1=(v,h')):Gives C f args h v h':=by
 obtain ⟨n,e,t,h1,q1,q2,vs,q3,q4⟩:=hx
 refine ⟨n+1,?_⟩
 have hd:deferred t=[]:=by
  unfold deferred
  rw [exec_DX (run_DX C n) _ hpl q1,argsTM_DX _ _ _ (by omega),TM.get_nil]
 simp only [run,runF,hS,hF]
 unfold callBody
 rw [if_pos hl]
 rw [q1]
 cases e with
 | exit id=>exact absurd rfl (q2 id)
 | normal=>simp only [hd,runDefers,q3,q4]
 | ret=>simp only [hd,runDefers,q3,q4]
theorem Gives.of {n f:Nat} {args:List V} {v:V} {h':Heap} (hx:(run C n).1 (.fn f) args h=some (v,h')):Gives C f args h v h':=⟨n,hx⟩
theorem Gives.sum {f:Nat} {args:List V} {v:V} {h':Heap} (hS:C.S f args h=some (some (v,h'))):Gives C f args h v h':=⟨1,by simp only [run,runF,hS]⟩
end
end
end Abs
end Go.Proofs.YthgcjbniipfnbaaGreatDoor
