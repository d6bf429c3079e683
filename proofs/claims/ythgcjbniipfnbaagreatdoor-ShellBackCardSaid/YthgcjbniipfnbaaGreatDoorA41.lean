/- The abstract machine: a function with ranges that changes what was there. -/
import Derived.Test.YthgcjbniipfnbaaGreatDoorA40
import Derived.Test.YthgcjbniipfnbaaGreatDoorA38
namespace Go.Proofs.YthgcjbniipfnbaaGreatDoor
namespace Abs
noncomputable section
set_option linter.unusedVariables false
set_option linter.unusedSimpArgs false
open Go.RowKit
theorem WD.look {C:Cfg} {q:Nat} {l:List DOp} {P:List (Nat × (Heap→Prop))} {e:List (Nat × V)} {h:Heap} {Q:List (Nat × V)→Heap→Prop} {d:Nat} {idx:Nat} {anc:List Nat} {v a b zero:V} {x y:Opd} {kk:FK} {ok:Bool}
  (hx:evE e x=some a) (hy:evE e y=some b) (hl:lookupA h kk zero ok a b=some v) (hq:WD C (q+1) l ((q,fun h1=>lookupA h1 kk zero ok a b=some v)::P) ((d,v)::e) h Q):WD C q (⟨⟨some d,none,.lookup kk zero ok x y⟩,idx,anc⟩::l) P e h Q:=fun tm hs=>by
 refine DoesD.op rfl rfl (StepK.lookup hx hy hl tm hs) (fun h1 hr=>?_) (hq _ (hs.set d v))
 simp only [okLater,if_true,K.isAlloc,Bool.false_eq_true,if_false,StepK.lookup hx hy hr tm hs,V.beq_refl]
section
variable {C:Cfg}
theorem Ans.rngL {f np:Nat} {res:List Res} {body:AC} {args:List V} {h:Heap} {R:V→Heap→Prop} (hSm:∀ f args h v h',C.S f args h=some (some (v,h'))→HM h h') (hS:C.S f args h=none) (hF:C.F f=some ⟨np,res,body⟩) (hl:args.length=np) (hdx:np≤DX)
  (hx:WX C body (argsE 0 args []) [] { h with low:=h.size } fun x e' d' h1=>(∀ id,x≠.exit id)∧∃ h2,runMarks d' h1=some h2∧∃ vs,ressE e' h2 res=some vs∧R (oneOf vs) { h2 with low:=min h.low h2.low } ∧
   ((∀ b,b<h.size→h2.get b=h.get b)→(oneOf vs).scopd h.size=true→R (oneOf vs) h)):Ans C f args h R:=by
 have hd:deferred (argsTM 0 args .nil)=[]:=by
  unfold deferred
  rw [argsTM_DX _ _ _ (by omega),TM.get_nil]
 obtain ⟨n,x,t,h1,q1,e1,q2,q3,h2,q4,vs,q5,q6,q7⟩:=hx _ ((Sub.nil (.nil:TM)).args 0 args) hd
 have m1:=(HM.run C hSm (n+1)).2 body (argsTM 0 args .nil) { h with low:=h.size } x t h1 q1
 have m2:HM h1 h2:=HM.defers (C:=C) (HM.run C hSm n).2 _ (marks_defers q4)
 have m:=m1.trans m2
 have key:∀ v h',closeCall h (oneOf vs) h2=(v,h')→R v h'→Ans C f args h R:=by
  intro v h' hc hr
  refine ⟨v,h',⟨n+1,?_⟩,hr⟩
  simp only [run,runF,hS,hF]
  unfold callBody
  rw [if_pos hl,q1]
  cases x with
  | exit id=>exact absurd rfl (q3 id)
  | normal=>simp only [marks_defers q4,q2.ress q5,hc]
  | ret=>simp only [marks_defers q4,q2.ress q5,hc]
 by_cases hc:h.size≤h2.low∧(oneOf vs).scopd h.size=true
 ·exact key (oneOf vs) h (by simp only [closeCall,if_pos hc]) (q7 (fun b hb=>m.get b (Nat.lt_of_lt_of_le hb hc.1) hb) hc.2)
 ·exact key (oneOf vs) { h2 with low:=min h.low h2.low } (by simp only [closeCall,if_neg hc]) q6
end
end
end Abs
end Go.Proofs.YthgcjbniipfnbaaGreatDoor
