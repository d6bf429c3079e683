/- The abstract machine: reasoning about ranges over functions. -/
import Derived.Test.YthgcjbniipfnbaaGreatDoorA29
namespace Go.Proofs.YthgcjbniipfnbaaGreatDoor
namespace Abs
noncomputable section
set_option linter.unusedVariables false
set_option linter.unusedSimpArgs false
open Go.RowKit
def WX (C:Cfg) (c:AC) (e:List (Nat × V)) (d:List V) (h:Heap) (Q:Ex→List (Nat × V)→List V→Heap→Prop):Prop :=
 ∀ tm,Sub e tm→deferred tm=d→Runs C c tm h fun x tm' h'=>∃ e',Sub e' tm'∧Q x e' (deferred tm') h'
def LoopAt (h:Heap) (b:Nat) (e:List (Nat × V)) (ps:List Nat) (asg body:AC):Prop:=∃ nt tm,h.get b=some (.loop .ready none nt tm ps asg body)∧Sub e tm
def LoopEnd (h:Heap) (b:Nat) (o:Option Ex):Prop:=∃ st nt tm ps asg body,h.get b=some (.loop st o nt tm ps asg body)∧st≠.busy
def Yld (C:Cfg) (b:Nat) (vs:List V) (h:Heap) (R:V→Heap→Prop):Prop:=∃ v h',(∃ n,(run C n).1 (.yl b) vs h=some (v,h'))∧R v h'
def psEnv:List Nat→List V→List (Nat × V)→List (Nat × V)
 | p::ps,v::vs,e=>psEnv ps vs ((p,v)::e)
 | _,_,e=>e
section
variable {C:Cfg} {e:List (Nat × V)} {d:List V} {h:Heap} {Q:Ex→List (Nat × V)→List V→Heap→Prop}
theorem deferred_of {tm tm':TM} (hx:tm'.get DX=tm.get DX):deferred tm'=deferred tm:=by unfold deferred;rw [hx]
theorem WX.plain {c:AC} (hx:WC C c e h fun x e' h'=>Q x e' d h') (hp:c.plain=true:=by rfl):WX C c e d h Q:=by
 intro tm hs hd
 obtain ⟨n,x,t,h',q1,e',q2,q3⟩:=hx tm hs
 refine ⟨n,x,t,h',q1,e',q2,?_⟩
 rw [deferred_of (exec_DX (run_DX C n) c hp q1),hd]
 exact q3
theorem WX.mono {c:AC} {Q':Ex→List (Nat × V)→List V→Heap→Prop} (hx:WX C c e d h Q) (hq:∀ x e' d' h',Q x e' d' h'→Q' x e' d' h'):WX C c e d h Q' :=
 fun tm hs hd=>(hx tm hs hd).mono fun x t h' ⟨e',q1,q2⟩=>⟨e',q1,hq _ _ _ _ q2⟩
def ThenX (C:Cfg) (b:AC) (Q:Ex→List (Nat × V)→List V→Heap→Prop):Ex→List (Nat × V)→List V→Heap→Prop
 | .normal,e,d,h=>WX C b e d h Q
 | x,e,d,h=>Q x e d h
theorem WX.seq {a b:AC} (hx:WX C a e d h (ThenX C b Q)):WX C (.seq a b) e d h Q:=fun tm hs hd=>by
 refine Runs.seq ((hx tm hs hd).mono fun x t h' ⟨e',q1,q2⟩=>?_)
 cases x with
 | normal=>exact q2 t q1 rfl
 | exit i=>exact ⟨e',q1,q2⟩
 | ret=>exact ⟨e',q1,q2⟩
theorem WX.seqP {a b:AC} (hx:WC C a e h fun x e' h'=>ThenX C b Q x e' d h') (hp:a.plain=true:=by rfl):WX C (.seq a b) e d h Q:=WX.seq (WX.plain hx hp)
theorem WX.cond {x:Opd} {a b:AC} {t:Bool} (hv:evE e x=some (.bool t)) (h1:t=true→WX C a e d h Q) (h2:t=false→WX C b e d h Q):WX C (.cond x a b) e d h Q:=fun tm hs hd=>by
 refine Runs.cond (t:=t) (hs.ev hv) ?_
 cases t with
 | true=>exact h1 rfl tm hs hd
 | false=>exact h2 rfl tm hs hd
def AtX (id:Nat) (Q:Ex→List (Nat × V)→List V→Heap→Prop):Ex→List (Nat × V)→List V→Heap→Prop
 | .exit i,e,d,h=>if i=id then Q .normal e d h else Q (.exit i) e d h
 | x,e,d,h=>Q x e d h
theorem WX.block {id:Nat} {a:AC} (hx:WX C a e d h (AtX id Q)):WX C (.block id a) e d h Q:=fun tm hs hd=>by
 refine Runs.block ((hx tm hs hd).mono fun x t h' ⟨e',q1,q2⟩=>?_)
 cases x with
 | normal=>exact ⟨e',q1,q2⟩
 | ret=>exact ⟨e',q1,q2⟩
 | exit i =>
  simp only [AtX] at q2
  simp only [AtExit]
  by_cases hi:i=id
  ·rw [if_pos hi] at q2 ⊢;exact ⟨e',q1,q2⟩
  ·rw [if_neg hi] at q2 ⊢;exact ⟨e',q1,q2⟩
theorem WX.skip (hq:Q .normal e d h):WX C .skip e d h Q:=fun tm hs hd=>Runs.skip ⟨e,hs,by rw [hd];exact hq⟩
theorem WX.ret (hq:Q .ret e d h):WX C .ret e d h Q:=fun tm hs hd=>Runs.ret ⟨e,hs,by rw [hd];exact hq⟩
theorem WX.exit {id:Nat} (hq:Q (.exit id) e d h):WX C (.exit id) e d h Q:=fun tm hs hd=>Runs.exit ⟨e,hs,by rw [hd];exact hq⟩
theorem sub_mark {tm:TM} (hs:Sub e tm) (hD:Env.get e DX=none) (b:Nat):Sub e (pushMark tm b):=by
 intro k v hk
 unfold pushMark pushD
 rw [TM.get_set,if_neg (by rintro rfl;rw [hD] at hk;cases hk)]
 exact hs k v hk
theorem deferred_mark (tm:TM) (b:Nat):deferred (pushMark tm b)=.yld b::deferred tm:=by
 conv=>lhs;unfold deferred
 unfold pushMark pushD
 rw [TM.get_set,if_pos rfl]
theorem WX.range {nt:Nat} {f:Opd} {ps:List Nat} {asg body:AC} {fi:Nat} {first caps:List V} (hw:Wf h) (hf:evE e f=some (.func (.func fi) first caps)) (hD:Env.get e DX=none)
  (hx:∀ h2,Grow h h2→h2.size=h.size+2→h2.get h.size=some .dfr→LoopAt h2 (h.size+1) e ps asg body→(∀ b,b<h.size→h2.get b=h.get b)→h2.low=h.low →
   Ans C fi (first++[.yld (h.size+1)]++caps) h2 fun v h'=>∃ o,LoopEnd h' (h.size+1) o∧Q (exOf o) e (.yld h.size::d) (h'.put (h.size+1) .dead)):WX C (.range nt f ps asg body) e d h Q:=by
 intro tm hs hd
 have g1:Grow h (h.push .dfr):=(Grow.refl hw).push _
 have g2:Grow h ((h.push .dfr).push (.loop .ready none nt tm ps asg body)):=g1.push _
 have e0:((h.push .dfr).push (.loop .ready none nt tm ps asg body)).get h.size=some .dfr:=by
  rw [get_push,if_neg (by show h.size≠h.size+1;omega),get_push,if_pos rfl]
 have e1:((h.push .dfr).push (.loop .ready none nt tm ps asg body)).get (h.size+1)=some (.loop .ready none nt tm ps asg body):=by
  rw [get_push];exact if_pos rfl
 obtain ⟨v,h',⟨n,hn⟩,o,⟨st,nt',tm',ps',asg',body',q1,q2⟩,q3⟩:=hx _ g2 rfl e0 ⟨nt,tm,e1,hs⟩ (fun b hb=>by
  rw [get_push,if_neg (by show b≠h.size+1;omega),get_push,if_neg (by omega)]) rfl
 refine ⟨n,exOf o,pushMark tm h.size,h'.put (h.size+1) .dead,?_,e,sub_mark hs hD _,?_⟩
 ·cases st <;> first | exact absurd rfl q2 | (simp only [execC,hs.ev hf,hn,q1];done) | (simp only [execC,hs.ev hf,hn,q1];rfl)
 ·rw [deferred_mark,hd];exact q3
theorem psEnv_sub:∀ (ps:List Nat) (vs:List V) (e:List (Nat × V)) (tm:TM),ps.length=vs.length→Sub e tm→∃ tm1,setPs ps vs tm=some tm1∧Sub (psEnv ps vs e) tm1
 | [],[],e,tm,_,hs=>⟨tm,rfl,hs⟩
 | p::ps,v::vs,e,tm,hl,hs=>psEnv_sub ps vs ((p,v)::e) (tm.set p v) (by simpa using hl) (hs.set p v)
 | [],_::_,_,_,hl,_=>by cases hl
 | _::_,[],_,_,hl,_=>by cases hl
theorem Yld.body {b:Nat} {vs:List V} {R:V→Heap→Prop} {nt:Nat} {tm:TM} {ps:List Nat} {asg body:AC} (hg:h.get b=some (.loop .ready none nt tm ps asg body)) (hs:Sub e tm) (hl:ps.length=vs.length)
  (hx:WC C asg (psEnv ps vs e) h fun x e2 h2=>x=.normal∧h2.get b=h.get b∧WC C body e2 (h2.put b (.loop .busy none nt tm ps asg body)) fun ex e3 h3 =>
   h3.get b=some (.loop .busy none nt tm ps asg body)∧match ex with
    | .normal=>R (.bool true) (h3.put b (.loop .ready none nt tm ps asg body))
    | ex=>R (.bool false) (h3.put b (.loop .done (some ex) nt tm ps asg body))):Yld C b vs h R:=by
 obtain ⟨tm1,s1,s2⟩:=psEnv_sub ps vs e tm hl hs
 obtain ⟨n,x,t2,h2,q1,e2,q2,rfl,q4,q5⟩:=hx tm1 s2
 obtain ⟨m,ex,t3,h3,g1,e3,g2,g3,g4⟩:=q5 t2 q2
 have a1:=exec_up (Nat.le_max_left n m) q1
 have a2:=exec_up (Nat.le_max_right n m) g1
 cases ex with
 | normal =>
  refine ⟨_,_,⟨max n m+1,?_⟩,g4⟩
  simp only [run,yieldBody,hg,s1,a1,q4,a2,g3]
 | exit i =>
  refine ⟨_,_,⟨max n m+1,?_⟩,g4⟩
  simp only [run,yieldBody,hg,s1,a1,q4,a2,g3]
 | ret =>
  refine ⟨_,_,⟨max n m+1,?_⟩,g4⟩
  simp only [run,yieldBody,hg,s1,a1,q4,a2,g3]
theorem WO.yld {x:Opd} {xs:List Opd} {l:List AOp} {dst:Nat} {b:Nat} {vs:List V} {R:V→Heap→Prop} {Q:List (Nat × V)→Heap→Prop} (hx:evE e x=some (.yld b)) (hxs:evsE e xs=some vs) (hy:Yld C b vs h R)
  (hq:∀ v h',R v h'→WO C l ((dst,v)::e) h' Q):WO C (⟨some dst,none,.call x xs⟩::l) e h Q:=by
 intro tm hs
 obtain ⟨v,h',⟨m,hm⟩,hr⟩:=hy
 obtain ⟨n,t2,h2,q1,q2⟩:=hq v h' hr _ (hs.set dst v)
 refine ⟨max n m,t2,h2,?_,q2⟩
 unfold runOps stepOp
 simp only [wantedA,opA,hs.ev hx,hs.evs hxs]
 rw [(run_le C (Nat.le_max_right n m)).1 _ _ _ _ hm]
 simp only
 exact runOps_mono (run_le C (Nat.le_max_left n m)).1 l q1
/-! ### A function with ranges -/
def runMarks:List V→Heap→Option Heap
 | [],h=>some h
 | .yld b::r,h=>match h.get b with
  | some .dfr=>runMarks r (h.put b .dead)
  | _=>none
 | _::_,_=>none
theorem marks_defers {exec:LoopF}:∀ {l:List V} {h h2:Heap},runMarks l h=some h2→runDefers C exec l h=some h2
 | [],h,h2,hx=>hx
 | .yld b::r,h,h2,hx=>by
  unfold runMarks at hx
  unfold runDefers
  split at hx
  ·rename_i hg
   rw [hg]
   exact marks_defers hx
  ·cases hx
 | .bool _::_,_,_,hx | .int _ _::_,_,_,hx | .str _::_,_,_,hx | .ptr _::_,_,_,hx | .slice ..::_,_,_,hx | .oslice ..::_,_,_,hx | .map _::_,_,_,hx | .func ..::_,_,_,hx
 | .nilFunc::_,_,_,hx | .iface ..::_,_,_,hx | .nilIface::_,_,_,hx | .agg _::_,_,_,hx | .tuple _::_,_,_,hx=>by cases hx
theorem Ans.rng {f np:Nat} {res:List Res} {body:AC} {args:List V} {R:V→Heap→Prop} (hS:C.S f args h=none) (hF:C.F f=some ⟨np,res,body⟩) (hl:args.length=np) (hdx:np≤DX)
  (hx:WX C body (argsE 0 args []) [] { h with low:=h.size } fun x e' d' h1=>(∀ id,x≠.exit id)∧∃ h2,runMarks d' h1=some h2∧∃ vs,ressE e' h2 res=some vs∧R (oneOf vs) { h2 with low:=min h.low h2.low } ∧
   (h.size≤h2.low→(oneOf vs).scopd h.size=true→R (oneOf vs) h)):Ans C f args h R:=by
 have hd:deferred (argsTM 0 args .nil)=[]:=by
  unfold deferred
  rw [argsTM_DX _ _ _ (by omega),TM.get_nil]
 obtain ⟨n,x,t,h1,q1,e1,q2,q3,h2,q4,vs,q5,q6,q7⟩:=hx _ ((Sub.nil (.nil:TM)).args 0 args) hd
 have key:∀ v h',closeCall h (oneOf vs) h2=(v,h')→R v h'→Ans C f args h R:=by
  intro v h' hc hr
  refine ⟨v,h',⟨n+1,?_⟩,hr⟩
  simp only [run,runF,hS,hF]
  unfold callBody
  rw [if_pos hl,q1]
  cases x with
  | exit id=>exact absurd rfl (q3 id)
  | normal=>simp only [marks_defers q4,q2.ress q5,hc]
  | ret=>simp only [marks_defers q4,q2.ress q5,hc]
 by_cases hc:h.size≤h2.low∧(oneOf vs).scopd h.size=true
 ·exact key (oneOf vs) h (by simp only [closeCall,if_pos hc]) (q7 hc.1 hc.2)
 ·exact key (oneOf vs) { h2 with low:=min h.low h2.low } (by simp only [closeCall,if_neg hc]) q6
end
end
end Abs
end Go.Proofs.YthgcjbniipfnbaaGreatDoor
