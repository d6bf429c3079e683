/- Shell's reference: digits, places, words. Shell's reference: a line's words. Shell's reference: hex, a word's number. Shell's reference: a word's bytes. Shell's reference: an op's words. Shell's reference: see, snap, rollback, destroy, step, spoil, lose. Shell's reference: Parse. -/
import Derived.Test.YthgcjbniipfnbaaGreatDoorH13
namespace Go.Proofs.YthgcjbniipfnbaaGreatDoor
namespace Abs
set_option linter.unusedVariables false
set_option linter.unusedSimpArgs false
open Go.RowKit
attribute [local irreducible] WO WC WD StepK Ans Does Runs DoesD
def digF (n:Nat):List Nat:=ofU (Lib.decDigits n)
theorem digF_small {n:Nat} (h:n<10):digF n=[48+n]:=by
 unfold digF
 rw [Lib.decDigits,dif_pos h]
 simp [ofU];omega
theorem digF_big {n:Nat} (h:¬ n<10):digF n=digF (n / 10)++[48+n % 10]:=by
 unfold digF
 rw [Lib.decDigits,dif_neg h]
 simp [ofU];omega
section
variable {C:Cfg} (S:StdL C)
include S
end
end Abs
end Go.Proofs.YthgcjbniipfnbaaGreatDoor
namespace Go.Proofs.YthgcjbniipfnbaaGreatDoor
namespace Abs
set_option linter.unusedVariables false
set_option linter.unusedSimpArgs false
open Go.RowKit
attribute [local irreducible] WO WC WD StepK Ans Does Runs DoesD
def wordsF (s:List Nat):List (List Nat):=if 10∈s∨[]∈splitF s then [] else splitF s
section
variable {C:Cfg} (S:StdL C)
include S
end
end Abs
end Go.Proofs.YthgcjbniipfnbaaGreatDoor
namespace Go.Proofs.YthgcjbniipfnbaaGreatDoor
namespace Abs
set_option linter.unusedVariables false
set_option linter.unusedSimpArgs false
open Go.RowKit
attribute [local irreducible] WO WC WD StepK Ans Does Runs DoesD
section
variable {C:Cfg} (S:StdL C)
include S
def rnumG (w:List Nat):Int:=if w.all (fun c=>decide (48≤c) && decide (c≤57)) && decide (w.length≤9∨w=[]) then
  (if digF (w.foldl (fun n c=>10*n+(c-48)) 0)=w then ((w.foldl (fun n c=>10*n+(c-48)) 0:Nat):Int) else -1) else -1
end
end Abs
end Go.Proofs.YthgcjbniipfnbaaGreatDoor
namespace Go.Proofs.YthgcjbniipfnbaaGreatDoor
namespace Abs
set_option linter.unusedVariables false
set_option linter.unusedSimpArgs false
open Go.RowKit
attribute [local irreducible] WO WC WD StepK Ans Does Runs DoesD
section
attribute [local semireducible] WD StepK
theorem WD.toStr {C:Cfg} {q:Nat} {l:List DOp} {P:List (Nat × (Heap→Prop))} {e:List (Nat × V)} {h:Heap} {Q:List (Nat × V)→Heap→Prop} {d:Nat} {idx:Nat} {anc:List Nat} {v a:V} {x:Opd}
  (hx:evE e x=some a) (hl:toStrA h a=some v) (hq:WD C (q+1) l ((q,fun h1=>toStrA h1 a=some v)::P) ((d,v)::e) h Q):WD C q (⟨⟨some d,none,.toStr x⟩,idx,anc⟩::l) P e h Q:=fun tm hs=>by
 refine DoesD.op rfl rfl (StepK.toStr hx hl tm hs) (fun h1 hr=>?_) (hq _ (hs.set d v))
 simp only [okLater,if_true,K.isAlloc,Bool.false_eq_true,if_false,StepK.toStr hx hr tm hs,V.beq_refl]
end
section
variable {C:Cfg} (S:StdL C)
include S
end
end Abs
end Go.Proofs.YthgcjbniipfnbaaGreatDoor
namespace Go.Proofs.YthgcjbniipfnbaaGreatDoor
namespace Abs
set_option linter.unusedVariables false
set_option linter.unusedSimpArgs false
open Go.RowKit
attribute [local irreducible] WO WC WD StepK Ans Does Runs DoesD
def manyL:List Int:=[2,2,3,2,2,3,4,4,3,2,2]
theorem idxF_lt (w:List Nat):∀ (l:List (List Nat)) (k:Nat),-1≤idxF w l k∧idxF w l k<k+l.length
 | [],k=>by simp [idxF];omega
 | t::r,k=>by
  rw [idxF_cons]
  have:=idxF_lt w r (k+1)
  split
  ·simp;omega
  ·simp;omega
noncomputable def ropG (ws:List (List Nat)):Option OpV :=
 let d:=idxF (ws.getD 0 []) nmL 0
 let p:=ws.getD 1 []
 let a:=rnumG (ws.getD 2 [])
 let b:=rnumG (ws.getD 3 [])
 if d<0 then none else if (ws.length:Int)≠manyL.getD d.toNat 0 then none else
 if d=2∨d=5 then some ⟨d,p,ws.getD 2 [],0,0,[]⟩ else
 if d=6 then (if 0≤a∧0≤b then some ⟨d,p,[],a,b,[]⟩ else none) else
 if d=7 then (if (bytG (ws.getD 3 [])).isSome=true∧0≤a then some ⟨d,p,[],a,0,(bytG (ws.getD 3 [])).getD []⟩ else none) else
 if d=8 then (if 0≤a then some ⟨d,p,[],0,a,[]⟩ else none) else some ⟨d,p,[],0,0,[]⟩
section
variable {C:Cfg} (S:StdL C)
include S
omit S in
end
end Abs
end Go.Proofs.YthgcjbniipfnbaaGreatDoor
namespace Go.Proofs.YthgcjbniipfnbaaGreatDoor
namespace Abs
set_option linter.unusedVariables false
set_option linter.unusedSimpArgs false
open Go.RowKit
attribute [local irreducible] WO WC WD StepK Ans Does Runs DoesD
def snL:List (List Nat):=[[],[],[115,110,97,112],[114,111,108,108,98,97,99,107],[100,101,115,116,114,111,121]]
noncomputable def rnamedG (ws:List (List Nat)):Option ItV :=
 let w0:=ws.getD 0 []
 let k:=idxF w0 snL 0
 if 2≤k then (if ws.length=2 then some { ItV.z with op:=k,name:=ws.getD (ws.length-1) [] } else none) else
 if w0=[115,101,101]∧2<ws.length then (match ropG (ws.drop 2) with
  | some o=>if o.op=6∨o.op=9∨o.op=10 then some { ItV.z with op:=5,name:=ws.getD 1 [],o:=o } else none
  | none=>none) else
 if w0=[115,116,101,112]∧ws.length=3 then (if 0≤rnumG (ws.getD 1 [])∧0≤rnumG (ws.getD 2 []) then some { ItV.z with op:=7,now:=rnumG (ws.getD 1 []),n:=rnumG (ws.getD 2 []) } else none) else
 if w0=[115,112,111,105,108]∧ws.length=4 then (if (bytG (ws.getD 3 [])).isSome=true∧0≤rnumG (ws.getD 1 [])∧0≤rnumG (ws.getD 2 []) then some { ItV.z with op:=9,dev:=rnumG (ws.getD 1 []),at':=rnumG (ws.getD 2 []),data:=(bytG (ws.getD 3 [])).getD [] } else none) else
 if w0=[108,111,115,101]∧ws.length=2 then (if 0≤rnumG (ws.getD 1 []) then some { ItV.z with op:=10,n:=rnumG (ws.getD 1 []) } else none) else none
section
variable {C:Cfg} (S:StdL C)
include S
end
end Abs
end Go.Proofs.YthgcjbniipfnbaaGreatDoor
namespace Go.Proofs.YthgcjbniipfnbaaGreatDoor
namespace Abs
set_option linter.unusedVariables false
set_option linter.unusedSimpArgs false
open Go.RowKit
attribute [local irreducible] WO WC WD StepK Ans Does Runs DoesD
noncomputable def rparseG (s:List Nat):ItV × Int :=
 let ws:=wordsF s
 if ws=[] then (ItV.z,15) else
 let k:=idxF (ws.getD 0 []) plL 0
 if 0≤k∧ws.length=1 then ({ ItV.z with op:=k },0) else
 match ropG ws with
 | some o=>({ ItV.z with o:=o },0)
 | none=>match rnamedG ws with
  | some x=>(x,0)
  | none=>(ItV.z,15)
theorem wordsF_ok {s:List Nat} {n:Nat} (hb:Byt s) (hl:s.length≤n):∀ w∈wordsF s,Byt w∧w.length≤n:=by
 unfold wordsF
 split
 ·intro w hw;cases hw
 ·exact splitF_ok hb hl
section
variable {C:Cfg} (S:StdL C)
include S
end
end Abs
end Go.Proofs.YthgcjbniipfnbaaGreatDoor
