/- Layer 24: answers that come in; ShellPrints from the machine to the model. -/
import Derived.Test.YthgcjbniipfnbaaGreatDoorM26
namespace Go.Proofs.YthgcjbniipfnbaaGreatDoor
namespace Abs
set_option linter.unusedVariables false
set_option linter.unusedSimpArgs false
set_option maxRecDepth 100000
open Go.RowKit Go.ChangeShapes Go.WideShapes Go.Joins
section
variable {H:Type} {enc:TypeId × Value→H} {w:World} {held:Bool}
theorem dG {fuel:Nat} {cs:List Value} {y:DataW H × List MemPlace} (h:DataW.trod enc Tryz.prog w 0 (fun _=>true) held fuel 9 cs=some y):∃ vs,VRs uN vs cs∧vs.length=1∧∃ b,vs=[V.str (strOf b)]:=by
 obtain ⟨a,p0,_,_⟩:=DataW.trod_string Tryz.underlying9 h
 subst p0
 exact ⟨[.str (strOf a)],.cons _ _ _ _ (.str _ _ rfl) .nil,rfl,_,rfl⟩
theorem jU (hpos:0<w.heap.size) {fuel:Nat} {cs:List Value} {y:DataW H × List MemPlace} (hd:DataW.trod enc Tryz.prog w 0 (fun _=>true) held fuel 41 cs=some y) (hwt:(y.1.weights Tryz.prog 41).all (·≤reachBytes)=true) (ρ:Rho) (h:Heap) (r:Rel Tryz.prog w.heap.size w ρ h w) :
  ∃ (ρ':Rho) (h':Heap) (a:AnV) (q:V),Rel Tryz.prog w.heap.size w ρ' h' w∧RLe ρ ρ'∧Grow h h'∧VRs ρ' (a.cs q) cs∧Sl h' 1 q (zB a.names)∧Zq a∧a.data.length≤1000000000000000000∧a.names.length≤9223372036854775807:=by
 obtain ⟨xs,n,_,hy,hl,hlen,hf⟩:=DataW.trod_struct Tryz.underlying41 hd
 subst hy
 replace hwt:=o8 Tryz.underlying41 hwt
 have hl:cs.length=4:=hl.trans (by kernel_rfl:Tryz.prog.cellsOf 41=4)
 match cs,hl,xs,hlen with
 | [c0,c1,c2,c3],_,[y0,y1,y2,y3],_ =>
  have g0:DataW.trod enc Tryz.prog w 0 (fun _=>true) held n 30 [c0]=some y0:=hf 0 _ rfl
  have g1:DataW.trod enc Tryz.prog w 0 (fun _=>true) held n 3 [c1]=some y1:=hf 1 _ rfl
  have g2:DataW.trod enc Tryz.prog w 0 (fun _=>true) held n 9 [c2]=some y2:=hf 2 _ rfl
  have g3:DataW.trod enc Tryz.prog w 0 (fun _=>true) held n 39 [c3]=some y3:=hf 3 _ rfl
  obtain ⟨a0,p0,_,w0⟩:=DataW.trod_int Tryz.underlying30 g0
  obtain ⟨a1,p1,_,w1⟩:=DataW.trod_int Tryz.underlying3 g1
  obtain ⟨a2,p2,e2,_⟩:=DataW.trod_string Tryz.underlying9 g2
  obtain ⟨ρ1,h1,u,bs,r1,le1,gr1,hv1,sl1,hk1⟩:=mH (g:=fun b=>[V.str (strOf b)]) (sz:=1) (by decide) Tryz.underlying39 (by kernel_rfl) (fun _ _ _ q=>dG q) g3 ρ h r hpos
  cases p0;cases p1;cases p2
  subst e2
  have s2:=sized_string (j:=2) hwt rfl rfl
  have hst:zB (bs.map strOf)=bs.map fun b=>[V.str (strOf b)]:=by unfold zB;rw [List.map_map];rfl
  refine ⟨ρ1,h1,⟨a0,a1,strOf a2,bs.map strOf⟩,u,r1,le1,gr1,?_,by rw [hst];exact sl1,⟨vu w0,vu w1,xW _,fun t ht=>?_⟩,uf s2,by simpa using hk1⟩
  ·exact .cons _ _ _ _ (.int _ _) (.cons _ _ _ _ (.int _ _) (.cons _ _ _ _ (.str _ _ rfl) (.cons _ _ _ _ hv1 .nil)))
  ·obtain ⟨b,_,rfl⟩:=List.mem_map.1 ht
   exact xW b
theorem shellPrints_walk (w:World) (hG:GW gl2 w) (Va:Vars w.heap.size w) {held0 held1:Bool} {rc0 rc1:Reach} {b0 b1:Nat} {v0 v1:Value} {d0 d1:DataW H} {p0 p1:List MemPlace} (hd0:DataW.Trod enc Tryz.prog w 0 (fun _=>true) held0 33 v0 d0 p0) (hv0:Value.okWide Tryz.prog w rc0 b0 33 v0)
  (hd1:DataW.Trod enc Tryz.prog w 0 (fun _=>true) held1 41 v1 d1 p1) (hv1:Value.okWide Tryz.prog w rc1 b1 41 v1) (hw0:(d0.weights Tryz.prog 33).all (·≤reachBytes)=true) (hw1:(d1.weights Tryz.prog 41).all (·≤reachBytes)=true) :
  Calls Tryz.prog 4 #[v0,v1] w fun e w'=>e=.returned (.bool true)∧Below w.heap.size w w':=by
 obtain ⟨cs0,f0,rfl,t0⟩:=sR Tryz.underlying33 hv0 hd0
 obtain ⟨cs1,f1,rfl,t1⟩:=sR Tryz.underlying41 hv1 hd1
 have r0:=kj (P:=Tryz.prog) gl2 eV w hG
 obtain ⟨ρ1,h1,x,u,k,r1,le1,g1,vr1,hu,hk,ii,l1,l2,l3,l4,l5⟩:=eu (iS hG) t0 hw0 rh (yL gl2) r0
 obtain ⟨ρ2,h2,a,q,r2,le2,g2,vr2,sq,ai,l6,l7⟩:=jU (iS hG) t1 hw1 ρ1 h1 r1
 exact Z4 Tryz.func4 (by kernel_rfl) (by kernel_rfl) Va (oq (cG Va) h2 r2.fresh (jg _ _ ct (g1.trans g2)) x u k hu hk ii a q sq ai ⟨l1,l2,l3,l4,l5,l6,l7⟩) r2 (.cons _ _ _ _ (.agg _ _ (vr1.mono le2)) (.cons _ _ _ _ (.agg _ _ vr2) .nil))
end
end Abs
end Go.Proofs.YthgcjbniipfnbaaGreatDoor
