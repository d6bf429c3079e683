/- Layer 24: ShellBack from the machine to the model. -/
import Derived.Test.YthgcjbniipfnbaaGreatDoorM26
import Derived.Test.YthgcjbniipfnbaaGreatDoorH38
namespace Go.Proofs.YthgcjbniipfnbaaGreatDoor
namespace Abs
set_option linter.unusedVariables false
set_option linter.unusedSimpArgs false
set_option maxRecDepth 100000
open Go.RowKit Go.ChangeShapes Go.WideShapes Go.Joins
section
variable {H:Type} {enc:TypeId × Value→H} {w:World} {held:Bool}
theorem shellBack_walk (w:World) (hG:GW gl2 w) (Va:Vars w.heap.size w) {held0:Bool} {rc0:Reach} {b0:Nat} {v0:Value} {d0:DataW H} {p0:List MemPlace} (hd0:DataW.Trod enc Tryz.prog w 0 (fun _=>true) held0 33 v0 d0 p0) (hv0:Value.okWide Tryz.prog w rc0 b0 33 v0)
  (hw0:(d0.weights Tryz.prog 33).all (·≤reachBytes)=true) (b:ByteArray) (hb:b.data.toList.length≤reachBytes) :
  Calls Tryz.prog 5 #[v0,.string b] w fun e w'=>e=.returned (.bool true)∧Below w.heap.size w w':=by
 obtain ⟨cs0,f0,rfl,t0⟩:=struct_cells Tryz.underlying33 hv0 hd0
 have r0:=rel_base (P:=Tryz.prog) gl2 gl2_lt w hG
 obtain ⟨ρ1,h1,x,u,k,r1,le1,g1,vr1,hu,hk,ii,l1,l2,l3,l4,l5⟩:=open_item (gw2_pos hG) t0 hw0 rhoG (baseH gl2) r0
 exact law_at Tryz.func5 (by kernel_rfl) (by kernel_rfl) Va (shellBack_ans (cfgP_std Va) h1 r1.fresh (glB_grow _ _ glB_base g1) x u k hu hk ii (strOf b) (byt_strOf b) ⟨l1,l2,l3,l4,l5,str_len hb⟩) r1 (.cons _ _ _ _ (.agg _ _ vr1) (.cons _ _ _ _ (.str _ _ rfl) .nil))
end
end Abs
end Go.Proofs.YthgcjbniipfnbaaGreatDoor
