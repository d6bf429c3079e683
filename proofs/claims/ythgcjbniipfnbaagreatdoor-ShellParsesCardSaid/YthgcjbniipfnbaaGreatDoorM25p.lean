/- Layer 24: ShellParses from the machine to the model. -/
import Derived.Test.YthgcjbniipfnbaaGreatDoorM25
import Derived.Test.YthgcjbniipfnbaaGreatDoorH26
namespace Go.Proofs.YthgcjbniipfnbaaGreatDoor
namespace Abs
set_option linter.unusedVariables false
set_option maxRecDepth 1000000
open Go.RowKit
theorem shellParses_walk (w:World) (hG:GW gl2 w) (V:Vars w.heap.size w) (b:ByteArray):Calls Tryz.prog 3 #[.string b] w fun e w'=>e=.returned (.bool true)∧Below w.heap.size w w':=by
 have r0:=rel_base (P:=Tryz.prog) gl2 gl2_lt w hG
 exact law_at Tryz.func3 (by kernel_rfl) (by kernel_rfl) V (shellParses_ans (cfgP_std V) (baseH gl2) r0.fresh glB_base (strOf b) (byt_strOf b) (fun _=>parse_same _)) r0 (.cons _ _ _ _ (.str _ _ rfl) .nil)
end Abs
end Go.Proofs.YthgcjbniipfnbaaGreatDoor
