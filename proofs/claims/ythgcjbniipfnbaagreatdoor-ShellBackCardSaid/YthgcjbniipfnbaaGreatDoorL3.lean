/- live() runs to true, its pieces taken as they were run. -/
import Derived.Test.YthgcjbniipfnbaaGreatDoorL1
import Derived.KernelRfl
namespace Go.Proofs.YthgcjbniipfnbaaGreatDoor
namespace Abs
noncomputable section
set_option linter.unusedVariables false
set_option maxRecDepth 1000000
theorem live_run:isT ((run (cfgI.cuts [lv1,lv2,lv4]) 300).1 (.fn 7) [] (baseH gl2))=true:=by kernel_rfl
end
end Abs
end Go.Proofs.YthgcjbniipfnbaaGreatDoor
