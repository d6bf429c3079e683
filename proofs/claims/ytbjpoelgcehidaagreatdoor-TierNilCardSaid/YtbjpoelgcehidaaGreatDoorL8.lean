/- live() runs to true, its pieces taken as they were run. -/
import Derived.Test.YtbjpoelgcehidaaGreatDoorL1
import Derived.KernelRfl
namespace Go.Proofs.YtbjpoelgcehidaaGreatDoor
namespace Abs
noncomputable section
set_option linter.unusedVariables false
set_option maxRecDepth 1000000
theorem live_run : isT ((fast (cfgI.cuts [lv1, lv2, lv3, lv5, lv6, lv7, lv8, lv12, lv13, lv14, lv15, lv20, lv21]) 3000).1 (.fn 34) [] (baseH gl2)) = true := by kernel_rfl
end
end Abs
end Go.Proofs.YtbjpoelgcehidaaGreatDoor
