/- Pieces of live(), run by the kernel. -/
import Derived.Test.YtbjpoelgcehidaaGreatDoorL1
import Derived.KernelRfl
namespace Go.Proofs.YtbjpoelgcehidaaGreatDoor
namespace Abs
noncomputable section
set_option linter.unusedVariables false
set_option maxRecDepth 1000000
theorem lv5_ok : cutOk cfgI 3000 lv5 = true := by kernel_rfl
theorem lv6_ok : cutOk cfgI 3000 lv6 = true := by kernel_rfl
theorem lv7_ok : cutOk cfgI 3000 lv7 = true := by kernel_rfl
theorem lv8_ok : cutOk (cfgI.cuts [lv9, lv10, lv11]) 3000 lv8 = true := by kernel_rfl
end
end Abs
end Go.Proofs.YtbjpoelgcehidaaGreatDoor
