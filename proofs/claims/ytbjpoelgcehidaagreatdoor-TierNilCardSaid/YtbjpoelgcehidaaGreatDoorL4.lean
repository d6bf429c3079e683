/- Pieces of live(), run by the kernel. -/
import Derived.Test.YtbjpoelgcehidaaGreatDoorL1
import Derived.KernelRfl
namespace Go.Proofs.YtbjpoelgcehidaaGreatDoor
namespace Abs
noncomputable section
set_option linter.unusedVariables false
set_option maxRecDepth 1000000
theorem lv9_ok : cutOk2 cfgI 3000 lv9 = true := by kernel_rfl
theorem lv10_ok : cutOk cfgI 3000 lv10 = true := by kernel_rfl
theorem lv11_ok : cutOk cfgI 3000 lv11 = true := by kernel_rfl
theorem lv12_ok : cutOk cfgI 3000 lv12 = true := by kernel_rfl
end
end Abs
end Go.Proofs.YtbjpoelgcehidaaGreatDoor
