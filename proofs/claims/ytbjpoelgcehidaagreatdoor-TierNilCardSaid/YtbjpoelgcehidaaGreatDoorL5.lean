/- Pieces of live(), run by the kernel. -/
import Derived.Test.YtbjpoelgcehidaaGreatDoorL1
import Derived.KernelRfl
namespace Go.Proofs.YtbjpoelgcehidaaGreatDoor
namespace Abs
noncomputable section
set_option linter.unusedVariables false
set_option maxRecDepth 1000000
theorem lv13_ok : cutOk cfgI 3000 lv13 = true := by kernel_rfl
theorem lv14_ok : cutOk2 cfgI 3000 lv14 = true := by kernel_rfl
theorem lv15_ok : cutOk (cfgI.cuts [lv16, lv17, lv19]) 3000 lv15 = true := by kernel_rfl
theorem lv16_ok : cutOk2 cfgI 3000 lv16 = true := by kernel_rfl
end
end Abs
end Go.Proofs.YtbjpoelgcehidaaGreatDoor
