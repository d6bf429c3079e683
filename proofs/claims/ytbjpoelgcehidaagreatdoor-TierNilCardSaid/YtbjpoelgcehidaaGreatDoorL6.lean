/- Pieces of live(), run by the kernel. -/
import Derived.Test.YtbjpoelgcehidaaGreatDoorL1
import Derived.KernelRfl
namespace Go.Proofs.YtbjpoelgcehidaaGreatDoor
namespace Abs
noncomputable section
set_option linter.unusedVariables false
set_option maxRecDepth 1000000
theorem lv17_ok : cutOk (cfgI.cuts [lv18]) 3000 lv17 = true := by kernel_rfl
theorem lv18_ok : cutOk cfgI 3000 lv18 = true := by kernel_rfl
theorem lv19_ok : cutOk cfgI 3000 lv19 = true := by kernel_rfl
theorem lv20_ok : cutOk cfgI 3000 lv20 = true := by kernel_rfl
end
end Abs
end Go.Proofs.YtbjpoelgcehidaaGreatDoor
