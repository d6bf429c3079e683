/- Pieces of live(), run by the kernel. -/
import Derived.Test.YthgcjbniipfnbaaGreatDoorL1
import Derived.KernelRfl
namespace Go.Proofs.YthgcjbniipfnbaaGreatDoor
namespace Abs
noncomputable section
set_option linter.unusedVariables false
set_option maxRecDepth 1000000
theorem lv1_ok:cutOk cfgI 300 lv1=true:=by kernel_rfl
theorem lv2_ok:cutOk (cfgI.cuts [lv3]) 300 lv2=true:=by kernel_rfl
theorem lv3_ok:cutOk cfgI 300 lv3=true:=by kernel_rfl
theorem lv4_ok:cutOk cfgI 300 lv4=true:=by kernel_rfl
end
end Abs
end Go.Proofs.YthgcjbniipfnbaaGreatDoor
