/- The row's closed facts, each by the kernel, one by one. -/
import Derived.Test.YtbjpoelgcehidaaGreatDoorRows
import Derived.KernelRfl
import Derived.JoinedCond
import Derived.Deep.DeepHandedRow
namespace Go.Proofs.YtbjpoelgcehidaaGreatDoor.tierNil
set_option maxRecDepth 100000
set_option maxHeartbeats 100000000 in
theorem closed : joinedFacts Tryz.prog 5 Tryz.f5 (OpenSpec.ofChange Rows.tierNilSpec).bare Rows.tierNilRow = true := by
  unfold joinedFacts
  simp only [Bool.and_eq_true]
  and_intros
  all_goals decide +kernel
end Go.Proofs.YtbjpoelgcehidaaGreatDoor.tierNil
