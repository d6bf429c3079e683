/- The row's closed facts, each by the kernel, one by one. -/
import Derived.Test.YtbjpoelgcehidaaGreatDoorRows
import Derived.KernelRfl
import Derived.JoinedCond
import Derived.Deep.DeepHandedRow
namespace Go.Proofs.YtbjpoelgcehidaaGreatDoor.censusNil
set_option maxRecDepth 100000
set_option maxHeartbeats 100000000 in
theorem closed : joinedFacts Tryz.prog 3 Tryz.f3 (OpenSpec.ofChange Rows.censusNilSpec).bare Rows.censusNilRow = true := by
  unfold joinedFacts
  simp only [Bool.and_eq_true]
  and_intros
  all_goals decide +kernel
end Go.Proofs.YtbjpoelgcehidaaGreatDoor.censusNil
