/- The row's closed facts, each by the kernel, one by one. -/
import Derived.Test.YthgcjbniipfnbaaGreatDoorRows
import Derived.KernelRfl
import Derived.JoinedCond
import Derived.Deep.DeepHandedRow
namespace Go.Proofs.YthgcjbniipfnbaaGreatDoor.shellParses
set_option maxRecDepth 100000
set_option maxHeartbeats 100000000 in
theorem closed:joinedFacts Tryz.prog 3 Tryz.f3 (OpenSpec.ofChange Rows.shellParsesSpec).bare Rows.shellParsesRow=true:=by
 unfold joinedFacts
 simp only [Bool.and_eq_true]
 and_intros
 all_goals decide +kernel
end Go.Proofs.YthgcjbniipfnbaaGreatDoor.shellParses
