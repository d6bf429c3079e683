/- The row's closed facts, each by the kernel, one by one. -/
import Derived.Test.YthgcjbniipfnbaaGreatDoorRows
import Derived.KernelRfl
import Derived.JoinedCond
import Derived.Deep.DeepHandedRow
namespace Go.Proofs.YthgcjbniipfnbaaGreatDoor.shellBack
set_option maxRecDepth 100000
set_option maxHeartbeats 100000000 in
theorem closed:joinedFacts Tryz.prog 5 Tryz.f5 (OpenSpec.ofChange Rows.shellBackSpec).bare Rows.shellBackRow=true:=by
 unfold joinedFacts
 simp only [Bool.and_eq_true]
 and_intros
 all_goals decide +kernel
end Go.Proofs.YthgcjbniipfnbaaGreatDoor.shellBack
