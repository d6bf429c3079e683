/- SecondNil's run, for every key: the kernel evaluates the abstract machine. -/
import Derived.Test.YtdbkogdgccjclaaDoorB7
namespace Go.Proofs.YtdbkogdgccjclaaDoor
namespace Abs
open Go.RowKit
theorem secondNil_run : ∀ l : List Nat, isTrue ((fast cfg1 100).1 (.fn 4) [.str l] (baseH gl)) = true := fun l => by kernel_rfl
theorem secondNil_walk (w : World) (hG : GW gl w) (a : ByteArray) : Calls Tryd.prog 4 #[.string a] w fun e w' => e = .returned (.bool true) ∧ Below w.heap.size w w' :=
  law_true Tryd.func4 (by kernel_rfl) (by kernel_rfl) (secondNil_run (strOf a)) hG (.cons _ _ _ _ (.str a _ rfl) .nil)
end Abs
end Go.Proofs.YtdbkogdgccjclaaDoor
