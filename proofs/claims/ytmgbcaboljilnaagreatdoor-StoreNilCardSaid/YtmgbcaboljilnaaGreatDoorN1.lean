/- StoreNil's run, for every key: the kernel evaluates the abstract machine. -/
import Derived.Test.YtmgbcaboljilnaaGreatDoorB7
namespace Go.Proofs.YtmgbcaboljilnaaGreatDoor
namespace Abs
open Go.RowKit
set_option maxRecDepth 1000000
theorem storeNil_run : ∀ l : List Nat, isTrue ((fast cfg1 100).1 (.fn 3) [.str l] (baseH gl)) = true := fun l => by kernel_rfl
theorem storeNil_walk (w : World) (hG : GW gl w) (a : ByteArray) : Calls Tryz.prog 3 #[.string a] w fun e w' => e = .returned (.bool true) ∧ Below w.heap.size w w' :=
  law_true Tryz.func3 (by kernel_rfl) (by kernel_rfl) (storeNil_run (strOf a)) hG (.cons _ _ _ _ (.str a _ rfl) .nil)
end Abs
end Go.Proofs.YtmgbcaboljilnaaGreatDoor
