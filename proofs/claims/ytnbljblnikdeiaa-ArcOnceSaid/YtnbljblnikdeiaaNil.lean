/- ArcNil's run, for every key: the kernel evaluates the abstract machine. -/
import Derived.Test.YtnbljblnikdeiaaIR
namespace Go.Proofs.Ytnbljblnikdeiaa
namespace Abs
open Go.RowKit
def cfgNil : Cfg := ⟨tab, fun _ _ _ => none⟩
theorem cfgNil_tab : TableOk Try.prog cfgNil := fun f af h => tab_row f af h
theorem cfgNil_sum (B : Nat) (w0 : World) : SumOk Try.prog B w0 cfgNil := fun f args h v h' hx => by cases hx
theorem arcNil_run : ∀ l : List Nat, (run cfgNil 100).1 6 [.str l] h0 = some (.bool true, h0) := fun l => by kernel_rfl
theorem arcNil_walk (w : World) (a : ByteArray) : Calls Try.prog 6 #[.string a] w fun e w' => e = .returned (.bool true) ∧ Below w.heap.size w w' :=
  law_calls cfgNil_tab cfgNil_sum Try.func6 (by kernel_rfl) (by kernel_rfl) (arcNil_run (strOf a)) (rel_empty w) (.cons _ _ _ _ (.str a _ rfl) .nil)
end Abs
end Go.Proofs.Ytnbljblnikdeiaa
