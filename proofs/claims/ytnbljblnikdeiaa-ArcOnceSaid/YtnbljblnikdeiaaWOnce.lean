/- Layer 11: what a call of ArcOnce comes to. -/
import Derived.Test.YtnbljblnikdeiaaOpen
import Derived.Test.YtnbljblnikdeiaaD17
namespace Go.Proofs.Ytnbljblnikdeiaa
namespace Abs
set_option linter.unusedVariables false
open Go.RowKit
theorem arcOnce_walk (w : World) (a0 : Int) (w0 : (Lit.int .i64 a0).wf = true) (a1 : Int) (w1 : (Lit.int .i64 a1).wf = true) :
    Calls Try.prog 7 #[.int .i64 a0, .int .i64 a1] w fun e w' => e = .returned (.bool true) ∧ Below w.heap.size w w' :=
  law_of Try.func7 (by kernel_rfl) (by kernel_rfl) (once_law cfgL_std (rel_empty w).fresh a0 a1) (rel_empty w) (.cons _ _ _ _ (.int _ _) (.cons _ _ _ _ (.int _ _) .nil))
end Abs
end Go.Proofs.Ytnbljblnikdeiaa
