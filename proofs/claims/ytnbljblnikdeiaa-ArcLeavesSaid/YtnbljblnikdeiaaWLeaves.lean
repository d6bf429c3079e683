/- Layer 11: what a call of ArcLeaves comes to. -/
import Derived.Test.YtnbljblnikdeiaaOpen
import Derived.Test.YtnbljblnikdeiaaD15
namespace Go.Proofs.Ytnbljblnikdeiaa
namespace Abs
set_option linter.unusedVariables false
open Go.RowKit
theorem arcLeaves_walk {H : Type} {enc : TypeId × Value → H} {sp : Nat → Bool} {held : Bool} {rc : Reach} {b0 : Nat} (w : World) (a0 : Int) (w0 : (Lit.int .i64 a0).wf = true) {v1 : Value} {d1 : DataW H} {p1 : List MemPlace} (h1' : DataW.Trod enc Try.prog w 0 sp held 22 v1 d1 p1) (k1 : Value.okWide Try.prog w rc b0 22 v1) (a2 : ByteArray) :
    Calls Try.prog 5 #[.int .i64 a0, v1, .string a2] w fun e w' => e = .returned (.bool true) ∧ Below w.heap.size w w' := by
  obtain ⟨ρ1, h1, x, es, r1, _, g1, vx, sx, ex, _⟩ := open_sl (sz := 2) Try.underlying22 rfl k1 h1' isOp (fun _ _ _ h => op_elem h) (rel_empty w)
  obtain ⟨R, rfl⟩ := ops_of ex
  exact law_of Try.func5 (by kernel_rfl) (by kernel_rfl) (leaves_law cfgL_std r1.fresh x a0 (strOf a2) R sx) r1 (.cons _ _ _ _ (.int _ _) (.cons _ _ _ _ vx (.cons _ _ _ _ (.str a2 _ rfl) .nil)))
end Abs
end Go.Proofs.Ytnbljblnikdeiaa
