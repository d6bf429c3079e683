/- Layer 7: what a call of SpaceAll comes to. -/
import Derived.Test.YtkdoemlhjhmfhaaOpen
import Derived.Test.YtkdoemlhjhmfhaaC20
namespace Go.Proofs.Ytkdoemlhjhmfhaa
namespace Abs
set_option linter.unusedVariables false
open Go.RowKit
theorem spaceAll_walk {H : Type} {enc : TypeId × Value → H} {sp : Nat → Bool} {held : Bool} {rc : Reach} {b0 : Nat} (w : World) {v0 : Value} {d0 : DataW H} {p0 : List MemPlace} (h0' : DataW.Trod enc Try.prog w 0 sp held 23 v0 d0 p0) (k0 : Value.okWide Try.prog w rc b0 23 v0)
    (a1 : Int) (w1 : (Lit.int .i64 a1).wf = true) : Calls Try.prog 5 #[v0, .int .i64 a1] w fun e w' => e = .returned (.bool true) ∧ Below w.heap.size w w' := by
  obtain ⟨ρ1, h1, x, es, r1, _, g1, vx, sx, ex, _⟩ := open_sl (sz := 1) Try.underlying23 rfl k0 h0' (fun c => ∃ b : Bool, c = [.bool b]) (fun _ _ _ h => bool_elem h) (rel_empty w)
  obtain ⟨U, rfl⟩ := bools_of ex
  exact law_of Try.func5 (by kernel_rfl) (by kernel_rfl) (all_ans cfgL_S rfl cfgL_live h1 r1.fresh x U a1 sx (wf64 w1).2) r1 (.cons _ _ _ _ vx (.cons _ _ _ _ (.int _ _) .nil))
end Abs
end Go.Proofs.Ytkdoemlhjhmfhaa
