/- Layer 7: what a call of SpaceRefuse comes to. -/
import Derived.Test.YtkdoemlhjhmfhaaOpen
import Derived.Test.YtkdoemlhjhmfhaaC18
namespace Go.Proofs.Ytkdoemlhjhmfhaa
namespace Abs
set_option linter.unusedVariables false
open Go.RowKit
theorem spaceRefuse_walk {H : Type} {enc : TypeId × Value → H} {sp : Nat → Bool} {held : Bool} {rc : Reach} {b0 : Nat} (w : World) {v0 : Value} {d0 : DataW H} {p0 : List MemPlace} (h0' : DataW.Trod enc Try.prog w 0 sp held 22 v0 d0 p0) (k0 : Value.okWide Try.prog w rc b0 22 v0)
    (a1 : Int) (w1 : (Lit.int .i64 a1).wf = true) : Calls Try.prog 7 #[v0, .int .i64 a1] w fun e w' => e = .returned (.bool true) ∧ Below w.heap.size w w' := by
  obtain ⟨ρ1, h1, x, es, r1, _, g1, vx, sx, ex, _⟩ := open_sl (sz := 2) Try.underlying22 rfl k0 h0' isRun (fun _ _ _ h => run_elem h) (rel_empty w)
  obtain ⟨R, rfl, hR⟩ := runs_of ex
  exact law_of Try.func7 (by kernel_rfl) (by kernel_rfl) (refuse_ans cfgL_S rfl cfgL_live h1 r1.fresh x R a1 sx (fun r hr => (hR r hr).2)) r1 (.cons _ _ _ _ vx (.cons _ _ _ _ (.int _ _) .nil))
end Abs
end Go.Proofs.Ytkdoemlhjhmfhaa
