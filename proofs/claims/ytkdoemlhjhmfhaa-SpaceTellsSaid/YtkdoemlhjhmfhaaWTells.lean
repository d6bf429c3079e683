/- Layer 7: what a call of SpaceTells comes to. -/
import Derived.Test.YtkdoemlhjhmfhaaOpen
import Derived.Test.YtkdoemlhjhmfhaaC8
namespace Go.Proofs.Ytkdoemlhjhmfhaa
namespace Abs
set_option linter.unusedVariables false
open Go.RowKit
theorem spaceTells_walk {H : Type} {enc : TypeId × Value → H} {sp : Nat → Bool} {held : Bool} {rc : Reach} {b0 : Nat} (w : World) {v0 v2 : Value} {d0 d2 : DataW H} {p0 p2 : List MemPlace} (h0' : DataW.Trod enc Try.prog w 0 sp held 22 v0 d0 p0) (k0 : Value.okWide Try.prog w rc b0 22 v0)
    (a1 : Int) (w1 : (Lit.int .i64 a1).wf = true) (h2' : DataW.Trod enc Try.prog w 0 sp held 23 v2 d2 p2) (k2 : Value.okWide Try.prog w rc b0 23 v2) : Calls Try.prog 3 #[v0, .int .i64 a1, v2] w fun e w' => e = .returned (.bool true) ∧ Below w.heap.size w w' := by
  obtain ⟨ρ1, h1, x, es, r1, _, g1, vx, sx, ex, _⟩ := open_sl (sz := 2) Try.underlying22 rfl k0 h0' isRun (fun _ _ _ h => run_elem h) (rel_empty w)
  obtain ⟨ρ2, h2, y, us, r2, l2, g2, vy, sy, ey, _⟩ := open_sl (sz := 1) Try.underlying23 rfl k2 h2' (fun c => ∃ b : Bool, c = [.bool b]) (fun _ _ _ h => bool_elem h) r1
  obtain ⟨R, rfl, hR⟩ := runs_of ex
  obtain ⟨U, rfl⟩ := bools_of ey
  exact law_of Try.func3 (by kernel_rfl) (by kernel_rfl) (tells_ans cfgL_S rfl cfgL_live h2 r2.fresh x y R U a1 (sx.grow g2) sy (fun r hr => (hR r hr).2)) r2 (.cons _ _ _ _ (vx.mono l2) (.cons _ _ _ _ (.int _ _) (.cons _ _ _ _ vy .nil)))
end Abs
end Go.Proofs.Ytkdoemlhjhmfhaa
