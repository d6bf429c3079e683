/- Layer 7: what a call of SpaceTakes comes to. -/
import Derived.Test.YtkdoemlhjhmfhaaOpen
import Derived.Test.YtkdoemlhjhmfhaaC17
namespace Go.Proofs.Ytkdoemlhjhmfhaa
namespace Abs
set_option linter.unusedVariables false
open Go.RowKit
theorem open_run {H : Type} {enc : TypeId × Value → H} {sp : Nat → Bool} {held : Bool} {rc : Reach} {b0 : Nat} {w : World} {v : Value} {d : DataW H} {p : List MemPlace} (h : DataW.Trod enc Try.prog w 0 sp held 39 v d p) (k : Value.okWide Try.prog w rc b0 39 v) :
    ∃ (r : Int × Int) (cs : Array Value), v = .agg cs ∧ VRs noRho [.int .i64 r.1, .int .i64 r.2] cs.toList ∧ -9223372036854775808 ≤ r.2 ∧ r.2 < 9223372036854775808 := by
  unfold Value.okWide at k
  rw [Try.underlying39] at k
  obtain ⟨cs, rfl, _⟩ := k
  obtain ⟨m, hm⟩ := h
  obtain ⟨vs, q1, _, a, n, rfl, q3, q4⟩ := run_elem hm
  exact ⟨(a, n), cs, rfl, q1, q4⟩
theorem spaceTakes_walk {H : Type} {enc : TypeId × Value → H} {sp : Nat → Bool} {held : Bool} {rc : Reach} {b0 : Nat} (w : World) {v0 v2 : Value} {d0 d2 : DataW H} {p0 p2 : List MemPlace} (h0' : DataW.Trod enc Try.prog w 0 sp held 22 v0 d0 p0) (k0 : Value.okWide Try.prog w rc b0 22 v0)
    (a1 : Int) (w1 : (Lit.int .i64 a1).wf = true) (h2' : DataW.Trod enc Try.prog w 0 sp held 39 v2 d2 p2) (k2 : Value.okWide Try.prog w rc b0 39 v2) : Calls Try.prog 4 #[v0, .int .i64 a1, v2] w fun e w' => e = .returned (.bool true) ∧ Below w.heap.size w w' := by
  obtain ⟨ρ1, h1, x, es, r1, _, g1, vx, sx, ex, _⟩ := open_sl (sz := 2) Try.underlying22 rfl k0 h0' isRun (fun _ _ _ h => run_elem h) (rel_empty w)
  obtain ⟨R, rfl, hR⟩ := runs_of ex
  obtain ⟨r, cs, rfl, q1, q2⟩ := open_run h2' k2
  exact law_of Try.func4 (by kernel_rfl) (by kernel_rfl) (takes_ans cfgL_S rfl cfgL_live h1 r1.fresh x R a1 r sx (fun r hr => (hR r hr).2) q2) r1 (.cons _ _ _ _ vx (.cons _ _ _ _ (.int _ _) (.cons _ _ _ _ (.agg _ _ (q1.mono (noRho_le ρ1))) .nil)))
end Abs
end Go.Proofs.Ytkdoemlhjhmfhaa
