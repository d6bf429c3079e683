/- A table that a row lists, as the machine's memory bears it; a law that the machine runs to the end. -/
import Derived.Test.YthdgjjggndfbhaaDoorB6
import Derived.Lib.LaidTab
namespace Go.Proofs.YthdgjjggndfbhaaDoor
namespace Abs
set_option linter.unusedVariables false
open Go.RowKit

theorem tab_facts {P : Program} {W : World} {name : String} {k : IntKind} {zs : List Int} {g : Nat} (h : Lib.TabIs P W name k zs) (hg : P.globalNamed name = some g) (h0 : 0 < zs.length) :
    g < W.heap.size ∧ CellFacts noRho W ⟨g, 0, 0⟩ (zs.map fun n => .int k n) := by
  have hc : ∀ i v, (zs.map fun n => V.int k n)[i]? = some v → ∃ u, W.cell? ⟨g, i, none⟩ = some u ∧ VR noRho v u := by
    intro i v hv
    rw [List.getElem?_map] at hv
    obtain ⟨z, hz, rfl⟩ := Option.map_eq_some_iff.1 hv
    have hi := (List.getElem?_eq_some_iff.1 hz).1
    refine ⟨.int k z, ?_, .int _ _⟩
    rw [h.cell hg i hi, List.getD, hz]; rfl
  refine ⟨?_, fun i v hv => ?_⟩
  · obtain ⟨u, hu, _⟩ := hc 0 _ (by rw [List.getElem?_map, List.getElem?_eq_getElem h0]; rfl)
    rcases Nat.lt_or_ge g W.heap.size with q | q
    · exact q
    · exfalso
      have : W.heap[g]? = none := Array.getElem?_eq_none q
      simp [World.cell?, this] at hu
  · obtain ⟨u, q1, q2⟩ := hc i v hv
    refine ⟨u, ?_, q2⟩
    simpa [at_] using q1

/-- What a row's list gives: the cube roots' words lie in the memory. -/
theorem gw_gl {W : World} (h : Lib.TabIs Tryd.prog W "permafrost/sum.roots" .u32 (rootsN.map iN)) (hg : Tryd.prog.globalNamed "permafrost/sum.roots" = some 0) : GW gl W := by
  intro p hp
  obtain rfl := List.mem_singleton.1 hp
  exact tab_facts h hg (by decide)

/-- A run that ends in true. -/
def isTrue : Option (V × Heap) → Bool
  | some (.bool b, _) => b
  | _ => false
theorem isTrue_eq {r : Option (V × Heap)} (h : isTrue r = true) : ∃ h1, r = some (.bool true, h1) := by
  unfold isTrue at h
  split at h
  · subst h; exact ⟨_, rfl⟩
  · cases h
theorem law_true {n : Nat} {f : FuncId} {fn : Func} (hf : Tryd.prog.funcs[f]? = some fn) (hb : fn.body.isSome = true) (hnm : (fn.name == "runtime.NumGoroutine") = false)
    {args : List V} (hx : isTrue ((fast cfg1 n).1 (.fn f) args (baseH gl)) = true) {w : World} {us : Array Value} (hG : GW gl w) (hr : VRs rhoG args us.toList) :
    Calls Tryd.prog f us w fun e w' => e = .returned (.bool true) ∧ Below w.heap.size w w' := by
  rw [fast_eq] at hx
  obtain ⟨h1, hx⟩ := isTrue_eq hx
  exact law_calls cfg1_tab all_sum hf hb hnm hx (rel_base gl (by decide) w hG) hr
end Abs
end Go.Proofs.YthdgjjggndfbhaaDoor
