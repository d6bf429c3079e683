/- Layer 14: SecondLately from the machine to the model. -/
import Derived.Test.YtlgbdjlnbnlphaaDoorL2
import Derived.Test.YtlgbdjlnbnlphaaDoorD30
namespace Go.Proofs.YtlgbdjlnbnlphaaDoor
namespace Abs
set_option linter.unusedVariables false
set_option linter.unusedSimpArgs false
set_option maxRecDepth 100000
open Go.RowKit Go.ChangeShapes Go.WideShapes Go.Joins

section
variable {H : Type} {enc : TypeId × Value → H} {w : World} {held : Bool}
theorem secondLately_walk (w : World) (hG : GW gl w) {rc : Reach} {b0 : Nat} {v : Value} {d : DataW H} {p : List MemPlace} (hd : DataW.Trod enc Tryd.prog w 0 (fun _ => true) held 22 v d p) (hval : Value.okWide Tryd.prog w rc b0 22 v) (a : Int) (wa : (Lit.int .i64 a).wf = true) :
    Calls Tryd.prog 3 #[v, .int .i64 a] w fun e w' => e = .returned (.bool true) ∧ Below w.heap.size w w' := by
  obtain ⟨ρ, h, x, fs, r, hGl, hv, hs, hb, hn⟩ := open_feds hG hd hval
  exact law_of Tryd.func3 (by kernel_rfl) (by kernel_rfl) (secondLately_ans cfg3_std h r.fresh hGl x fs hs hb hn a (i64_wf wa)) r (.cons _ _ _ _ hv (.cons _ _ _ _ (.int _ _) .nil))
end
end Abs
end Go.Proofs.YtlgbdjlnbnlphaaDoor
