/- Layer 13: ClogEncodes and ClogDecodes from the machine to the model. -/
import Derived.Test.YthdgjjggndfbhaaDoorK5
import Derived.Test.YthdgjjggndfbhaaDoorK12
namespace Go.Proofs.YthdgjjggndfbhaaDoor
namespace Abs
set_option linter.unusedVariables false
set_option linter.unusedSimpArgs false
set_option maxRecDepth 100000
open Go.RowKit Go.ChangeShapes Go.WideShapes Go.Joins

theorem cfg3_vr : StdVR cfg3 where
  toStdV := cfg3_std
  rof := fun args h => by
    rw [cfg3_ne (by decide), cfg2_S]
    unfold sumO
    rw [if_neg (by decide)]
    unfold sumB
    rw [if_neg (by decide)]
    unfold sumLib
    rw [if_neg (by decide), if_neg (by decide), if_neg (by decide), if_neg (by decide)]
section
variable {H : Type} {enc : TypeId × Value → H} {held : Bool}
theorem clogEncodes_walk (w : World) (hG : GW gl w) {rc : Reach} {b0 : Nat} {v : Value} {d : DataW H} {p : List MemPlace} (hd : DataW.Trod enc Tryd.prog w 0 (fun _ => true) held 24 v d p) (hval : Value.okWide Tryd.prog w rc b0 24 v) :
    Calls Tryd.prog 3 #[v] w fun e w' => e = .returned (.bool true) ∧ Below w.heap.size w w' := by
  obtain ⟨ρ, h, seq, x, es, r, hGl, hv, hs, hb, hn⟩ := open_blk hG hval hd
  exact law_of Tryd.func3 (by kernel_rfl) (by kernel_rfl) (clogEncodes_ans cfg3_vr h r.fresh hGl seq x es hs hb hn) r (.cons _ _ _ _ hv .nil)
theorem clogDecodes_walk (w : World) (hG : GW gl w) (a : ByteArray) :
    Calls Tryd.prog 4 #[.string a] w fun e w' => e = .returned (.bool true) ∧ Below w.heap.size w w' := by
  have r0 := rel_base (P := Tryd.prog) gl (by decide) w hG
  exact law_of Tryd.func4 (by kernel_rfl) (by kernel_rfl) (clogDecodes_ans cfg3_vr (baseH gl) r0.fresh gl_base (strOf a) (strOf_lt a)) r0 (.cons _ _ _ _ (.str _ _ rfl) .nil)
end
end Abs
end Go.Proofs.YthdgjjggndfbhaaDoor
