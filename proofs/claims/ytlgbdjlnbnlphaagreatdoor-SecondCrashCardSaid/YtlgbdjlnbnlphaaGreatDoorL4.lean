/- Layer 14: SecondCrash from the machine to the model. -/
import Derived.Test.YtlgbdjlnbnlphaaGreatDoorL2
import Derived.Test.YtlgbdjlnbnlphaaGreatDoorD31
namespace Go.Proofs.YtlgbdjlnbnlphaaGreatDoor
namespace Abs
set_option linter.unusedVariables false
set_option linter.unusedSimpArgs false
set_option maxRecDepth 100000
open Go.RowKit Go.ChangeShapes Go.WideShapes Go.Joins

section
variable {H : Type} {enc : TypeId × Value → H} {w : World} {held : Bool}
theorem bool_elem {fuel : Nat} {cs : List Value} {y : DataW H × List MemPlace} (h : DataW.trod enc Tryz.prog w 0 (fun _ => true) held fuel 4 cs = some y) : ∃ vs, VRs noRho vs cs ∧ vs.length = 1 ∧ IsBool vs := by
  obtain ⟨a, p0, _⟩ := DataW.trod_bool Tryz.underlying4 h
  subst p0
  exact ⟨[.bool a], .cons _ _ _ _ (.bool _) .nil, rfl, a, rfl⟩
theorem secondCrash_walk (w : World) (hG : GW gl w) {rc : Reach} {b0 : Nat} {v : Value} {d : DataW H} {p : List MemPlace} (hd : DataW.Trod enc Tryz.prog w 0 (fun _ => true) held 22 v d p) (hval : Value.okWide Tryz.prog w rc b0 22 v)
    {v1 : Value} {d1 : DataW H} {p1 : List MemPlace} (hd1 : DataW.Trod enc Tryz.prog w 0 (fun _ => true) held 23 v1 d1 p1) (hval1 : Value.okWide Tryz.prog w rc b0 23 v1) (a : Int) (wa : (Lit.int .i64 a).wf = true) :
    Calls Tryz.prog 3 #[v, v1, .int .i64 a] w fun e w' => e = .returned (.bool true) ∧ Below w.heap.size w w' := by
  obtain ⟨ρ, h, x, fs, r, hGl, hv, hs, hb, hn⟩ := open_feds hG hd hval
  obtain ⟨a0, len, cap, rfl⟩ := Go.WideShapes.okWide_slice Tryz.underlying23 hval1
  obtain ⟨fuel, hf⟩ := hd1
  have hf : DataW.trod enc Tryz.prog w 0 (fun _ => true) held fuel 23 [.slice a0 len cap] = some (d1, p1) := hf
  obtain ⟨ρ2, h2, y, es, r2, hle, gr, hv2, hs2, hφ, _⟩ := open_slT (sz := 1) (by decide) Tryz.underlying23 (by kernel_rfl) hf (fun _ c => IsBool c) (fun _ _ _ _ q => q) (fun n cs y hy ρ h r => by
      obtain ⟨vs, q1, q2, q3⟩ := bool_elem hy
      exact ⟨ρ, h, vs, r, fun _ _ q => q, Grow.refl r.fresh, q1.mono (noRho_le _), q2, q3⟩) r (gw_pos hG)
  obtain ⟨ks, rfl⟩ := bools_of hφ
  cases hv2 with
  | cons _ _ _ _ hv2 _ =>
    have hy1 : V.one y = true := by cases hv2 <;> rfl
    exact law_of Tryz.func3 (by kernel_rfl) (by kernel_rfl) (secondCrash_ans cfg3_std h2 r2.fresh (hGl.grow gr) x fs (hs.grow gr) hb hn y hy1 ks hs2 a (i64_wf wa)) r2 (.cons _ _ _ _ (hv.mono hle) (.cons _ _ _ _ hv2 (.cons _ _ _ _ (.int _ _) .nil)))
end
end Abs
end Go.Proofs.YtlgbdjlnbnlphaaGreatDoor
