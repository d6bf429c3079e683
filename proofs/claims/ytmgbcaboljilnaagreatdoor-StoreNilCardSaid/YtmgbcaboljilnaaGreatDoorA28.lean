/- The abstract machine: a contract whose answer names no new memory serves as a summary. -/
import Derived.Test.YtmgbcaboljilnaaGreatDoorA27
namespace Go.Proofs.YtmgbcaboljilnaaGreatDoor
namespace Abs
noncomputable section
set_option linter.unusedVariables false
set_option linter.unusedSimpArgs false
open Go.RowKit

section
variable {P : Program} {B : Nat} {w0 : World}

theorem Rel.cutG {ρ ρ' : Rho} {h h1 : Heap} {w w' : World} (r : Rel P B w0 ρ h w) (r1 : Rel P B w0 ρ' h1 w') (hn : New ρ ρ' h.size) (hg : ∀ b o, h.get b = some o → h1.get b = some o) : Rel P B w0 ρ h w' := by
  have nar : ∀ b e, b < h.size → ρ' b = some e → ρ b = some e := fun b e hb he => (hn.2 b e he).resolve_right (by omega)
  refine ⟨r.dom, fun b e hb => ?_, ?_, fun b e o h1' h2 h3 => ?_, r.fresh, r1.below, r1.base, r.glob⟩
  · obtain ⟨o, q1, q2⟩ := r.obj b e hb
    obtain ⟨o', g1, g2⟩ := r1.obj b e (hn.1 b e hb)
    rw [hg b o q1] at g1
    cases g1
    exact ⟨o, q1, ORel.narrow nar r.dom q2 g2⟩
  · intro b b' e e' o o' S q1 q2 q3 q4 q5 q6 q7 q8
    exact r1.sep b b' e e' o o' S (hn.1 _ _ q1) (hn.1 _ _ q2) q3 (hg b o q4) q5 (hg b' o' q6) q7 q8
  · exact r1.live b e o (hn.1 _ _ h1') (hg b o h2) h3

/-- What a call came to, without the memory that it left behind. -/
theorem snd_cut {ρ : Rho} {h h' : Heap} {w : World} {v : V} {f : Nat} {us : Array Value} (r : Rel P B w0 ρ h w) (hx : CallSnd P B w0 ρ f us w h v h') (hv : v.scopd h.size = true) (hg : ∀ b o, h.get b = some o → h'.get b = some o) : CallSnd P B w0 ρ f us w h v h := by
  have conv : ∀ u w', Ret P B w0 ρ h.size v h' u w' → Ret P B w0 ρ h.size v h u w' := by
    rintro u w' ⟨ρ', q1, q2, q3⟩
    exact ⟨ρ, q1.narrow (fun b e hb he => (q3.2 b e he).resolve_right (by omega)) hv, r.cutG q2 q3 hg, New.refl _ _⟩
  rcases hx with ⟨q1, q2⟩ | ⟨u, w', q1, q2⟩
  · refine .inl ⟨q1, fun m => ?_⟩
    obtain ⟨g1, g2⟩ := q2 m
    refine ⟨g1, fun cs hcs => ?_⟩
    obtain ⟨e, w', fr, q3, q4, q5, q6⟩ := g2 cs hcs
    refine ⟨e, w', fr, ?_, q4, q5, q6⟩
    cases e with
    | returned u => exact conv u w' q3
    | panicked c => exact q3.elim
    | outgrown => exact q3.elim
  · exact .inr ⟨u, w', q1, conv u w' q2⟩

theorem pure_sum {C : Cfg} (hT : TableOk P C) (hS : SumOk P B w0 C) {f : Nat} {args : List V} {val : V} {h : Heap} (hx : Ans C f args h fun v h' => v = val ∧ Grow h h') (hv : val.scopd h.size = true)
    {ρ : Rho} {w : World} {us : Array Value} (r : Rel P B w0 ρ h w) (hr : VRs ρ args us.toList) : CallSnd P B w0 ρ f us w h val h := by
  obtain ⟨v, h', ⟨n, hn⟩, rfl, g⟩ := hx
  exact snd_cut r ((run_sound hT hS n).1.fn f args h v h' hn ρ w us r hr) hv g.ext
end
end
end Abs
end Go.Proofs.YtmgbcaboljilnaaGreatDoor
