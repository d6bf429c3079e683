/- The abstract machine: maps.Clone as a summary. -/
import Derived.Test.YtbjpoelgcehidaaGreatDoorA32
namespace Go.Proofs.YtbjpoelgcehidaaGreatDoor
namespace Abs
noncomputable section
set_option linter.unusedVariables false
set_option linter.unusedSimpArgs false
open Go.RowKit

/-- maps.Clone. -/
def cloneSum (args : List V) (h : Heap) : Option (V × Heap) := match args with
  | [.map none] => some (.map none, h)
  | [.map (some b)] => match h.get b with
    | some (.map es bs cl) => some (.map (some h.size), h.push (.map es bs cl))
    | _ => none
  | _ => none
structure CloneS (P : Program) (f : Nat) : Prop where
  en : ∀ args w, (callFunc f args).run P w = .ok (.enter f args) w
  none : ∀ w, Calls P f #[.map none] w fun e w' => e = .returned (.map none) ∧ w' = w
  some : ∀ (b : Nat) (es : Array MapEntry) (clock : Nat) (w : World), w.heap[b]? = some (.map es clock) → Calls P f #[.map (some b)] w fun e w' => e = .returned (.map (some w.heap.size)) ∧ w' = w.alloc (.map es clock)

section
variable {P : Program} {B : Nat} {w0 : World}
theorem clone_snd {f : Nat} (J : CloneS P f) {args : List V} {v : V} {h h' : Heap} (hx : cloneSum args h = some (v, h')) : HM h h' ∧ ∀ (ρ : Rho) (w : World) (us : Array Value), Rel P B w0 ρ h w → VRs ρ args us.toList → CallSnd P B w0 ρ f us w h v h' := by
  unfold cloneSum at hx
  split at hx
  · cases hx
    refine ⟨HM.refl h, fun ρ w us r hr => ?_⟩
    obtain ⟨us⟩ := us
    cases hr with
    | cons _ u _ _ hu ht =>
    cases ht
    cases hu
    refine snd_calls (J.en _ _) ((J.none w).mono fun e w' q => ?_)
    obtain ⟨rfl, rfl⟩ := q
    exact ⟨ρ, .mapNil, r, New.refl _ _⟩
  · rename_i b
    split at hx
    · rename_i es bs cl hg
      cases hx
      refine ⟨HM.push _ _, fun ρ w us r hr => ?_⟩
      obtain ⟨us⟩ := us
      cases hr with
      | cons _ u _ _ hu ht =>
      cases ht
      cases hu with
      | map _ e r1 hρ hq =>
      subst hq
      obtain ⟨ces, q1, q2, q3⟩ := map_of r hρ hg
      refine snd_calls (J.en _ _) ((J.some e.blk ces cl w q1).mono fun e' w' q => ?_)
      obtain ⟨rfl, rfl⟩ := q
      have hle : RLe ρ (Rho.with_ ρ h.size ⟨w.heap.size, 0, 0⟩) := with_le r.none_at
      have ho : ORel P B (Rho.with_ ρ h.size ⟨w.heap.size, 0, 0⟩) (w.alloc (.map ces cl)) ⟨w.heap.size, 0, 0⟩ (.map es bs cl) := ⟨r.base, ces, alloc_at w _, q2.mono hle, q3⟩
      exact ⟨Rho.with_ ρ h.size ⟨w.heap.size, 0, 0⟩, .map _ _ _ with_same rfl, (r.push _).lay r.none_at (by rw [Heap.size_push]; omega) (by rw [Heap.get_push, if_pos rfl]) _ _ ho, New.with_ r.none_at (Nat.le_refl _)⟩
    · cases hx
  · cases hx
end
end
end Abs
end Go.Proofs.YtbjpoelgcehidaaGreatDoor
