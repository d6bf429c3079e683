/- The abstract machine: a run in an empty memory serves in every memory; a law's run. -/
import Derived.Test.YtnbljblnikdeiaaA16
namespace Go.Proofs.Ytnbljblnikdeiaa
namespace Abs
set_option linter.unusedVariables false
set_option linter.unusedSimpArgs false
open Go.RowKit

def noRho : Rho := fun _ => none
def h0 : Heap := ⟨.nil, 0, 0⟩

theorem rel_empty (w : World) : Rel w.heap.size w noRho h0 w where
  dom := by intro b e h; cases h
  obj := by intro b e h; cases h
  sep := by intro b b' e e' o o' S h; cases h
  live := by intro b e o h; cases h
  fresh := by intro b _; rfl
  below := Below.refl _ _
  base := Nat.le_refl _

section
variable {P : Program} {B : Nat} {w0 : World}

/-- What lies below a world's size is as it was: the relation stays. -/
theorem Rel.below_keep {ρ : Rho} {h : Heap} {w w' : World} (r : Rel B w0 ρ h w) (hb : Below w.heap.size w w') : Rel B w0 ρ h w' := by
  refine ⟨r.dom, fun b e hbe => ?_, r.sep, fun b e o h1 h2 h3 => Nat.lt_of_lt_of_le (r.live b e o h1 h2 h3) hb.size, r.fresh, r.below.trans ⟨hb.os, hb.tape, hb.output, hb.size, fun k hk => hb.block k (Nat.lt_of_lt_of_le hk r.base)⟩, Nat.le_trans r.base hb.size⟩
  obtain ⟨o, q1, q2⟩ := r.obj b e hbe
  refine ⟨o, q1, ?_⟩
  cases ha : o.alive with
  | false => cases o <;> simp_all [Obj.alive]; trivial
  | true => exact q2.heap (hb.block _ (r.live b e o hbe q1 ha))

/-- A call that names no memory, run in an empty memory. -/
theorem frame_call {C : Cfg} (hT : TableOk P C) (hS : ∀ B w0, SumOk P B w0 C) {n : Nat} {f : Nat} {args : List V} {v : V} {h1 : Heap} (hx : (run C n).1 f args h0 = some (v, h1)) (ha : V.scopeds 0 args = true) (hv : v.scopd 0 = true)
    {ρ : Rho} {h : Heap} {w : World} {us : Array Value} (r : Rel B w0 ρ h w) (hr : VRs ρ args us.toList) : CallSnd P B w0 ρ f us w h v h := by
  have nar : ∀ {ρ1 ρ2 : Rho} {b : Nat} {e : Emb}, b < 0 → ρ1 b = some e → ρ2 b = some e := fun hb => absurd hb (Nat.not_lt_zero _)
  have hr0 : VRs noRho args us.toList := hr.narrow (n := 0) (fun b e hb => absurd hb (Nat.not_lt_zero _)) ha
  have snd := (run_sound hT (hS w.heap.size w) n).1 f args h0 v h1 hx noRho w us (rel_empty w) hr0
  have conv : ∀ u w', Ret w.heap.size w noRho h0.size v h1 u w' → Ret B w0 ρ h.size v h u w' := by
    rintro u w' ⟨ρ', q1, q2, q3⟩
    exact ⟨ρ, q1.narrow (n := 0) (fun b e hb => absurd hb (Nat.not_lt_zero _)) hv, r.below_keep q2.below, New.refl _ _⟩
  rcases snd with ⟨q1, q2⟩ | ⟨u, w', q1, q2⟩
  · refine .inl ⟨q1, fun m => ?_⟩
    obtain ⟨g1, g2⟩ := q2 m
    refine ⟨g1, fun cs hcs => ?_⟩
    obtain ⟨e, w', fr, q3, q4, q5, q6⟩ := g2 cs hcs
    refine ⟨e, w', fr, ?_, q4, q5, q6⟩
    cases e with
    | returned u => exact conv u w' q3
    | panicked c => exact q3.elim
    | outgrown => exact q3.elim
  · exact .inr ⟨u, w', q1, conv u w' q2⟩

/-- A law that the abstract machine runs. -/
theorem law_calls {C : Cfg} (hT : TableOk P C) (hS : ∀ B w0, SumOk P B w0 C) {n : Nat} {f : FuncId} {fn : Func} (hf : P.funcs[f]? = some fn) (hb : fn.body.isSome = true) (hnm : (fn.name == "runtime.NumGoroutine") = false)
    {args : List V} {h h1 : Heap} (hx : (run C n).1 f args h = some (.bool true, h1)) {ρ : Rho} {w : World} {us : Array Value} (r : Rel w.heap.size w ρ h w) (hr : VRs ρ args us.toList) :
    Calls P f us w fun e w' => e = .returned (.bool true) ∧ Below w.heap.size w w' := by
  have snd := (run_sound hT (hS w.heap.size w) n).1 f args h _ h1 hx ρ w us r hr
  rcases snd with ⟨q1, q2⟩ | ⟨u, w', q1, q2⟩
  · have hc := callsIn_wide.1 (q2 0)
    refine hc.mono fun e w' he => ?_
    cases e with
    | returned u =>
      obtain ⟨ρ', g1, g2, g3⟩ := he
      cases g1
      exact ⟨rfl, g2.below⟩
    | panicked c => exact he.elim
    | outgrown => exact he.elim
  · exfalso
    simp only [callFunc, Sem.run_bind, run_program, Result.andThen_ok, hf, hnm, Bool.false_eq_true, if_false] at q1
    rw [if_neg] at q1
    · cases q1
    · cases hbb : fn.body with
      | none => rw [hbb] at hb; cases hb
      | some c => simp
end
end Abs
end Go.Proofs.Ytnbljblnikdeiaa
