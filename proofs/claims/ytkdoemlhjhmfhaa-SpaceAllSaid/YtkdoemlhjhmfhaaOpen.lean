/- Layer 7: the arguments as the abstract machine sees them; the machine's table with live() answered. -/
import Derived.Test.YtkdoemlhjhmfhaaIR
import Derived.Test.YtkdoemlhjhmfhaaA22
import Derived.ChangeArms
import Derived.OpenShut
namespace Go.Proofs.Ytkdoemlhjhmfhaa
namespace Abs
set_option linter.unusedVariables false
set_option linter.unusedSimpArgs false
open Go.RowKit Go.ChangeShapes

theorem live_run : (run cfg 60).1 8 [] h0 = some (.bool true, h0) := by kernel_rfl
/-- The machine's table, where live() answers at once. -/
def cfgL : Cfg := ⟨tab, fun f args h => if f = 8 then match args with
  | [] => some (some (.bool true, h))
  | _ => none else none⟩
theorem cfgL_tab : TableOk Try.prog cfgL := fun f af h => tab_ok f af h
theorem cfgL_sum (B : Nat) (w0 : World) : SumOk Try.prog B w0 cfgL := by
  intro f args h v h' hx
  simp only [cfgL] at hx
  split at hx
  · rename_i hf
    subst hf
    split at hx
    · cases hx
      exact ⟨HM.refl h, fun ρ w us r hr => frame_call tab_ok sum_ok live_run rfl rfl r hr⟩
    · cases hx
  · cases hx
theorem cfgL_S (f : Nat) (args : List V) (h : Heap) (hf : f ≠ 8) : cfgL.S f args h = none := by simp only [cfgL, if_neg hf]
theorem cfgL_live (h : Heap) (hw : Wf h) : Ans cfgL 8 [] h fun v h' => v = .bool true ∧ Grow h h' := ⟨.bool true, h, Gives.sum rfl, rfl, Grow.refl hw⟩

/-- A law: from what its run answers to what a call of it comes to. -/
theorem law_of {f : Nat} {fn : Func} (hf : Try.prog.funcs[f]? = some fn) (hb : fn.body.isSome = true) (hnm : (fn.name == "runtime.NumGoroutine") = false) {args : List V} {h : Heap} {ρ : Rho} {w : World} {us : Array Value}
    (hx : Ans cfgL f args h fun v h' => v = .bool true ∧ Grow h h') (r : Rel w.heap.size w ρ h w) (hr : VRs ρ args us.toList) : Calls Try.prog f us w fun e w' => e = .returned (.bool true) ∧ Below w.heap.size w w' := by
  obtain ⟨v, h', ⟨n, hn⟩, rfl, _⟩ := hx
  exact law_calls cfgL_tab cfgL_sum hf hb hnm hn r hr

section
variable {H : Type} {enc : TypeId × Value → H} {w : World} {spare : Nat → Bool} {held : Bool}
def isRun (c : List V) : Prop := ∃ a n : Int, c = [.int .i64 a, .int .i64 n] ∧ (-9223372036854775808 ≤ a ∧ a < 9223372036854775808) ∧ -9223372036854775808 ≤ n ∧ n < 9223372036854775808
theorem wf64 {n : Int} (h : (Lit.int .i64 n).wf = true) : -9223372036854775808 ≤ n ∧ n < 9223372036854775808 := by
  simp only [Lit.wf, Bool.and_eq_true, decide_eq_true_eq, IntKind.min, IntKind.max, IntKind.signed, IntKind.bits, if_true] at h
  omega
theorem run_elem {fuel : Nat} {cs : List Value} {y : DataW H × List MemPlace} (h : DataW.trod enc Try.prog w 0 spare held fuel 39 cs = some y) : ∃ vs, VRs noRho vs cs ∧ vs.length = 2 ∧ isRun vs := by
  obtain ⟨y0, y1, n, _, hl, g0, g1⟩ := trod_struct2 Try.underlying39 h
  obtain ⟨a, p0, _, wa⟩ := DataW.trod_int Try.underlying3 g0
  obtain ⟨b, p1, _, wb⟩ := DataW.trod_int Try.underlying3 g1
  have hl : cs.length = 2 := hl
  match cs, hl with
  | [c0, c1], _ =>
    have e0 : [c0] = [Value.int .i64 a] := p0
    have e1 : [c1] = [Value.int .i64 b] := p1
    cases e0; cases e1
    exact ⟨[.int .i64 a, .int .i64 b], .cons _ _ _ _ (.int _ _) (.cons _ _ _ _ (.int _ _) .nil), rfl, a, b, rfl, wf64 wa, wf64 wb⟩
theorem bool_elem {fuel : Nat} {cs : List Value} {y : DataW H × List MemPlace} (h : DataW.trod enc Try.prog w 0 spare held fuel 4 cs = some y) : ∃ vs, VRs noRho vs cs ∧ vs.length = 1 ∧ ∃ b : Bool, vs = [.bool b] := by
  obtain ⟨b, p, _⟩ := DataW.trod_bool Try.underlying4 h
  subst p
  exact ⟨[.bool b], .cons _ _ _ _ (.bool b) .nil, rfl, b, rfl⟩
theorem runs_of {es : List (List V)} (h : ∀ c ∈ es, isRun c) : ∃ R : List (Int × Int), es = R.map (fun r => [.int .i64 r.1, .int .i64 r.2]) ∧ ∀ r ∈ R, (-9223372036854775808 ≤ r.1 ∧ r.1 < 9223372036854775808) ∧ -9223372036854775808 ≤ r.2 ∧ r.2 < 9223372036854775808 := by
  induction es with
  | nil => exact ⟨[], rfl, by simp⟩
  | cons c l ih =>
    obtain ⟨R, q1, q2⟩ := ih fun c hc => h c (List.mem_cons_of_mem _ hc)
    obtain ⟨a, n, q3, q4, q5⟩ := h c List.mem_cons_self
    refine ⟨(a, n) :: R, by rw [q3, q1]; rfl, fun r hr => ?_⟩
    rcases List.mem_cons.1 hr with e | e
    · subst e; exact ⟨q4, q5⟩
    · exact q2 r e
theorem bools_of {es : List (List V)} (h : ∀ c ∈ es, ∃ b : Bool, c = [.bool b]) : ∃ U : List Bool, es = U.map (fun u => [.bool u]) := by
  induction es with
  | nil => exact ⟨[], rfl⟩
  | cons c l ih =>
    obtain ⟨R, q1⟩ := ih fun c hc => h c (List.mem_cons_of_mem _ hc)
    obtain ⟨a, q3⟩ := h c List.mem_cons_self
    exact ⟨a :: R, by rw [q3, q1]; rfl⟩
end
end Abs
end Go.Proofs.Ytkdoemlhjhmfhaa
