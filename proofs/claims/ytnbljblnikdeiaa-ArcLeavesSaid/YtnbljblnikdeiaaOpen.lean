/- Layer 11: the arguments as the abstract machine sees them; the machine's table with live() answered. -/
import Derived.Test.YtnbljblnikdeiaaNil
import Derived.Test.YtnbljblnikdeiaaA22
import Derived.Test.YtnbljblnikdeiaaD12
import Derived.ChangeArms
import Derived.OpenShut
namespace Go.Proofs.Ytnbljblnikdeiaa
namespace Abs
set_option linter.unusedVariables false
set_option linter.unusedSimpArgs false
open Go.RowKit Go.ChangeShapes

theorem live_run : (run cfgNil 100).1 9 [] h0 = some (.bool true, h0) := by kernel_rfl
/-- The machine's table, where live() answers at once. -/
def cfgL : Cfg := ⟨tab, fun f args h => if f = 9 then match args with
  | [] => some (some (.bool true, h))
  | _ => none else none⟩
theorem cfgL_tab : TableOk Try.prog cfgL := fun f af h => tab_row f af h
theorem cfgL_sum (B : Nat) (w0 : World) : SumOk Try.prog B w0 cfgL := by
  intro f args h v h' hx
  simp only [cfgL] at hx
  split at hx
  · rename_i hf
    subst hf
    split at hx
    · cases hx
      exact ⟨HM.refl h, fun ρ w us r hr => frame_call cfgNil_tab cfgNil_sum live_run rfl rfl r hr⟩
    · cases hx
  · cases hx
theorem cfgL_std : Std cfgL where
  s := fun f args h hf => by simp only [cfgL, if_neg hf]
  t := rfl
  live := fun h hw => ⟨.bool true, h, Gives.sum rfl, rfl, Grow.refl hw⟩
  hm := fun f args h v h' hx => by
    simp only [cfgL] at hx
    split at hx
    · split at hx
      · cases hx; exact HM.refl h
      · cases hx
    · cases hx

/-- A law: from what its run answers to what a call of it comes to. -/
theorem law_of {f : Nat} {fn : Func} (hf : Try.prog.funcs[f]? = some fn) (hb : fn.body.isSome = true) (hnm : (fn.name == "runtime.NumGoroutine") = false) {args : List V} {h : Heap} {ρ : Rho} {w : World} {us : Array Value}
    (hx : Ans cfgL f args h fun v h' => v = .bool true ∧ Grow h h') (r : Rel w.heap.size w ρ h w) (hr : VRs ρ args us.toList) : Calls Try.prog f us w fun e w' => e = .returned (.bool true) ∧ Below w.heap.size w w' := by
  obtain ⟨v, h', ⟨n, hn⟩, rfl, _⟩ := hx
  exact law_calls cfgL_tab cfgL_sum hf hb hnm hn r hr

section
variable {H : Type} {enc : TypeId × Value → H} {w : World} {spare : Nat → Bool} {held : Bool}
def isOp (c : List V) : Prop := ∃ (a : Int) (k : List Nat), c = [.int .i64 a, .str k]
theorem wf64 {n : Int} (h : (Lit.int .i64 n).wf = true) : -9223372036854775808 ≤ n ∧ n < 9223372036854775808 := by
  simp only [Lit.wf, Bool.and_eq_true, decide_eq_true_eq, IntKind.min, IntKind.max, IntKind.signed, IntKind.bits, if_true] at h
  omega
theorem op_elem {fuel : Nat} {cs : List Value} {y : DataW H × List MemPlace} (h : DataW.trod enc Try.prog w 0 spare held fuel 29 cs = some y) : ∃ vs, VRs noRho vs cs ∧ vs.length = 2 ∧ isOp vs := by
  obtain ⟨y0, y1, n, _, hl, g0, g1⟩ := trod_struct2 Try.underlying29 h
  obtain ⟨a, p0, _, wa⟩ := DataW.trod_int Try.underlying3 g0
  obtain ⟨b, p1, _, wb⟩ := DataW.trod_string Try.underlying9 g1
  have hl : cs.length = 2 := hl
  match cs, hl with
  | [c0, c1], _ =>
    have e0 : [c0] = [Value.int .i64 a] := p0
    have e1 : [c1] = [Value.string b] := p1
    cases e0; cases e1
    exact ⟨[.int .i64 a, .str (strOf b)], .cons _ _ _ _ (.int _ _) (.cons _ _ _ _ (.str b _ rfl) .nil), rfl, a, strOf b, rfl⟩
theorem ops_of {es : List (List V)} (h : ∀ c ∈ es, isOp c) : ∃ R : List (Int × List Nat), es = R.map (fun r => [.int .i64 r.1, .str r.2]) := by
  induction es with
  | nil => exact ⟨[], rfl⟩
  | cons c l ih =>
    obtain ⟨R, q1⟩ := ih fun c hc => h c (List.mem_cons_of_mem _ hc)
    obtain ⟨a, k, q3⟩ := h c List.mem_cons_self
    exact ⟨(a, k) :: R, by rw [q3, q1]; rfl⟩
end
end Abs
end Go.Proofs.Ytnbljblnikdeiaa
