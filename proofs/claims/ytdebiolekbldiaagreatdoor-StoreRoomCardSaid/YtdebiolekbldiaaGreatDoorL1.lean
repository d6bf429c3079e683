/- Layer 18: live() is true, by the kernel; the machine with live() answered. -/
import Derived.Test.YtdebiolekbldiaaGreatDoorB15
import Derived.Test.YtdebiolekbldiaaGreatDoorS32
namespace Go.Proofs.YtdebiolekbldiaaGreatDoor
namespace Abs
set_option linter.unusedVariables false
set_option linter.unusedSimpArgs false
set_option maxRecDepth 1000000
open Go.RowKit
open Classical in
noncomputable def sumV (f : Nat) (args : List V) (h : Heap) : Option (Option (V × Heap)) :=
 if f = 9 then match args with
  | [] => if Gl gl h then some (some (.bool true, h)) else some none
  | _ => some none
 else sumO f args h
noncomputable def cfg3 : Cfg := { F := tab, S := sumV }
theorem live_true : isTrue ((run cfg2 100).1 (.fn 9) [] (baseH gl)) = true := by kernel_rfl
theorem live_run : ∃ h1, (run cfg2 100).1 (.fn 9) [] (baseH gl) = some (.bool true, h1) := isTrue_eq live_true
theorem live_sum (B : Nat) (w0 : World) : SumOk Tryz.prog B w0 cfg3 := by
 intro f args h v h' hx
 replace hx : sumV f args h = some (some (v, h')) := hx
 unfold sumV at hx
 split at hx
 ·rename_i hf
  subst hf
  split at hx
  ·split at hx
   ·rename_i hG
    cases hx
    obtain ⟨h1, hr⟩ := live_run
    exact ⟨HM.refl h, fun ρ w us r hv => frame_call gl (by decide) (by decide) (fun p hp => by obtain rfl := List.mem_singleton.1 hp; exact HT.get_set_same _ _ _) cfg2_tab of_sum hr rfl rfl r hG hv⟩
   ·cases hx
  ·cases hx
 ·exact of_sum B w0 f args h v h' hx
theorem cfg3_tab : TableOk Tryz.prog cfg3 := ⟨fun f af h => tab_row f af h, fun f h => by cases h⟩
theorem cfg3_S (f : Nat) (args : List V) (h : Heap) : cfg3.S f args h = sumV f args h := rfl
theorem cfg3_ne {f : Nat} (hf : f ≠ 9) (args : List V) (h : Heap) : cfg3.S f args h = cfg2.S f args h := by
 rw [cfg3_S]
 unfold sumV
 rw [if_neg hf]; rfl
theorem cfg3_std : StdS cfg3 where
 s := fun f args h hf => by
  rw [cfg3_ne (sn_ne hf rfl)]
  exact cfg2_std.s f args h hf
 t := rfl
 hm := fun f args h v h' hx => (live_sum 0 default f args h v h' hx).1
 bh := fun h H s hH hl hs hr => by rw [cfg3_ne (by decide)]; exact cfg2_std.bh h H s hH hl hs hr
 rep := fun h s n hn hm => by rw [cfg3_ne (by decide)]; exact cfg2_std.rep h s n hn hm
 noesc := fun h x => by rw [cfg3_ne (by decide)]; exact cfg2_std.noesc h x
 of := fun h s hs hr => by rw [cfg3_ne (by decide)]; exact cfg2_std.of h s hs hr
 live := fun h hG => by
  rw [cfg3_S]
  unfold sumV
  rw [if_pos rfl]
  simp only
  rw [if_pos hG]
theorem law_of {f : Nat} {fn : Func} (hf : Tryz.prog.funcs[f]? = some fn) (hb : fn.body.isSome = true) (hnm : (fn.name == "runtime.NumGoroutine") = false) {args : List V} {h : Heap} {ρ : Rho} {w : World} {us : Array Value}
  (hx : Ans cfg3 f args h fun v h' => v = .bool true ∧ Grow h h') (r : Rel Tryz.prog w.heap.size w ρ h w) (hr : VRs ρ args us.toList) : Calls Tryz.prog f us w fun e w' => e = .returned (.bool true) ∧ Below w.heap.size w w' := by
 obtain ⟨v, h', ⟨n, hn⟩, rfl, _⟩ := hx
 exact law_calls cfg3_tab live_sum hf hb hnm hn r hr
theorem gl_base : Gl gl (baseH gl) := fun g hg => rfl
end Abs
end Go.Proofs.YtdebiolekbldiaaGreatDoor
