/- The laws of the second level: small things. -/
import Derived.Test.YtlgbdjlnbnlphaaGreatDoorD25
namespace Go.Proofs.YtlgbdjlnbnlphaaGreatDoor
namespace Abs
set_option linter.unusedVariables false
set_option linter.unusedSimpArgs false
open Go.RowKit
attribute [local irreducible] WO WC WD StepK Ans Does Runs DoesD

theorem strNeT {a b : List Nat} (h : a ≠ b) : binA .neq (.str a) (.str b) = some (.bool true) := by
  have : beqL a b = false := Bool.eq_false_iff.2 fun q => h ((beqL_iff a b).1 q)
  simp [binA, this]
theorem strNeF {a b : List Nat} (h : a = b) : binA .neq (.str a) (.str b) = some (.bool false) := by
  subst h
  simp [binA, beqL_refl]
theorem rep_nil (k a : Nat) : (List.replicate k ([] : List Nat)).getD a [] = [] := by
  rw [List.getD_eq_getElem?_getD, List.getElem?_replicate]; split <;> rfl
theorem new_rd {a : Nat} (h : a < 40) : (Dv.new 4 40).rd 1 a = ([], 0) := by
  have hm : (Dv.new 4 40).may 1 (a : Int) 0 = 0 := may_ok (by omega) (by show (a : Int) < 40; omega) (by omega) rfl
  rw [Dv.rd, if_pos hm]
  have e : (Dv.new 4 40).last 1 a = none := rfl
  rw [e]
  show (((Dv.new 4 40).s1).getD _ [], (0 : Int)) = _
  rw [show (Dv.new 4 40).s1 = List.replicate 40 [] from rfl, rep_nil]
theorem FOk.new {f m : Nat} (h : 2 ≤ m) : FOk f m 0 0 (Dv.new 4 40) ⟨f, m, [], 0, 0⟩ :=
  ⟨rfl, rfl, rfl, by unfold roomN; omega, rfl, rfl, rfl, rfl, Nat.zero_le _, (fun w hw => by cases hw), Int.le_refl _, (by show (0 : Int) ≤ 2 * ((0 : Nat) : Int); omega), (fun p hp => by cases hp), (fun p hp => by cases hp)⟩
theorem lgA_none (f g : Nat) : lgA f (fun _ => none) g = [] := by
  induction g with
  | zero => rfl
  | succ g ih => simp only [lgA]; exact ih
def FedsB (fs : List Rec) : Prop := ∀ f ∈ fs, Byt f.1
section
variable {C : Cfg} (S : StdW C)
include S
theorem live14_ans (h : Heap) (G : Gl gl h) : Ans C 5 [] h fun v h' => v = .bool true ∧ h' = h := Ans.sum (S.live h G) ⟨rfl, rfl⟩
end
end Abs
end Go.Proofs.YtlgbdjlnbnlphaaGreatDoor
