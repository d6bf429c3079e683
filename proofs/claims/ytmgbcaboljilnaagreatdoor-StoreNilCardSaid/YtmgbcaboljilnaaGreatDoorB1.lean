/- A digest's words: what one block of bytes turns them to. -/
import Derived.Test.YtmgbcaboljilnaaGreatDoorIR
import Derived.Test.YtmgbcaboljilnaaGreatDoorA28
namespace Go.Proofs.YtmgbcaboljilnaaGreatDoor
namespace Abs
set_option linter.unusedVariables false
set_option linter.unusedSimpArgs false
open Go.RowKit
attribute [local irreducible] WO WC WD StepK Ans Does Runs DoesD

abbrev iv (n : Int) : V := .int .i64 n
abbrev uv (n : Int) : V := .int .u32 n

/-- The functions that have a summary. -/
def SN : List Nat := [85, 86, 100, 101, 103]
/-- What the machine's table and its summaries are. -/
structure Std (C : Cfg) : Prop where
  s : ∀ f args h, SN.contains f = false → C.S f args h = none
  t : C.F = tab
theorem Std.f {C : Cfg} (S : Std C) {n : Nat} {a : AFunc} (h : tab n = some a) : C.F n = some a := by rw [S.t]; exact h

/-! ### The words, as the machine reckons them -/
def wr32 (n : Int) : Int := IntKind.u32.wrap n
def xor32 (a b : Int) : Int := IntKind.u32.wrap (BitVec.ofInt IntKind.u32.bits a ^^^ BitVec.ofInt IntKind.u32.bits b).toNat
def or32 (a b : Int) : Int := IntKind.u32.wrap (BitVec.ofInt IntKind.u32.bits a ||| BitVec.ofInt IntKind.u32.bits b).toNat
def and32 (a b : Int) : Int := IntKind.u32.wrap (BitVec.ofInt IntKind.u32.bits a &&& BitVec.ofInt IntKind.u32.bits b).toNat
def inv32 (n : Int) : Int := IntKind.u32.wrap (BitVec.ofInt IntKind.u32.bits (if IntKind.u32.signed then -1 else IntKind.u32.max) ^^^ BitVec.ofInt IntKind.u32.bits n).toNat
def shr32 (a : Int) (k : Nat) : Int := a.fdiv (2 ^ (min k IntKind.u32.bits))
def shl32 (a : Int) (k : Nat) : Int := IntKind.u32.wrap (a * 2 ^ (min k IntKind.u32.bits))
def rot32 (a : Int) (k : Nat) : Int := or32 (shr32 a k) (shl32 a (32 - k))

variable {C : Cfg} (S : Std C)
include S

theorem right_ans (h : Heap) (hw : Wf h) (x : Int) (k : Nat) (hk : k ≤ 32) : Ans C 118 [uv x, iv k] h fun v h' => v = uv (rot32 x k) ∧ Grow h h' := by
  have hF : C.F 118 = some a118 := S.f rfl
  unfold a118 at hF
  refine Ans.val (fun _ _ => S.s _ _ _ rfl) hF rfl rfl hw fun h2 g => ?_
  refine WC.seqO ?_
  (repeat (first | refine WO.ops (StepK.mv rfl) ?_ | refine WO.ops (StepK.lenSl rfl (by first | with_reducible assumption | rfl)) ?_ | refine WO.ops (StepK.fieldAddr rfl) ?_ | refine WO.ops (StepK.add rfl rfl (by omega)) ?_ | refine WO.ops (StepK.sub rfl rfl (by omega)) ?_ | refine WO.ops (StepK.bin rfl rfl rfl) ?_ | refine WO.ops (StepK.pickT rfl rfl) ?_ | refine WO.ops (StepK.pickF rfl rfl) ?_ | refine WO.ops (StepK.not rfl) ?_ | refine WO.ops (StepK.eq rfl rfl rfl) ?_ | refine WO.ops (StepK.extract rfl rfl) ?_ | refine WO.ops (StepK.build rfl rfl) ?_ | refine WO.ops (StepK.mkFn rfl rfl) ?_ | refine WO.ops (StepK.field rfl rfl) ?_ | refine WO.ops (StepK.lenStr rfl) ?_ | refine WO.ops (StepK.nilck rfl) ?_ | refine WO.ops (StepK.min2 rfl rfl) ?_ | refine WO.ops (StepK.max2 rfl rfl) ?_ | refine WO.ops (StepK.load1 rfl (by first | with_reducible assumption | rfl)) ?_ | refine WO.run rfl ?_ | refine WO.skip rfl rfl ?_ | refine WO.skipu rfl ?_))
  refine WO.nil (WC.seqD ?_)
  refine WD.pure (StepK.mv rfl) rfl ?_
  refine WD.pure (StepK.mv rfl) rfl ?_
  refine WD.pure (StepK.bin rfl rfl (bin_shr (by omega))) rfl ?_
  refine WD.pure (StepK.mv rfl) rfl ?_
  refine WD.pure (StepK.mv rfl) rfl ?_
  refine WD.pure (StepK.sub rfl rfl (by omega)) rfl ?_
  refine WD.pure (StepK.bin rfl rfl (bin_shl (by omega))) rfl ?_
  (repeat (first | refine WD.pure (StepK.mv rfl) rfl ?_ | refine WD.pure (StepK.lenSl rfl (by first | with_reducible assumption | rfl)) rfl ?_ | refine WD.pure (StepK.fieldAddr rfl) rfl ?_ | refine WD.pure (StepK.add rfl rfl (by omega)) rfl ?_ | refine WD.pure (StepK.sub rfl rfl (by omega)) rfl ?_ | refine WD.pure (StepK.bin rfl rfl rfl) rfl ?_ | refine WD.pure (StepK.pickT rfl rfl) rfl ?_ | refine WD.pure (StepK.pickF rfl rfl) rfl ?_ | refine WD.pure (StepK.not rfl) rfl ?_ | refine WD.pure (StepK.eq rfl rfl rfl) rfl ?_ | refine WD.pure (StepK.extract rfl rfl) rfl ?_ | refine WD.pure (StepK.build rfl rfl) rfl ?_ | refine WD.pure (StepK.mkFn rfl rfl) rfl ?_ | refine WD.pure (StepK.field rfl rfl) rfl ?_ | refine WD.pure (StepK.lenStr rfl) rfl ?_ | refine WD.pure (StepK.nilck rfl) rfl ?_ | refine WD.pure (StepK.min2 rfl rfl) rfl ?_ | refine WD.pure (StepK.max2 rfl rfl) rfl ?_ | refine WD.load1 rfl (by first | with_reducible assumption | rfl) ?_ | refine WD.run rfl ?_ | refine WD.skipn rfl rfl rfl ?_ | refine WD.skipun rfl rfl ?_))
  refine WD.nil (by repeat (first | exact trivial | refine ⟨by with_reducible assumption, ?_⟩)) (WC.ret ⟨trivial, g, ?_⟩)
  show some (uv _) = some (uv _)
  congr 2
  unfold rot32 or32 shr32 shl32
  have : ((32 : Int) - (k : Int)).toNat = 32 - k := by omega
  rw [this]
  rfl
end Abs
end Go.Proofs.YtmgbcaboljilnaaGreatDoor
