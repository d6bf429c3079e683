/- The abstract machine: rules for more operations: arrays in place, strings' bytes, unsafe's steps. -/
import Derived.Test.YtmgbcaboljilnaaGreatDoorA26
namespace Go.Proofs.YtmgbcaboljilnaaGreatDoor
namespace Abs
noncomputable section
set_option linter.unusedVariables false
set_option linter.unusedSimpArgs false
open Go.RowKit

namespace StepK
variable {e : List (Nat × V)} {h h' : Heap} {x y z : Opd} {a b v : V}
theorem idxArr {n sz : Nat} (hx : evE e x = some a) (hy : evE e y = some b) (hi : idxArrA n sz a b = some v) : StepK e h (.idxArr n sz x y) v h := fun tm hs => by simp only [opK, hs.ev hx, hs.ev hy, hi]
theorem atArr {n sz : Nat} {g : Option Nat} (hx : evE e x = some a) (hy : evE e y = some b) (hi : atArrA n sz g a b = some v) : StepK e h (.atArr n sz g x y) v h := fun tm hs => by simp only [opK, hs.ev hx, hs.ev hy, hi]
theorem atStr (hx : evE e x = some a) (hy : evE e y = some b) (hi : atStrA a b = some v) : StepK e h (.atStr x y) v h := fun tm hs => by simp only [opK, hs.ev hx, hs.ev hy, hi]
theorem inv {k : IntKind} {n : Int} (hx : evE e x = some (.int k n)) : StepK e h (.inv x) (.int k (k.wrap (BitVec.ofInt k.bits (if k.signed then -1 else k.max) ^^^ BitVec.ofInt k.bits n).toNat)) h := fun tm hs => by simp only [opK, hs.ev hx]
theorem neg {k : IntKind} {n : Int} (hx : evE e x = some (.int k n)) : StepK e h (.neg x) (.int k (k.wrap (0 - n))) h := fun tm hs => by simp only [opK, hs.ev hx]
theorem sliceStr {lo hi : Option Opd} {l' h2 : Option V} (hx : evE e x = some a) (h1 : evoE e lo = some l') (h3 : evoE e hi = some h2) (h5 : sliceStrA a l' h2 = some v) : StepK e h (.sliceStr x lo hi) v h := fun tm hs => by simp only [opK, hs.ev hx, hs.evo h1, hs.evo h3, h5]
theorem appendS {ty : Option Nat} (hx : evE e x = some a) (hy : evE e y = some b) (ha : appendSA h ty a b = some (v, h')) : StepK e h (.appendS ty x y) v h' := fun tm hs => by simp only [opK, hs.ev hx, hs.ev hy, ha]
theorem sliceData (hx : evE e x = some a) (ha : sliceDataA a = some v) : StepK e h (.sliceData x) v h := fun tm hs => by simp only [opK, hs.ev hx, ha]
theorem unsStr {t : Nat} (hx : evE e x = some a) (hy : evE e y = some b) (ha : unsStrA h t a b = some (v, h')) : StepK e h (.unsStr t x y) v h' := fun tm hs => by simp only [opK, hs.ev hx, hs.ev hy, ha]
theorem unsP (hx : evE e x = some a) (ha : unsPA h a = true) : StepK e h (.unsP x) a h := fun tm hs => by simp only [opK, hs.ev hx, ha, if_true]
theorem ofUns {u n : Nat} (hx : evE e x = some a) (ha : ofUnsA h u n a = true) : StepK e h (.ofUns u n x) a h := fun tm hs => by simp only [opK, hs.ev hx, ha, if_true]
theorem makeMap : StepK e h .makeMap (.map (some h.size)) (h.push (.map [] [] 0)) := fun tm hs => by simp only [opK]
theorem toBytes {s : List Nat} (hx : evE e x = some (.str s)) : StepK e h (.toBytes x) (.oslice h.size 0 s.length s.length 0) (h.push (.cells (bytesV s) (.tip [] 0 none))) := fun tm hs => by simp only [opK, hs.ev hx]
theorem same {s : List Nat} (hx : evE e x = some (.str s)) : StepK e h (.same x) (.str s) h := fun tm hs => by simp only [opK, hs.ev hx]
theorem makeSl {sz bytes : Nat} {zs : List V} (hx : evE e x = some a) (hy : evE e y = some b) (ha : makeSlA h sz bytes zs a b = some (v, h')) : StepK e h (.makeSl sz bytes zs x y) v h' := fun tm hs => by simp only [opK, hs.ev hx, hs.ev hy, ha]
end StepK

/-- An array in a block of a call's own: one cell is written. -/
theorem wr_cell {h : Heap} {b i : Nat} {cs : List V} {v : V} {ty : Option Nat} (hg : h.get b = some (.cells cs (.tip [] 0 ty))) (hi : i < cs.length) (hv : V.one v = true) : h.wr b i [v] = some (h.put b (.cells (cs.set i v) (.tip [] 0 ty))) := by
  simp only [Heap.wr, hg]
  rw [if_pos ⟨Nat.zero_le _, by simp only [List.length_singleton]; omega, by simp [hv]⟩]
  rfl
theorem splice_all {α : Type} : ∀ (us : List α) (p cs : List α), us.length = cs.length → splice (p ++ cs) p.length us = p ++ us
  | [], p, cs, h => by
    have : cs = [] := List.length_eq_zero_iff.1 (by simpa using h.symm)
    subst this; rfl
  | u :: us, p, [], h => by simp at h
  | u :: us, p, c :: cs, h => by
    unfold splice
    have e : (p ++ c :: cs).set p.length u = (p ++ [u]) ++ cs := by
      rw [List.set_append_right _ _ (Nat.le_refl _), Nat.sub_self, List.set_cons_zero, List.append_assoc]; rfl
    rw [e]
    have := splice_all us (p ++ [u]) cs (by simpa using h)
    rw [List.length_append, List.length_singleton] at this
    rw [this, List.append_assoc]; rfl
/-- .. all of them. -/
theorem wr_all {h : Heap} {b : Nat} {cs us : List V} {ty : Option Nat} (hg : h.get b = some (.cells cs (.tip [] 0 ty))) (hl : us.length = cs.length) (hv : us.all V.one = true) : h.wr b 0 us = some (h.put b (.cells us (.tip [] 0 ty))) := by
  simp only [Heap.wr, hg]
  rw [if_pos ⟨Nat.zero_le _, by omega, hv⟩]
  have := splice_all us [] cs hl
  simp only [List.nil_append, List.length_nil] at this
  rw [this]
  rfl
theorem rd_cell {h : Heap} {b i : Nat} {cs : List V} {st : St} (hg : h.get b = some (.cells cs st)) : h.rd b i = cs[i]? := by simp only [Heap.rd, hg]
theorem idxArr_at {n sz b o : Nat} {k : IntKind} {i : Int} (h0 : 0 ≤ i) (h1 : i < n) : idxArrA n sz (.ptr (some (b, o))) (.int k i) = some (.ptr (some (b, o + i.toNat * sz))) := by
  simp only [idxArrA, intV]
  rw [if_pos ⟨h0, h1⟩]
theorem bin_shr {k k' : IntKind} {a n : Int} (hn : 0 ≤ n) : binA .shr (.int k a) (.int k' n) = some (.int k (a.fdiv (2 ^ (min n.toNat k.bits)))) := by
  simp only [binA, shiftA]
  rw [if_neg (by omega)]
theorem bin_shl {k k' : IntKind} {a n : Int} (hn : 0 ≤ n) : binA .shl (.int k a) (.int k' n) = some (.int k (k.wrap (a * 2 ^ (min n.toNat k.bits)))) := by
  simp only [binA, shiftA]
  rw [if_neg (by omega)]
end
end Abs
end Go.Proofs.YtmgbcaboljilnaaGreatDoor
