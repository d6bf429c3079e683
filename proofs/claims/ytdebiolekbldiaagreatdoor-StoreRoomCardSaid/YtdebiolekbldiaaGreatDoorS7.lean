/- Layer 7 again: end, May. Layer 7 again: Total, IndexFunc. Layer 7 again: Of. Layer 7 again: Clone, swapped, Take. Layer 8: which devices a block is put on. Layer 8: what a block wishes, what is chosen. Layer 8: Choose. -/
import Derived.Test.YtdebiolekbldiaaGreatDoorN0
namespace Go.Proofs.YtdebiolekbldiaaGreatDoor
namespace Abs
set_option linter.unusedVariables false
set_option linter.unusedSimpArgs false
open Go.RowKit
attribute [local irreducible] WO WC WD StepK Ans Does Runs DoesD
abbrev rn (r : Int × Int) : List V := [iv r.1, iv r.2]
variable {C : Cfg} (S : StdO C)
include S
theorem spEnd_ans (h : Heap) (hw : Wf h) (a n : Int) : Ans C 82 [.agg [iv a, iv n]] h fun v h' => v = iv (IntKind.i64.wrap (a + n)) ∧ Grow h h' := by
 have hF : C.F 82 = some a82 := S.f rfl
 unfold a82 at hF
 refine Ans.val (fun _ _ => S.s _ _ _ rfl) hF rfl rfl hw fun h2 g => ?_
 refine WC.seqO ?_
 refine WO.ops (StepK.box rfl) ?_
 (repeat (first | refine omv rfl ?_ | refine ols rfl (by first | with_reducible assumption | rfl) ?_ | refine ofa rfl ?_ | refine oad rfl rfl (by omega) ?_ | refine osb rfl rfl (by omega) ?_ | refine obn rfl rfl rfl ?_ | refine opt rfl rfl ?_ | refine opf rfl rfl ?_ | refine ont rfl ?_ | refine oeq rfl rfl rfl ?_ | refine oex rfl rfl ?_ | refine obu rfl rfl ?_ | refine ofd rfl rfl ?_ | refine olt rfl ?_ | refine onk rfl ?_ | refine old rfl (by first | with_reducible assumption | rfl) ?_ | refine WO.run rfl ?_ | refine WO.skip rfl rfl ?_ | refine WO.skipu rfl ?_))
 refine WO.nil ?_
 refine WC.seqO ?_
 have q0 : (h2.push (.cells (V.agg [iv a, iv n]).cellsOf (.tip [] 0 none))).rd h2.size 0 = some (iv a) := by simp only [Heap.rd, get_push, if_true]; rfl
 have q1 : (h2.push (.cells (V.agg [iv a, iv n]).cellsOf (.tip [] 0 none))).rd h2.size 1 = some (iv n) := by simp only [Heap.rd, get_push, if_true]; rfl
 refine ofa rfl ?_
 refine old rfl q0 ?_
 refine ofa rfl ?_
 refine old rfl q1 ?_
 (repeat (first | refine omv rfl ?_ | refine ols rfl (by first | with_reducible assumption | rfl) ?_ | refine ofa rfl ?_ | refine oad rfl rfl (by omega) ?_ | refine osb rfl rfl (by omega) ?_ | refine obn rfl rfl rfl ?_ | refine opt rfl rfl ?_ | refine opf rfl rfl ?_ | refine ont rfl ?_ | refine oeq rfl rfl rfl ?_ | refine oex rfl rfl ?_ | refine obu rfl rfl ?_ | refine ofd rfl rfl ?_ | refine olt rfl ?_ | refine onk rfl ?_ | refine old rfl (by first | with_reducible assumption | rfl) ?_ | refine WO.run rfl ?_ | refine WO.skip rfl rfl ?_ | refine WO.skipu rfl ?_))
 refine WO.nil (WC.ret ⟨trivial, g.push _, rfl⟩)
def spMayF : Int → List (Int × Int) → Bool
 | _, [] => true
 | last, r :: l => if r.1 ≤ last ∨ r.2 < 1 ∨ 1073741824 < r.2 ∨ 1073741824 - r.2 < r.1 then false else spMayF (r.1 + r.2) l
theorem spMay_ans (h : Heap) (hw : Wf h) (x : V) (R : List (Int × Int)) (hs : Sl h 2 x (R.map rn)) (hb : ∀ r ∈ R, -9223372036854775808 ≤ r.2 ∧ r.2 < 9223372036854775808) (hlen : R.length < 4611686018427387904) : Ans C 107 [x] h fun v h' => v = .bool (spMayF (-1) R) ∧ Grow h h' := by
 have hF : C.F 107 = some a107 := S.f rfl
 unfold a107 at hF
 refine Ans.val (fun _ _ => S.s _ _ _ rfl) hF rfl rfl hw fun h2 g => ?_
 have hsl : slLen x = some R.length := by rw [hs.len, List.length_map]
 refine WC.seqO ?_
 (repeat (first | refine omv rfl ?_ | refine ols rfl (by first | with_reducible assumption | rfl) ?_ | refine ofa rfl ?_ | refine oad rfl rfl (by omega) ?_ | refine osb rfl rfl (by omega) ?_ | refine obn rfl rfl rfl ?_ | refine opt rfl rfl ?_ | refine opf rfl rfl ?_ | refine ont rfl ?_ | refine oeq rfl rfl rfl ?_ | refine oex rfl rfl ?_ | refine obu rfl rfl ?_ | refine ofd rfl rfl ?_ | refine olt rfl ?_ | refine onk rfl ?_ | refine old rfl (by first | with_reducible assumption | rfl) ?_ | refine WO.run rfl ?_ | refine WO.skip rfl rfl ?_ | refine WO.skipu rfl ?_))
 refine WO.nil ?_
 refine WC.seqO ?_
 (repeat (first | refine omv rfl ?_ | refine ols rfl (by first | with_reducible assumption | rfl) ?_ | refine ofa rfl ?_ | refine oad rfl rfl (by omega) ?_ | refine osb rfl rfl (by omega) ?_ | refine obn rfl rfl rfl ?_ | refine opt rfl rfl ?_ | refine opf rfl rfl ?_ | refine ont rfl ?_ | refine oeq rfl rfl rfl ?_ | refine oex rfl rfl ?_ | refine obu rfl rfl ?_ | refine ofd rfl rfl ?_ | refine olt rfl ?_ | refine onk rfl ?_ | refine old rfl (by first | with_reducible assumption | rfl) ?_ | refine WO.run rfl ?_ | refine WO.skip rfl rfl ?_ | refine WO.skipu rfl ?_))
 refine WO.nil ?_
 refine WC.seq (WC.seqO ?_)
 refine omv rfl ?_
 refine ols rfl hsl ?_
 (repeat (first | refine omv rfl ?_ | refine ols rfl (by first | with_reducible assumption | rfl) ?_ | refine ofa rfl ?_ | refine oad rfl rfl (by omega) ?_ | refine osb rfl rfl (by omega) ?_ | refine obn rfl rfl rfl ?_ | refine opt rfl rfl ?_ | refine opf rfl rfl ?_ | refine ont rfl ?_ | refine oeq rfl rfl rfl ?_ | refine oex rfl rfl ?_ | refine obu rfl rfl ?_ | refine ofd rfl rfl ?_ | refine olt rfl ?_ | refine onk rfl ?_ | refine old rfl (by first | with_reducible assumption | rfl) ?_ | refine WO.run rfl ?_ | refine WO.skip rfl rfl ?_ | refine WO.skipu rfl ?_))
 refine WO.nil (WC.block ?_)
 refine WC.loop (σ := Nat × Int) (fun s => [(0, x), (2, .bool false), (3, iv s.2), (6, x), (7, iv R.length), (8, iv s.1)])
  (fun s h' => Grow h h' ∧ s.1 ≤ R.length ∧ -1 ≤ s.2 ∧ s.2 ≤ 1073741824 ∧ spMayF (-1) R = spMayF s.2 (R.drop s.1)) (fun s => R.length - s.1) (0, -1) ?_ ⟨g, by omega, by omega, by omega, rfl⟩ ?_
 ·exact Cov.cons rfl (Cov.cons rfl (Cov.cons rfl (Cov.cons rfl (Cov.cons rfl (Cov.cons rfl (Cov.nil _))))))
 rintro ⟨i, last⟩ h3 ⟨g3, hi, l1, l2, hm⟩
 simp only at hi l1 l2 hm
 refine WC.seqO ?_
 (repeat (first | refine omv rfl ?_ | refine ols rfl (by first | with_reducible assumption | rfl) ?_ | refine ofa rfl ?_ | refine oad rfl rfl (by omega) ?_ | refine osb rfl rfl (by omega) ?_ | refine obn rfl rfl rfl ?_ | refine opt rfl rfl ?_ | refine opf rfl rfl ?_ | refine ont rfl ?_ | refine oeq rfl rfl rfl ?_ | refine oex rfl rfl ?_ | refine obu rfl rfl ?_ | refine ofd rfl rfl ?_ | refine olt rfl ?_ | refine onk rfl ?_ | refine old rfl (by first | with_reducible assumption | rfl) ?_ | refine WO.run rfl ?_ | refine WO.skip rfl rfl ?_ | refine WO.skipu rfl ?_))
 refine WO.nil (WC.seq ?_)
 refine WC.cond rfl (fun hc => WC.skip ?_) (fun hc => WC.exit ?_)
 rotate_left
 ·have hc := of_decide_eq_false hc
  have : i = R.length := by omega
  subst this
  refine WC.seqO ?_
  (repeat (first | refine omv rfl ?_ | refine ols rfl (by first | with_reducible assumption | rfl) ?_ | refine ofa rfl ?_ | refine oad rfl rfl (by omega) ?_ | refine osb rfl rfl (by omega) ?_ | refine obn rfl rfl rfl ?_ | refine opt rfl rfl ?_ | refine opf rfl rfl ?_ | refine ont rfl ?_ | refine oeq rfl rfl rfl ?_ | refine oex rfl rfl ?_ | refine obu rfl rfl ?_ | refine ofd rfl rfl ?_ | refine olt rfl ?_ | refine onk rfl ?_ | refine old rfl (by first | with_reducible assumption | rfl) ?_ | refine WO.run rfl ?_ | refine WO.skip rfl rfl ?_ | refine WO.skipu rfl ?_))
  refine WO.nil (WC.ret ⟨trivial, g3, ?_⟩)
  rw [hm]; simp [spMayF]; rfl
 have hc := of_decide_eq_true hc
 have hi : i < R.length := by omega
 obtain ⟨b, o, k1, k2⟩ := (hs.grow g3).at (i := i) (by rw [List.length_map]; exact hi)
 rw [List.getElem_map] at k2
 have hd : R.drop i = R[i] :: R.drop (i + 1) := List.drop_eq_getElem_cons hi
 rw [hd] at hm
 have hbr := hb R[i] (List.getElem_mem hi)
 generalize R[i] = r at *
 obtain ⟨a, n⟩ := r
 simp only [spMayF] at hm
 simp only at hbr
 refine WC.seq (WC.block (WC.seqO ?_))
 refine WO.ops (StepK.idxSl rfl rfl k1) ?_
 refine WO.ops (StepK.loadN rfl k2) ?_
 refine WO.ops StepK.alloc ?_
 obtain ⟨h4, w4, g4, _, r4⟩ := box_two (x := iv 0) (y := iv 0) (u := iv a) (w := iv n) g3 rfl rfl
 refine WO.op (StepK.store rfl rfl rfl w4) (WO.nil ?_)
 have r0 : h4.rd h3.size 0 = some (iv a) := rd_get r4 rfl
 have r1 : h4.rd h3.size 1 = some (iv n) := rd_get r4 rfl
 have r2 : h4.rds h3.size 0 2 = some [iv a, iv n] := rds_all r4 rfl
 generalize h3.size = b3 at *
 refine WC.seq (WC.seqO ?_)
 (repeat (first | refine omv rfl ?_ | refine ols rfl (by first | with_reducible assumption | rfl) ?_ | refine ofa rfl ?_ | refine oad rfl rfl (by omega) ?_ | refine osb rfl rfl (by omega) ?_ | refine obn rfl rfl rfl ?_ | refine opt rfl rfl ?_ | refine opf rfl rfl ?_ | refine ont rfl ?_ | refine oeq rfl rfl rfl ?_ | refine oex rfl rfl ?_ | refine obu rfl rfl ?_ | refine ofd rfl rfl ?_ | refine olt rfl ?_ | refine onk rfl ?_ | refine old rfl (by first | with_reducible assumption | rfl) ?_ | refine WO.run rfl ?_ | refine WO.skip rfl rfl ?_ | refine WO.skipu rfl ?_))
 refine WO.splitG rfl (fun hc1 => ?_) (fun hc1 => ?_)
 ·have hc1 := of_decide_eq_true hc1
  (repeat (first | refine omv rfl ?_ | refine ols rfl (by first | with_reducible assumption | rfl) ?_ | refine ofa rfl ?_ | refine oad rfl rfl (by omega) ?_ | refine osb rfl rfl (by omega) ?_ | refine obn rfl rfl rfl ?_ | refine opt rfl rfl ?_ | refine opf rfl rfl ?_ | refine ont rfl ?_ | refine oeq rfl rfl rfl ?_ | refine oex rfl rfl ?_ | refine obu rfl rfl ?_ | refine ofd rfl rfl ?_ | refine olt rfl ?_ | refine onk rfl ?_ | refine old rfl (by first | with_reducible assumption | rfl) ?_ | refine WO.run rfl ?_ | refine WO.skip rfl rfl ?_ | refine WO.skipu rfl ?_))
  refine WO.nil (WC.condT rfl (WC.seqO ?_))
  (repeat (first | refine omv rfl ?_ | refine ols rfl (by first | with_reducible assumption | rfl) ?_ | refine ofa rfl ?_ | refine oad rfl rfl (by omega) ?_ | refine osb rfl rfl (by omega) ?_ | refine obn rfl rfl rfl ?_ | refine opt rfl rfl ?_ | refine opf rfl rfl ?_ | refine ont rfl ?_ | refine oeq rfl rfl rfl ?_ | refine oex rfl rfl ?_ | refine obu rfl rfl ?_ | refine ofd rfl rfl ?_ | refine olt rfl ?_ | refine onk rfl ?_ | refine old rfl (by first | with_reducible assumption | rfl) ?_ | refine WO.run rfl ?_ | refine WO.skip rfl rfl ?_ | refine WO.skipu rfl ?_))
  refine WO.nil (WC.ret ⟨trivial, g4, ?_⟩)
  rw [hm, if_pos (.inl hc1)]; rfl
 have hc1 := of_decide_eq_false hc1
 (repeat (first | refine omv rfl ?_ | refine ols rfl (by first | with_reducible assumption | rfl) ?_ | refine ofa rfl ?_ | refine oad rfl rfl (by omega) ?_ | refine osb rfl rfl (by omega) ?_ | refine obn rfl rfl rfl ?_ | refine opt rfl rfl ?_ | refine opf rfl rfl ?_ | refine ont rfl ?_ | refine oeq rfl rfl rfl ?_ | refine oex rfl rfl ?_ | refine obu rfl rfl ?_ | refine ofd rfl rfl ?_ | refine olt rfl ?_ | refine onk rfl ?_ | refine old rfl (by first | with_reducible assumption | rfl) ?_ | refine WO.run rfl ?_ | refine WO.skip rfl rfl ?_ | refine WO.skipu rfl ?_))
 refine WO.splitG rfl (fun hc2 => ?_) (fun hc2 => ?_)
 ·have hc2 := of_decide_eq_true hc2
  (repeat (first | refine omv rfl ?_ | refine ols rfl (by first | with_reducible assumption | rfl) ?_ | refine ofa rfl ?_ | refine oad rfl rfl (by omega) ?_ | refine osb rfl rfl (by omega) ?_ | refine obn rfl rfl rfl ?_ | refine opt rfl rfl ?_ | refine opf rfl rfl ?_ | refine ont rfl ?_ | refine oeq rfl rfl rfl ?_ | refine oex rfl rfl ?_ | refine obu rfl rfl ?_ | refine ofd rfl rfl ?_ | refine olt rfl ?_ | refine onk rfl ?_ | refine old rfl (by first | with_reducible assumption | rfl) ?_ | refine WO.run rfl ?_ | refine WO.skip rfl rfl ?_ | refine WO.skipu rfl ?_))
  refine WO.nil (WC.condT rfl (WC.seqO ?_))
  (repeat (first | refine omv rfl ?_ | refine ols rfl (by first | with_reducible assumption | rfl) ?_ | refine ofa rfl ?_ | refine oad rfl rfl (by omega) ?_ | refine osb rfl rfl (by omega) ?_ | refine obn rfl rfl rfl ?_ | refine opt rfl rfl ?_ | refine opf rfl rfl ?_ | refine ont rfl ?_ | refine oeq rfl rfl rfl ?_ | refine oex rfl rfl ?_ | refine obu rfl rfl ?_ | refine ofd rfl rfl ?_ | refine olt rfl ?_ | refine onk rfl ?_ | refine old rfl (by first | with_reducible assumption | rfl) ?_ | refine WO.run rfl ?_ | refine WO.skip rfl rfl ?_ | refine WO.skipu rfl ?_))
  refine WO.nil (WC.ret ⟨trivial, g4, ?_⟩)
  rw [hm, if_pos (.inr (.inl hc2))]; rfl
 have hc2 := of_decide_eq_false hc2
 (repeat (first | refine omv rfl ?_ | refine ols rfl (by first | with_reducible assumption | rfl) ?_ | refine ofa rfl ?_ | refine oad rfl rfl (by omega) ?_ | refine osb rfl rfl (by omega) ?_ | refine obn rfl rfl rfl ?_ | refine opt rfl rfl ?_ | refine opf rfl rfl ?_ | refine ont rfl ?_ | refine oeq rfl rfl rfl ?_ | refine oex rfl rfl ?_ | refine obu rfl rfl ?_ | refine ofd rfl rfl ?_ | refine olt rfl ?_ | refine onk rfl ?_ | refine old rfl (by first | with_reducible assumption | rfl) ?_ | refine WO.run rfl ?_ | refine WO.skip rfl rfl ?_ | refine WO.skipu rfl ?_))
 refine WO.splitG rfl (fun hc3 => ?_) (fun hc3 => ?_)
 ·have hc3 := of_decide_eq_true hc3
  (repeat (first | refine omv rfl ?_ | refine ols rfl (by first | with_reducible assumption | rfl) ?_ | refine ofa rfl ?_ | refine oad rfl rfl (by omega) ?_ | refine osb rfl rfl (by omega) ?_ | refine obn rfl rfl rfl ?_ | refine opt rfl rfl ?_ | refine opf rfl rfl ?_ | refine ont rfl ?_ | refine oeq rfl rfl rfl ?_ | refine oex rfl rfl ?_ | refine obu rfl rfl ?_ | refine ofd rfl rfl ?_ | refine olt rfl ?_ | refine onk rfl ?_ | refine old rfl (by first | with_reducible assumption | rfl) ?_ | refine WO.run rfl ?_ | refine WO.skip rfl rfl ?_ | refine WO.skipu rfl ?_))
  refine WO.nil (WC.condT rfl (WC.seqO ?_))
  (repeat (first | refine omv rfl ?_ | refine ols rfl (by first | with_reducible assumption | rfl) ?_ | refine ofa rfl ?_ | refine oad rfl rfl (by omega) ?_ | refine osb rfl rfl (by omega) ?_ | refine obn rfl rfl rfl ?_ | refine opt rfl rfl ?_ | refine opf rfl rfl ?_ | refine ont rfl ?_ | refine oeq rfl rfl rfl ?_ | refine oex rfl rfl ?_ | refine obu rfl rfl ?_ | refine ofd rfl rfl ?_ | refine olt rfl ?_ | refine onk rfl ?_ | refine old rfl (by first | with_reducible assumption | rfl) ?_ | refine WO.run rfl ?_ | refine WO.skip rfl rfl ?_ | refine WO.skipu rfl ?_))
  refine WO.nil (WC.ret ⟨trivial, g4, ?_⟩)
  rw [hm, if_pos (.inr (.inr (.inl hc3)))]; rfl
 have hc3 := of_decide_eq_false hc3
 (repeat (first | refine omv rfl ?_ | refine ols rfl (by first | with_reducible assumption | rfl) ?_ | refine ofa rfl ?_ | refine oad rfl rfl (by omega) ?_ | refine osb rfl rfl (by omega) ?_ | refine obn rfl rfl rfl ?_ | refine opt rfl rfl ?_ | refine opf rfl rfl ?_ | refine ont rfl ?_ | refine oeq rfl rfl rfl ?_ | refine oex rfl rfl ?_ | refine obu rfl rfl ?_ | refine ofd rfl rfl ?_ | refine olt rfl ?_ | refine onk rfl ?_ | refine old rfl (by first | with_reducible assumption | rfl) ?_ | refine WO.run rfl ?_ | refine WO.skip rfl rfl ?_ | refine WO.skipu rfl ?_))
 refine WO.nil (WC.cond rfl (fun hc4 => ?_) (fun hc4 => ?_))
 ·have hc4 := of_decide_eq_true hc4
  refine WC.seqO ?_
  (repeat (first | refine omv rfl ?_ | refine ols rfl (by first | with_reducible assumption | rfl) ?_ | refine ofa rfl ?_ | refine oad rfl rfl (by omega) ?_ | refine osb rfl rfl (by omega) ?_ | refine obn rfl rfl rfl ?_ | refine opt rfl rfl ?_ | refine opf rfl rfl ?_ | refine ont rfl ?_ | refine oeq rfl rfl rfl ?_ | refine oex rfl rfl ?_ | refine obu rfl rfl ?_ | refine ofd rfl rfl ?_ | refine olt rfl ?_ | refine onk rfl ?_ | refine old rfl (by first | with_reducible assumption | rfl) ?_ | refine WO.run rfl ?_ | refine WO.skip rfl rfl ?_ | refine WO.skipu rfl ?_))
  refine WO.nil (WC.ret ⟨trivial, g4, ?_⟩)
  rw [hm, if_pos (.inr (.inr (.inr hc4)))]; rfl
 have hc4 := of_decide_eq_false hc4
 refine WC.skip (WC.ops ?_)
 refine WO.ops (StepK.loadN rfl r2) ?_
 refine WO.call rfl rfl (spEnd_ans S h4 g4.wf a n) ?_
 rintro v h5 ⟨rfl, g5⟩
 rw [StepK.wrap64 (by omega) (by omega)]
 refine omv rfl (WO.nil (WC.ops ?_))
 (repeat (first | refine omv rfl ?_ | refine ols rfl (by first | with_reducible assumption | rfl) ?_ | refine ofa rfl ?_ | refine oad rfl rfl (by omega) ?_ | refine osb rfl rfl (by omega) ?_ | refine obn rfl rfl rfl ?_ | refine opt rfl rfl ?_ | refine opf rfl rfl ?_ | refine ont rfl ?_ | refine oeq rfl rfl rfl ?_ | refine oex rfl rfl ?_ | refine obu rfl rfl ?_ | refine ofd rfl rfl ?_ | refine olt rfl ?_ | refine onk rfl ?_ | refine old rfl (by first | with_reducible assumption | rfl) ?_ | refine WO.run rfl ?_ | refine WO.skip rfl rfl ?_ | refine WO.skipu rfl ?_))
 refine WO.nil ⟨(i + 1, a + n), ?_, ⟨g4.trans g5, hi, by simp only; omega, by simp only; omega, ?_⟩, by simp only; omega⟩
 ·exact Cov.cons rfl (Cov.cons rfl (Cov.cons rfl (Cov.cons rfl (Cov.cons rfl (Cov.cons rfl (Cov.nil _))))))
 ·rw [hm, if_neg (by omega)]
end Abs
end Go.Proofs.YtdebiolekbldiaaGreatDoor
namespace Go.Proofs.YtdebiolekbldiaaGreatDoor
namespace Abs
set_option linter.unusedVariables false
set_option linter.unusedSimpArgs false
set_option maxHeartbeats 1600000
open Go.RowKit
attribute [local irreducible] WO WC WD StepK Ans Does Runs DoesD
variable {C : Cfg} (S : StdO C)
def wr64 (n : Int) : Int := IntKind.i64.wrap n
def spSumF : Int → List (Int × Int) → Int
 | n, [] => n
 | n, r :: l => spSumF (wr64 (n + r.2)) l
def spTotF (R : List (Int × Int)) : Int := if spMayF (-1) R then spSumF 0 R else 0
include S
theorem spTotal_ans (h : Heap) (hw : Wf h) (x : V) (R : List (Int × Int)) (hs : Sl h 2 x (R.map rn)) (hb : ∀ r ∈ R, -9223372036854775808 ≤ r.2 ∧ r.2 < 9223372036854775808) (hlen : R.length < 4611686018427387904) : Ans C 81 [x] h fun v h' => v = iv (spTotF R) ∧ Grow h h' := by
 have hF : C.F 81 = some a81 := S.f rfl
 unfold a81 at hF
 refine Ans.val (fun _ _ => S.s _ _ _ rfl) hF rfl rfl hw fun h2 g => ?_
 clear hF
 have hsl : slLen x = some R.length := by rw [hs.len, List.length_map]
 refine WC.seqO ?_
 (repeat (first | refine omv rfl ?_ | refine ols rfl (by first | with_reducible assumption | rfl) ?_ | refine ofa rfl ?_ | refine oad rfl rfl (by omega) ?_ | refine osb rfl rfl (by omega) ?_ | refine obn rfl rfl rfl ?_ | refine opt rfl rfl ?_ | refine opf rfl rfl ?_ | refine ont rfl ?_ | refine oeq rfl rfl rfl ?_ | refine oex rfl rfl ?_ | refine obu rfl rfl ?_ | refine ofd rfl rfl ?_ | refine olt rfl ?_ | refine onk rfl ?_ | refine old rfl (by first | with_reducible assumption | rfl) ?_ | refine WO.run rfl ?_ | refine WO.skip rfl rfl ?_ | refine WO.skipu rfl ?_))
 refine WO.nil (WC.seqO ?_)
 (repeat (first | refine omv rfl ?_ | refine ols rfl (by first | with_reducible assumption | rfl) ?_ | refine ofa rfl ?_ | refine oad rfl rfl (by omega) ?_ | refine osb rfl rfl (by omega) ?_ | refine obn rfl rfl rfl ?_ | refine opt rfl rfl ?_ | refine opf rfl rfl ?_ | refine ont rfl ?_ | refine oeq rfl rfl rfl ?_ | refine oex rfl rfl ?_ | refine obu rfl rfl ?_ | refine ofd rfl rfl ?_ | refine olt rfl ?_ | refine onk rfl ?_ | refine old rfl (by first | with_reducible assumption | rfl) ?_ | refine WO.run rfl ?_ | refine WO.skip rfl rfl ?_ | refine WO.skipu rfl ?_))
 refine WO.nil (WC.seq (WC.seqO ?_))
 refine omv rfl ?_
 refine WO.call rfl rfl (spMay_ans S h2 g.wf x R (hs.grow g) hb hlen) ?_
 rintro v h3 ⟨rfl, g3⟩
 have g3 := g.trans g3
 refine WO.nil (WC.cond rfl (fun hc => WC.seqO ?_) (fun hc => WC.skip (WC.seqO ?_)))
 rotate_left
 ·(repeat (first | refine omv rfl ?_ | refine ols rfl (by first | with_reducible assumption | rfl) ?_ | refine ofa rfl ?_ | refine oad rfl rfl (by omega) ?_ | refine osb rfl rfl (by omega) ?_ | refine obn rfl rfl rfl ?_ | refine opt rfl rfl ?_ | refine opf rfl rfl ?_ | refine ont rfl ?_ | refine oeq rfl rfl rfl ?_ | refine oex rfl rfl ?_ | refine obu rfl rfl ?_ | refine ofd rfl rfl ?_ | refine olt rfl ?_ | refine onk rfl ?_ | refine old rfl (by first | with_reducible assumption | rfl) ?_ | refine WO.run rfl ?_ | refine WO.skip rfl rfl ?_ | refine WO.skipu rfl ?_))
  refine WO.nil (WC.ret ⟨trivial, g3, ?_⟩)
  rw [spTotF, hc]; rfl
 refine omv rfl ?_
 refine ols rfl hsl ?_
 (repeat (first | refine omv rfl ?_ | refine ols rfl (by first | with_reducible assumption | rfl) ?_ | refine ofa rfl ?_ | refine oad rfl rfl (by omega) ?_ | refine osb rfl rfl (by omega) ?_ | refine obn rfl rfl rfl ?_ | refine opt rfl rfl ?_ | refine opf rfl rfl ?_ | refine ont rfl ?_ | refine oeq rfl rfl rfl ?_ | refine oex rfl rfl ?_ | refine obu rfl rfl ?_ | refine ofd rfl rfl ?_ | refine olt rfl ?_ | refine onk rfl ?_ | refine old rfl (by first | with_reducible assumption | rfl) ?_ | refine WO.run rfl ?_ | refine WO.skip rfl rfl ?_ | refine WO.skipu rfl ?_))
 refine WO.nil (WC.block ?_)
 refine WC.loop (σ := Nat × Int) (fun s => [(0, x), (3, iv s.2), (8, x), (9, iv R.length), (10, iv s.1)])
  (fun s h' => Grow h h' ∧ s.1 ≤ R.length ∧ spSumF 0 R = spSumF s.2 (R.drop s.1)) (fun s => R.length - s.1) (0, 0) ?_ ⟨g3, by omega, rfl⟩ ?_
 ·exact Cov.cons rfl (Cov.cons rfl (Cov.cons rfl (Cov.cons rfl (Cov.cons rfl (Cov.nil _)))))
 rintro ⟨i, m⟩ h3 ⟨g3, hi, hm⟩
 simp only at hi hm
 refine WC.seqO ?_
 (repeat (first | refine omv rfl ?_ | refine ols rfl (by first | with_reducible assumption | rfl) ?_ | refine ofa rfl ?_ | refine oad rfl rfl (by omega) ?_ | refine osb rfl rfl (by omega) ?_ | refine obn rfl rfl rfl ?_ | refine opt rfl rfl ?_ | refine opf rfl rfl ?_ | refine ont rfl ?_ | refine oeq rfl rfl rfl ?_ | refine oex rfl rfl ?_ | refine obu rfl rfl ?_ | refine ofd rfl rfl ?_ | refine olt rfl ?_ | refine onk rfl ?_ | refine old rfl (by first | with_reducible assumption | rfl) ?_ | refine WO.run rfl ?_ | refine WO.skip rfl rfl ?_ | refine WO.skipu rfl ?_))
 refine WO.nil (WC.seq ?_)
 refine WC.cond rfl (fun hc => WC.skip ?_) (fun hc => WC.exit ?_)
 rotate_left
 ·have hc := of_decide_eq_false hc
  have : i = R.length := by omega
  subst this
  refine WC.seqO ?_
  (repeat (first | refine omv rfl ?_ | refine ols rfl (by first | with_reducible assumption | rfl) ?_ | refine ofa rfl ?_ | refine oad rfl rfl (by omega) ?_ | refine osb rfl rfl (by omega) ?_ | refine obn rfl rfl rfl ?_ | refine opt rfl rfl ?_ | refine opf rfl rfl ?_ | refine ont rfl ?_ | refine oeq rfl rfl rfl ?_ | refine oex rfl rfl ?_ | refine obu rfl rfl ?_ | refine ofd rfl rfl ?_ | refine olt rfl ?_ | refine onk rfl ?_ | refine old rfl (by first | with_reducible assumption | rfl) ?_ | refine WO.run rfl ?_ | refine WO.skip rfl rfl ?_ | refine WO.skipu rfl ?_))
  refine WO.nil (WC.ret ⟨trivial, g3, ?_⟩)
  rename_i hmay _
  rw [spTotF, hmay, if_pos rfl, hm]; simp [spSumF]; rfl
 have hc := of_decide_eq_true hc
 have hi : i < R.length := by omega
 obtain ⟨b, o, k1, k2⟩ := (hs.grow g3).at (i := i) (by rw [List.length_map]; exact hi)
 rw [List.getElem_map] at k2
 have hd : R.drop i = R[i] :: R.drop (i + 1) := List.drop_eq_getElem_cons hi
 rw [hd] at hm
 generalize R[i] = r at *
 obtain ⟨a, n⟩ := r
 simp only [spSumF] at hm
 refine WC.seq (WC.block (WC.seqO ?_))
 refine WO.ops (StepK.idxSl rfl rfl k1) ?_
 refine WO.ops (StepK.loadN rfl k2) ?_
 refine WO.ops StepK.alloc ?_
 obtain ⟨h4, w4, g4, _, r4⟩ := box_two (x := iv 0) (y := iv 0) (u := iv a) (w := iv n) g3 rfl rfl
 refine WO.op (StepK.store rfl rfl rfl w4) (WO.nil (WC.ops ?_))
 have r1 : h4.rd h3.size (0 + 1) = some (iv n) := rd_get r4 rfl
 refine omv rfl ?_
 refine ofa rfl ?_
 refine old rfl r1 ?_
 refine WO.ops (StepK.bin (v := iv (wr64 (m + n))) rfl rfl rfl) ?_
 refine omv rfl (WO.nil (WC.ops ?_))
 (repeat (first | refine omv rfl ?_ | refine ols rfl (by first | with_reducible assumption | rfl) ?_ | refine ofa rfl ?_ | refine oad rfl rfl (by omega) ?_ | refine osb rfl rfl (by omega) ?_ | refine obn rfl rfl rfl ?_ | refine opt rfl rfl ?_ | refine opf rfl rfl ?_ | refine ont rfl ?_ | refine oeq rfl rfl rfl ?_ | refine oex rfl rfl ?_ | refine obu rfl rfl ?_ | refine ofd rfl rfl ?_ | refine olt rfl ?_ | refine onk rfl ?_ | refine old rfl (by first | with_reducible assumption | rfl) ?_ | refine WO.run rfl ?_ | refine WO.skip rfl rfl ?_ | refine WO.skipu rfl ?_))
 refine WO.nil ⟨(i + 1, wr64 (m + n)), ?_, ⟨g4, hi, hm⟩, by simp only; omega⟩
 exact Cov.cons rfl (Cov.cons rfl (Cov.cons rfl (Cov.cons rfl (Cov.cons rfl (Cov.nil _)))))
def spIdxF (p : Int × Int → Bool) : Int → List (Int × Int) → Int
 | _, [] => -1
 | i, r :: l => if p r then i else spIdxF p (i + 1) l
theorem spIndex_ans (h : Heap) (hw : Wf h) (x : V) (R : List (Int × Int)) (hs : Sl h 2 x (R.map rn)) (hlen : R.length < 4611686018427387904) (g : Nat) (caps : List V) (p : Int × Int → Bool)
  (hg : ∀ r h1, Grow h h1 → Ans C g ([] ++ [.agg (rn r)] ++ caps) h1 fun v h' => v = .bool (p r) ∧ Grow h1 h') : Ans C 112 [x, .func (.func g) [] caps] h fun v h' => v = iv (spIdxF p 0 R) ∧ Grow h h' := by
 have hF : C.F 112 = some a112 := S.f rfl
 unfold a112 at hF
 refine Ans.val (fun _ _ => S.s _ _ _ rfl) hF rfl rfl hw fun h2 g0 => ?_
 clear hF
 have hsl : slLen x = some R.length := by rw [hs.len, List.length_map]
 refine WC.seqO ?_
 (repeat (first | refine omv rfl ?_ | refine ols rfl (by first | with_reducible assumption | rfl) ?_ | refine ofa rfl ?_ | refine oad rfl rfl (by omega) ?_ | refine osb rfl rfl (by omega) ?_ | refine obn rfl rfl rfl ?_ | refine opt rfl rfl ?_ | refine opf rfl rfl ?_ | refine ont rfl ?_ | refine oeq rfl rfl rfl ?_ | refine oex rfl rfl ?_ | refine obu rfl rfl ?_ | refine ofd rfl rfl ?_ | refine olt rfl ?_ | refine onk rfl ?_ | refine old rfl (by first | with_reducible assumption | rfl) ?_ | refine WO.run rfl ?_ | refine WO.skip rfl rfl ?_ | refine WO.skipu rfl ?_))
 refine WO.nil (WC.seq (WC.seqO ?_))
 refine omv rfl ?_
 refine ols rfl hsl ?_
 (repeat (first | refine omv rfl ?_ | refine ols rfl (by first | with_reducible assumption | rfl) ?_ | refine ofa rfl ?_ | refine oad rfl rfl (by omega) ?_ | refine osb rfl rfl (by omega) ?_ | refine obn rfl rfl rfl ?_ | refine opt rfl rfl ?_ | refine opf rfl rfl ?_ | refine ont rfl ?_ | refine oeq rfl rfl rfl ?_ | refine oex rfl rfl ?_ | refine obu rfl rfl ?_ | refine ofd rfl rfl ?_ | refine olt rfl ?_ | refine onk rfl ?_ | refine old rfl (by first | with_reducible assumption | rfl) ?_ | refine WO.run rfl ?_ | refine WO.skip rfl rfl ?_ | refine WO.skipu rfl ?_))
 refine WO.nil (WC.block ?_)
 refine WC.loop (σ := Nat) (fun i => [(0, x), (1, .func (.func g) [] caps), (7, iv R.length), (8, iv i)])
  (fun i h' => Grow h h' ∧ i ≤ R.length ∧ spIdxF p 0 R = spIdxF p i (R.drop i)) (fun i => R.length - i) 0 ?_ ⟨g0, by omega, rfl⟩ ?_
 ·exact Cov.cons rfl (Cov.cons rfl (Cov.cons rfl (Cov.cons rfl (Cov.nil _))))
 rintro i h3 ⟨g3, hi, hm⟩
 refine WC.seqO ?_
 (repeat (first | refine omv rfl ?_ | refine ols rfl (by first | with_reducible assumption | rfl) ?_ | refine ofa rfl ?_ | refine oad rfl rfl (by omega) ?_ | refine osb rfl rfl (by omega) ?_ | refine obn rfl rfl rfl ?_ | refine opt rfl rfl ?_ | refine opf rfl rfl ?_ | refine ont rfl ?_ | refine oeq rfl rfl rfl ?_ | refine oex rfl rfl ?_ | refine obu rfl rfl ?_ | refine ofd rfl rfl ?_ | refine olt rfl ?_ | refine onk rfl ?_ | refine old rfl (by first | with_reducible assumption | rfl) ?_ | refine WO.run rfl ?_ | refine WO.skip rfl rfl ?_ | refine WO.skipu rfl ?_))
 refine WO.nil (WC.seq ?_)
 refine WC.cond rfl (fun hc => WC.skip ?_) (fun hc => WC.exit ?_)
 rotate_left
 ·have hc := of_decide_eq_false hc
  have : i = R.length := by omega
  subst this
  refine WC.seqO ?_
  (repeat (first | refine omv rfl ?_ | refine ols rfl (by first | with_reducible assumption | rfl) ?_ | refine ofa rfl ?_ | refine oad rfl rfl (by omega) ?_ | refine osb rfl rfl (by omega) ?_ | refine obn rfl rfl rfl ?_ | refine opt rfl rfl ?_ | refine opf rfl rfl ?_ | refine ont rfl ?_ | refine oeq rfl rfl rfl ?_ | refine oex rfl rfl ?_ | refine obu rfl rfl ?_ | refine ofd rfl rfl ?_ | refine olt rfl ?_ | refine onk rfl ?_ | refine old rfl (by first | with_reducible assumption | rfl) ?_ | refine WO.run rfl ?_ | refine WO.skip rfl rfl ?_ | refine WO.skipu rfl ?_))
  refine WO.nil (WC.ret ⟨trivial, g3, ?_⟩)
  rw [hm]; simp [spIdxF]; rfl
 have hc := of_decide_eq_true hc
 have hi : i < R.length := by omega
 obtain ⟨b, o, k1, k2⟩ := (hs.grow g3).at (i := i) (by rw [List.length_map]; exact hi)
 rw [List.getElem_map] at k2
 have hd : R.drop i = R[i] :: R.drop (i + 1) := List.drop_eq_getElem_cons hi
 rw [hd] at hm
 generalize R[i] = r at *
 simp only [spIdxF] at hm
 refine WC.seq (WC.block (WC.seqO ?_))
 (repeat (first | refine omv rfl ?_ | refine ols rfl (by first | with_reducible assumption | rfl) ?_ | refine ofa rfl ?_ | refine oad rfl rfl (by omega) ?_ | refine osb rfl rfl (by omega) ?_ | refine obn rfl rfl rfl ?_ | refine opt rfl rfl ?_ | refine opf rfl rfl ?_ | refine ont rfl ?_ | refine oeq rfl rfl rfl ?_ | refine oex rfl rfl ?_ | refine obu rfl rfl ?_ | refine ofd rfl rfl ?_ | refine olt rfl ?_ | refine onk rfl ?_ | refine old rfl (by first | with_reducible assumption | rfl) ?_ | refine WO.run rfl ?_ | refine WO.skip rfl rfl ?_ | refine WO.skipu rfl ?_))
 refine WO.nil (WC.seqO ?_)
 refine omv rfl ?_
 refine omv rfl ?_
 refine omv rfl ?_
 refine WO.ops (StepK.idxSl rfl rfl k1) ?_
 refine WO.ops (StepK.loadN rfl k2) ?_
 refine WO.call rfl rfl (hg r h3 g3) ?_
 rintro v h4 ⟨rfl, g4⟩
 have g4 := g3.trans g4
 refine WO.nil (WC.cond rfl (fun hc1 => WC.seqO ?_) (fun hc1 => WC.skip (WC.ops ?_)))
 ·(repeat (first | refine omv rfl ?_ | refine ols rfl (by first | with_reducible assumption | rfl) ?_ | refine ofa rfl ?_ | refine oad rfl rfl (by omega) ?_ | refine osb rfl rfl (by omega) ?_ | refine obn rfl rfl rfl ?_ | refine opt rfl rfl ?_ | refine opf rfl rfl ?_ | refine ont rfl ?_ | refine oeq rfl rfl rfl ?_ | refine oex rfl rfl ?_ | refine obu rfl rfl ?_ | refine ofd rfl rfl ?_ | refine olt rfl ?_ | refine onk rfl ?_ | refine old rfl (by first | with_reducible assumption | rfl) ?_ | refine WO.run rfl ?_ | refine WO.skip rfl rfl ?_ | refine WO.skipu rfl ?_))
  refine WO.nil (WC.ret ⟨trivial, g4, ?_⟩)
  rw [hm, if_pos hc1]; rfl
 (repeat (first | refine omv rfl ?_ | refine ols rfl (by first | with_reducible assumption | rfl) ?_ | refine ofa rfl ?_ | refine oad rfl rfl (by omega) ?_ | refine osb rfl rfl (by omega) ?_ | refine obn rfl rfl rfl ?_ | refine opt rfl rfl ?_ | refine opf rfl rfl ?_ | refine ont rfl ?_ | refine oeq rfl rfl rfl ?_ | refine oex rfl rfl ?_ | refine obu rfl rfl ?_ | refine ofd rfl rfl ?_ | refine olt rfl ?_ | refine onk rfl ?_ | refine old rfl (by first | with_reducible assumption | rfl) ?_ | refine WO.run rfl ?_ | refine WO.skip rfl rfl ?_ | refine WO.skipu rfl ?_))
 refine WO.nil ⟨i + 1, ?_, ⟨g4, hi, ?_⟩, by omega⟩
 ·exact Cov.cons rfl (Cov.cons rfl (Cov.cons rfl (Cov.cons rfl (Cov.nil _))))
 ·rw [hm, if_neg (by rw [hc1]; decide)]; rfl
end Abs
end Go.Proofs.YtdebiolekbldiaaGreatDoor
namespace Go.Proofs.YtdebiolekbldiaaGreatDoor
namespace Abs
set_option linter.unusedVariables false
set_option linter.unusedSimpArgs false
set_option maxHeartbeats 1600000
open Go.RowKit
attribute [local irreducible] WO WC WD StepK Ans Does Runs DoesD
variable {C : Cfg} (S : StdO C)
def spAddF (R : List (Int × Int)) (i : Int) : List (Int × Int) :=
 match R.getLast? with
 | some r => if r.1 + r.2 = i then R.set (R.length - 1) (r.1, r.2 + 1) else R ++ [(i, 1)]
 | none => R ++ [(i, 1)]
def spOfF : Int → List (Int × Int) → List Bool → List (Int × Int)
 | _, R, [] => R
 | i, R, u :: l => spOfF (i + 1) (if u then R else spAddF R i) l
def JF (R : List (Int × Int)) (i : Nat) : Prop := R.length ≤ i ∧ ∀ r ∈ R, 0 ≤ r.1 ∧ 1 ≤ r.2 ∧ r.1 + r.2 ≤ i
theorem JF.up {R : List (Int × Int)} {i : Nat} (h : JF R i) : JF R (i + 1) := ⟨by have := h.1; omega, fun r hr => by have := h.2 r hr; omega⟩
theorem JF.app {R : List (Int × Int)} {i : Nat} (h : JF R i) : JF (R ++ [((i : Int), 1)]) (i + 1) := by
 refine ⟨by have := h.1; simp; omega, fun r hr => ?_⟩
 rcases List.mem_append.1 hr with q | q
 ·have := h.2 r q; omega
 ·simp at q; subst q; simp
theorem JF.set {R : List (Int × Int)} {i : Nat} (h : JF R i) {r : Int × Int} (hr : r ∈ R) (he : r.1 + r.2 = i) : JF (R.set (R.length - 1) (r.1, r.2 + 1)) (i + 1) := by
 refine ⟨by have := h.1; simp; omega, fun s hs => ?_⟩
 have hrr := h.2 r hr
 rcases List.mem_or_eq_of_mem_set hs with q | q
 ·have := h.2 s q; omega
 ·subst q; simp; omega
theorem grow_one {h0 h : Heap} {u : V} {R : List (Int × Int)} (hw0 : Wf h0) (g : Grow h0 h) (s : Grown h h0.size 2 u (R.map rn)) (hl : R.length ≤ 1000) (r : Int × Int) :
  ∃ v h4, appendA (h.push (.cells (rn r) (.tip [] 0 none))) 2 16 none u (.slice (some (h.size, 0)) 1 1) = some (v, h4) ∧ Grown h4 h0.size 2 v ((R ++ [r]).map rn) ∧ Grow h0 h4 := by
 have hnew : Sl (h.push (.cells (rn r) (.tip [] 0 none))) 2 (.slice (some (h.size, 0)) 1 1) [rn r] :=
  ⟨by simp, rfl, Nat.le_refl _, fun _ => rds_all (st := .tip [] 0 none) (by rw [get_push, if_pos rfl]; rfl) rfl⟩
 have gp : Grow h (h.push (.cells (rn r) (.tip [] 0 none))) := (Grow.refl g.wf).push _
 obtain ⟨v, h4, p1, p2, p3⟩ := (s.grow gp).append hw0 (g.trans gp) hnew (sz := 2) (bytes := 16) (tyK := none) (by decide) (by decide) (by
  simp only [List.length_map, roomy, List.length_singleton, decide_eq_true_eq]; omega) (by intro c hc v hv; simp at hc; subst hc; simp at hv; rcases hv with e | e <;> subst e <;> rfl)
 exact ⟨v, h4, p1, by rw [List.map_append]; exact p2, p3⟩
theorem grow_last {h0 h : Heap} {u : V} {R : List (Int × Int)} (hw0 : Wf h0) (g : Grow h0 h) (s : Grown h h0.size 2 u (R.map rn)) (hl : 0 < R.length) {r : Int × Int} (hr : R.getLast? = some r) :
  ∃ b o h4, idxSlA 2 u (iv ((R.length : Int) - 1)) = some (.ptr (some (b, o))) ∧ h.rds b o 2 = some (rn r) ∧ h.wr b (o + 1) [iv (r.2 + 1)] = some h4 ∧ Grown h4 h0.size 2 u ((R.set (R.length - 1) (r.1, r.2 + 1)).map rn) ∧ Grow h0 h4 := by
 have hi : R.length - 1 < (R.map rn).length := by rw [List.length_map]; omega
 obtain ⟨b, o, h4, p1, p2, p3, p4, p5⟩ := Grown.store hw0 g s hi (j := 1) (by decide) (v := iv (r.2 + 1)) rfl
 have hrr : R[R.length - 1]'(by omega) = r := by
  rw [List.getLast?_eq_getElem?, List.getElem?_eq_getElem (by omega)] at hr; cases hr; rfl
 rw [List.getElem_map, hrr] at p2 p4
 refine ⟨b, o, h4, ?_, p2, p3, ?_, p5⟩
 ·rw [← p1]; congr 2; omega
 ·rw [List.map_set]; exact p4
include S
theorem spOf_ans (h : Heap) (hw : Wf h) (x : V) (U : List Bool) (hx : Sl h 1 x (U.map fun u => [.bool u])) (hl : U.length ≤ 900) : Ans C 51 [x] h fun v h' => Grown h' h.size 2 v ((spOfF 0 [] U).map rn) ∧ Grow h h' := by
 have hF : C.F 51 = some a51 := S.f rfl
 unfold a51 at hF
 refine Ans.fn (fun _ _ => S.s _ _ _ rfl) hF rfl rfl hw fun h2 g => ?_
 clear hF
 have hsx : slLen x = some U.length := by rw [hx.len, List.length_map]
 refine WC.seqO ?_
 (repeat (first | refine omv rfl ?_ | refine ols rfl (by first | with_reducible assumption | rfl) ?_ | refine ofa rfl ?_ | refine oad rfl rfl (by omega) ?_ | refine osb rfl rfl (by omega) ?_ | refine obn rfl rfl rfl ?_ | refine opt rfl rfl ?_ | refine opf rfl rfl ?_ | refine ont rfl ?_ | refine oeq rfl rfl rfl ?_ | refine oex rfl rfl ?_ | refine obu rfl rfl ?_ | refine ofd rfl rfl ?_ | refine olt rfl ?_ | refine onk rfl ?_ | refine old rfl (by first | with_reducible assumption | rfl) ?_ | refine WO.run rfl ?_ | refine WO.skip rfl rfl ?_ | refine WO.skipu rfl ?_))
 refine WO.nil (WC.seqO ?_)
 (repeat (first | refine omv rfl ?_ | refine ols rfl (by first | with_reducible assumption | rfl) ?_ | refine ofa rfl ?_ | refine oad rfl rfl (by omega) ?_ | refine osb rfl rfl (by omega) ?_ | refine obn rfl rfl rfl ?_ | refine opt rfl rfl ?_ | refine opf rfl rfl ?_ | refine ont rfl ?_ | refine oeq rfl rfl rfl ?_ | refine oex rfl rfl ?_ | refine obu rfl rfl ?_ | refine ofd rfl rfl ?_ | refine olt rfl ?_ | refine onk rfl ?_ | refine old rfl (by first | with_reducible assumption | rfl) ?_ | refine WO.run rfl ?_ | refine WO.skip rfl rfl ?_ | refine WO.skipu rfl ?_))
 refine WO.nil (WC.seq (WC.seqO ?_))
 refine omv rfl ?_
 refine ols rfl hsx ?_
 (repeat (first | refine omv rfl ?_ | refine ols rfl (by first | with_reducible assumption | rfl) ?_ | refine ofa rfl ?_ | refine oad rfl rfl (by omega) ?_ | refine osb rfl rfl (by omega) ?_ | refine obn rfl rfl rfl ?_ | refine opt rfl rfl ?_ | refine opf rfl rfl ?_ | refine ont rfl ?_ | refine oeq rfl rfl rfl ?_ | refine oex rfl rfl ?_ | refine obu rfl rfl ?_ | refine ofd rfl rfl ?_ | refine olt rfl ?_ | refine onk rfl ?_ | refine old rfl (by first | with_reducible assumption | rfl) ?_ | refine WO.run rfl ?_ | refine WO.skip rfl rfl ?_ | refine WO.skipu rfl ?_))
 refine WO.nil (WC.block ?_)
 refine WC.loop (σ := Nat × V × List (Int × Int)) (fun s => [(0, x), (3, s.2.1), (7, x), (8, iv U.length), (9, iv s.1)]) (fun s h' => Grow h h' ∧ s.1 ≤ U.length ∧ Grown h' h.size 2 s.2.1 (s.2.2.map rn) ∧ spOfF 0 [] U = spOfF s.1 s.2.2 (U.drop s.1) ∧ JF s.2.2 s.1) (fun s => U.length - s.1) (0, .slice none 0 0, []) ?_ ⟨g, by omega, Grown.nil _ _ _, rfl, by simp [JF]⟩ ?_
 ·exact Cov.cons rfl (Cov.cons rfl (Cov.cons rfl (Cov.cons rfl (Cov.cons rfl (Cov.nil _)))))
 rintro ⟨i, u, R⟩ h3 ⟨g3, hi, hg, hm, hj⟩
 simp only at hi hg hm hj
 have hsu : slLen u = some R.length := by rw [hg.sl.len, List.length_map]
 refine WC.seqO ?_
 (repeat (first | refine omv rfl ?_ | refine ols rfl (by first | with_reducible assumption | rfl) ?_ | refine ofa rfl ?_ | refine oad rfl rfl (by omega) ?_ | refine osb rfl rfl (by omega) ?_ | refine obn rfl rfl rfl ?_ | refine opt rfl rfl ?_ | refine opf rfl rfl ?_ | refine ont rfl ?_ | refine oeq rfl rfl rfl ?_ | refine oex rfl rfl ?_ | refine obu rfl rfl ?_ | refine ofd rfl rfl ?_ | refine olt rfl ?_ | refine onk rfl ?_ | refine old rfl (by first | with_reducible assumption | rfl) ?_ | refine WO.run rfl ?_ | refine WO.skip rfl rfl ?_ | refine WO.skipu rfl ?_))
 refine WO.nil (WC.seq ?_)
 refine WC.cond rfl (fun hc => WC.skip ?_) (fun hc => WC.exit ?_)
 rotate_left
 ·have hc := of_decide_eq_false hc
  have : i = U.length := by omega
  subst this
  refine WC.seqO ?_
  (repeat (first | refine omv rfl ?_ | refine ols rfl (by first | with_reducible assumption | rfl) ?_ | refine ofa rfl ?_ | refine oad rfl rfl (by omega) ?_ | refine osb rfl rfl (by omega) ?_ | refine obn rfl rfl rfl ?_ | refine opt rfl rfl ?_ | refine opf rfl rfl ?_ | refine ont rfl ?_ | refine oeq rfl rfl rfl ?_ | refine oex rfl rfl ?_ | refine obu rfl rfl ?_ | refine ofd rfl rfl ?_ | refine olt rfl ?_ | refine onk rfl ?_ | refine old rfl (by first | with_reducible assumption | rfl) ?_ | refine WO.run rfl ?_ | refine WO.skip rfl rfl ?_ | refine WO.skipu rfl ?_))
  rw [List.drop_length] at hm
  simp only [spOfF] at hm
  refine WO.nil (WC.ret ⟨trivial, g3.wf, u, rfl, fun h5 g5 => ⟨by rw [hm]; exact hg.grow g5, g3.trans g5⟩, fun hs => ⟨by rw [hm]; exact hg.scopd hs h, Grow.refl hw⟩⟩)
 have hc := of_decide_eq_true hc
 have hi : i < U.length := by omega
 have hRl : R.length ≤ 1000 := by have := hj.1; omega
 obtain ⟨b, o, k1, k2⟩ := (hx.grow g3).at (i := i) (by rw [List.length_map]; exact hi)
 rw [List.getElem_map] at k2
 have hd : U.drop i = U[i] :: U.drop (i + 1) := List.drop_eq_getElem_cons hi
 rw [hd] at hm
 generalize U[i] = is at *
 simp only [spOfF] at hm
 have r0 : h3.rd b o = some (.bool is) := by have := rds_rd k2 (j := 0) rfl; simpa using this
 refine WC.seq (WC.block (WC.seqO ?_))
 refine omv rfl ?_
 refine WO.ops (StepK.idxSl rfl rfl k1) ?_
 refine old rfl r0 ?_
 (repeat (first | refine omv rfl ?_ | refine ols rfl (by first | with_reducible assumption | rfl) ?_ | refine ofa rfl ?_ | refine oad rfl rfl (by omega) ?_ | refine osb rfl rfl (by omega) ?_ | refine obn rfl rfl rfl ?_ | refine opt rfl rfl ?_ | refine opf rfl rfl ?_ | refine ont rfl ?_ | refine oeq rfl rfl rfl ?_ | refine oex rfl rfl ?_ | refine obu rfl rfl ?_ | refine ofd rfl rfl ?_ | refine olt rfl ?_ | refine onk rfl ?_ | refine old rfl (by first | with_reducible assumption | rfl) ?_ | refine WO.run rfl ?_ | refine WO.skip rfl rfl ?_ | refine WO.skipu rfl ?_))
 refine WO.nil (WC.seqO ?_)
 refine omv rfl ?_
 refine ols rfl hsu ?_
 (repeat (first | refine omv rfl ?_ | refine ols rfl (by first | with_reducible assumption | rfl) ?_ | refine ofa rfl ?_ | refine oad rfl rfl (by omega) ?_ | refine osb rfl rfl (by omega) ?_ | refine obn rfl rfl rfl ?_ | refine opt rfl rfl ?_ | refine opf rfl rfl ?_ | refine ont rfl ?_ | refine oeq rfl rfl rfl ?_ | refine oex rfl rfl ?_ | refine obu rfl rfl ?_ | refine ofd rfl rfl ?_ | refine olt rfl ?_ | refine onk rfl ?_ | refine old rfl (by first | with_reducible assumption | rfl) ?_ | refine WO.run rfl ?_ | refine WO.skip rfl rfl ?_ | refine WO.skipu rfl ?_))
 refine WO.nil (WC.block (WC.seqO ?_))
 (repeat (first | refine omv rfl ?_ | refine ols rfl (by first | with_reducible assumption | rfl) ?_ | refine ofa rfl ?_ | refine oad rfl rfl (by omega) ?_ | refine osb rfl rfl (by omega) ?_ | refine obn rfl rfl rfl ?_ | refine opt rfl rfl ?_ | refine opf rfl rfl ?_ | refine ont rfl ?_ | refine oeq rfl rfl rfl ?_ | refine oex rfl rfl ?_ | refine obu rfl rfl ?_ | refine ofd rfl rfl ?_ | refine olt rfl ?_ | refine onk rfl ?_ | refine old rfl (by first | with_reducible assumption | rfl) ?_ | refine WO.run rfl ?_ | refine WO.skip rfl rfl ?_ | refine WO.skipu rfl ?_))
 have push : ∀ (e : List (Nat × V)) (v : V) (h4 : Heap) (R' : List (Int × Int)), Cov [(0, x), (3, v), (7, x), (8, iv U.length), (9, iv i)] e → Grow h h4 → Grown h4 h.size 2 v (R'.map rn) → (if is = true then R else spAddF R i) = R' → JF R' (i + 1) →
   WC C (.ops [⟨(some 45), none, .bin .add (.t 9) (.c (.int .i64 (1)))⟩, ⟨(some 9), none, .mv (.t 45)⟩]) e h4 (fun x_1 e' h' => match x_1 with
    | .normal => ∃ s' : Nat × V × List (Int × Int), Cov [(0, x), (3, s'.2.1), (7, x), (8, iv U.length), (9, iv s'.1)] e' ∧ (Grow h h' ∧ s'.1 ≤ U.length ∧ Grown h' h.size 2 s'.2.1 (s'.2.2.map rn) ∧ spOfF 0 [] U = spOfF s'.1 s'.2.2 (U.drop s'.1) ∧ JF s'.2.2 s'.1) ∧ U.length - s'.1 < U.length - i
    | _ => False) := by
  intro e v h4 R' hcv g4 hg4 hR' hj'
  refine WC.cov hcv (WC.ops ?_)
  (repeat (first | refine omv rfl ?_ | refine ols rfl (by first | with_reducible assumption | rfl) ?_ | refine ofa rfl ?_ | refine oad rfl rfl (by omega) ?_ | refine osb rfl rfl (by omega) ?_ | refine obn rfl rfl rfl ?_ | refine opt rfl rfl ?_ | refine opf rfl rfl ?_ | refine ont rfl ?_ | refine oeq rfl rfl rfl ?_ | refine oex rfl rfl ?_ | refine obu rfl rfl ?_ | refine ofd rfl rfl ?_ | refine olt rfl ?_ | refine onk rfl ?_ | refine old rfl (by first | with_reducible assumption | rfl) ?_ | refine WO.run rfl ?_ | refine WO.skip rfl rfl ?_ | refine WO.skipu rfl ?_))
  refine WO.nil ⟨(i + 1, v, R'), ?_, ⟨g4, hi, hg4, by rw [hm, hR']; rfl, hj'⟩, by simp only; omega⟩
  exact Cov.cons rfl (Cov.cons rfl (Cov.cons rfl (Cov.cons rfl (Cov.cons rfl (Cov.nil _)))))
 refine WO.nil (WC.cond rfl (fun hc1 => WC.skip ?_) (fun hc1 => WC.seqO ?_))
 ·refine (push _ u h3 R ?_ g3 hg (by rw [hc1]; rfl) hj.up).mono ?_
  ·exact Cov.cons rfl (Cov.cons rfl (Cov.cons rfl (Cov.cons rfl (Cov.cons rfl (Cov.nil _)))))
  ·intro x1 e1 h1 hq; cases x1 <;> first | exact hq | exact hq.elim
 refine omv rfl ?_
 (repeat (first | refine omv rfl ?_ | refine ols rfl (by first | with_reducible assumption | rfl) ?_ | refine ofa rfl ?_ | refine oad rfl rfl (by omega) ?_ | refine osb rfl rfl (by omega) ?_ | refine obn rfl rfl rfl ?_ | refine opt rfl rfl ?_ | refine opf rfl rfl ?_ | refine ont rfl ?_ | refine oeq rfl rfl rfl ?_ | refine oex rfl rfl ?_ | refine obu rfl rfl ?_ | refine ofd rfl rfl ?_ | refine olt rfl ?_ | refine onk rfl ?_ | refine old rfl (by first | with_reducible assumption | rfl) ?_ | refine WO.run rfl ?_ | refine WO.skip rfl rfl ?_ | refine WO.skipu rfl ?_))
 refine WO.splitG rfl (fun hc2 => ?_) (fun hc2 => ?_)
 rotate_left
 ·have hc2 := of_decide_eq_false hc2
  (repeat (first | refine omv rfl ?_ | refine ols rfl (by first | with_reducible assumption | rfl) ?_ | refine ofa rfl ?_ | refine oad rfl rfl (by omega) ?_ | refine osb rfl rfl (by omega) ?_ | refine obn rfl rfl rfl ?_ | refine opt rfl rfl ?_ | refine opf rfl rfl ?_ | refine ont rfl ?_ | refine oeq rfl rfl rfl ?_ | refine oex rfl rfl ?_ | refine obu rfl rfl ?_ | refine ofd rfl rfl ?_ | refine olt rfl ?_ | refine onk rfl ?_ | refine old rfl (by first | with_reducible assumption | rfl) ?_ | refine WO.run rfl ?_ | refine WO.skip rfl rfl ?_ | refine WO.skipu rfl ?_))
  refine WO.nil (WC.condF rfl (WC.ops ?_))
  refine omv rfl ?_
  refine omv rfl ?_
  refine WO.ops (StepK.build (cs := rn (i, 1)) rfl rfl) ?_
  refine WO.ops (StepK.buildSl (cs := rn (i, 1)) rfl rfl) ?_
  obtain ⟨v, h4, p1, p2, p3⟩ := grow_one hw g3 hg hRl (i, 1)
  refine WO.ops (StepK.append rfl rfl p1) ?_
  refine omv rfl (WO.nil ?_)
  refine (push _ v h4 _ ?_ p3 p2 ?_ hj.app).mono ?_
  ·exact Cov.cons rfl (Cov.cons rfl (Cov.cons rfl (Cov.cons rfl (Cov.cons rfl (Cov.nil _)))))
  ·have : R = [] := List.length_eq_zero_iff.1 (by omega)
   subst this; rw [hc1]; rfl
  ·intro x1 e1 h1 hq; cases x1 <;> first | exact hq | exact hq.elim
 have hc2 := of_decide_eq_true hc2
 have hlp : 0 < R.length := by omega
 obtain ⟨r, hr⟩ : ∃ r, R.getLast? = some r := by
  rw [List.getLast?_eq_getElem?, List.getElem?_eq_getElem (by omega)]; exact ⟨_, rfl⟩
 have hrm : r ∈ R := List.mem_of_getLast? hr
 have hrb := hj.2 r hrm
 obtain ⟨b1, o1, h4, p1, p2, p3, p4, p5⟩ := grow_last hw g3 hg hlp hr
 (repeat (first | refine omv rfl ?_ | refine ols rfl (by first | with_reducible assumption | rfl) ?_ | refine ofa rfl ?_ | refine oad rfl rfl (by omega) ?_ | refine osb rfl rfl (by omega) ?_ | refine obn rfl rfl rfl ?_ | refine opt rfl rfl ?_ | refine opf rfl rfl ?_ | refine ont rfl ?_ | refine oeq rfl rfl rfl ?_ | refine oex rfl rfl ?_ | refine obu rfl rfl ?_ | refine ofd rfl rfl ?_ | refine olt rfl ?_ | refine onk rfl ?_ | refine old rfl (by first | with_reducible assumption | rfl) ?_ | refine WO.run rfl ?_ | refine WO.skip rfl rfl ?_ | refine WO.skipu rfl ?_))
 refine WO.ops (StepK.idxSl rfl rfl p1) ?_
 refine WO.run rfl ?_
 refine WO.ops (StepK.loadN rfl p2) ?_
 refine WO.run rfl ?_
 refine WO.call rfl rfl (spEnd_ans S h3 g3.wf r.1 r.2) ?_
 rintro v h5 ⟨rfl, g5⟩
 rw [StepK.wrap64 (by omega) (by omega)]
 have g5' := g3.trans g5
 obtain ⟨b1, o1, h4, p1, p2, p3, p4, p5⟩ := grow_last hw g5' (hg.grow g5) hlp hr
 have p6 : h5.rd b1 (o1 + 1) = some (iv r.2) := rds_rd p2 rfl
 (repeat (first | refine omv rfl ?_ | refine ols rfl (by first | with_reducible assumption | rfl) ?_ | refine ofa rfl ?_ | refine oad rfl rfl (by omega) ?_ | refine osb rfl rfl (by omega) ?_ | refine obn rfl rfl rfl ?_ | refine opt rfl rfl ?_ | refine opf rfl rfl ?_ | refine ont rfl ?_ | refine oeq rfl rfl rfl ?_ | refine oex rfl rfl ?_ | refine obu rfl rfl ?_ | refine ofd rfl rfl ?_ | refine olt rfl ?_ | refine onk rfl ?_ | refine old rfl (by first | with_reducible assumption | rfl) ?_ | refine WO.run rfl ?_ | refine WO.skip rfl rfl ?_ | refine WO.skipu rfl ?_))
 refine WO.nil (WC.cond rfl (fun hc3 => WC.ops ?_) (fun hc3 => WC.ops ?_))
 ·have hc3 : r.1 + r.2 = i := by simpa using hc3
  refine omv rfl ?_
  refine omv rfl ?_
  (repeat (first | refine omv rfl ?_ | refine ols rfl (by first | with_reducible assumption | rfl) ?_ | refine ofa rfl ?_ | refine oad rfl rfl (by omega) ?_ | refine osb rfl rfl (by omega) ?_ | refine obn rfl rfl rfl ?_ | refine opt rfl rfl ?_ | refine opf rfl rfl ?_ | refine ont rfl ?_ | refine oeq rfl rfl rfl ?_ | refine oex rfl rfl ?_ | refine obu rfl rfl ?_ | refine ofd rfl rfl ?_ | refine olt rfl ?_ | refine onk rfl ?_ | refine old rfl (by first | with_reducible assumption | rfl) ?_ | refine WO.run rfl ?_ | refine WO.skip rfl rfl ?_ | refine WO.skipu rfl ?_))
  refine WO.ops (StepK.idxSl rfl rfl p1) ?_
  refine ofa rfl ?_
  refine old rfl p6 ?_
  (repeat (first | refine omv rfl ?_ | refine ols rfl (by first | with_reducible assumption | rfl) ?_ | refine ofa rfl ?_ | refine oad rfl rfl (by omega) ?_ | refine osb rfl rfl (by omega) ?_ | refine obn rfl rfl rfl ?_ | refine opt rfl rfl ?_ | refine opf rfl rfl ?_ | refine ont rfl ?_ | refine oeq rfl rfl rfl ?_ | refine oex rfl rfl ?_ | refine obu rfl rfl ?_ | refine ofd rfl rfl ?_ | refine olt rfl ?_ | refine onk rfl ?_ | refine old rfl (by first | with_reducible assumption | rfl) ?_ | refine WO.run rfl ?_ | refine WO.skip rfl rfl ?_ | refine WO.skipu rfl ?_))
  refine WO.ops (StepK.idxSl rfl rfl p1) ?_
  refine ofa rfl ?_
  refine WO.op (StepK.store rfl rfl rfl p3) (WO.nil ?_)
  refine (push _ u h4 _ ?_ p5 p4 ?_ (hj.set hrm hc3)).mono ?_
  ·exact Cov.cons rfl (Cov.cons rfl (Cov.cons rfl (Cov.cons rfl (Cov.cons rfl (Cov.nil _)))))
  ·rw [hc1, spAddF, hr]; simp [hc3]
  ·intro x1 e1 h1 hq; cases x1 <;> first | exact hq | exact hq.elim
 ·have hc3 : r.1 + r.2 ≠ i := by simpa using hc3
  refine omv rfl ?_
  refine omv rfl ?_
  refine WO.ops (StepK.build (cs := rn (i, 1)) rfl rfl) ?_
  refine WO.ops (StepK.buildSl (cs := rn (i, 1)) rfl rfl) ?_
  obtain ⟨v, h6, s1, s2, s3⟩ := grow_one hw g5' (hg.grow g5) hRl (i, 1)
  refine WO.ops (StepK.append rfl rfl s1) ?_
  refine omv rfl (WO.nil ?_)
  refine (push _ v h6 _ ?_ s3 s2 ?_ hj.app).mono ?_
  ·exact Cov.cons rfl (Cov.cons rfl (Cov.cons rfl (Cov.cons rfl (Cov.cons rfl (Cov.nil _)))))
  ·rw [hc1, spAddF, hr]; simp [hc3]
  ·intro x1 e1 h1 hq; cases x1 <;> first | exact hq | exact hq.elim
end Abs
end Go.Proofs.YtdebiolekbldiaaGreatDoor
namespace Go.Proofs.YtdebiolekbldiaaGreatDoor
namespace Abs
set_option linter.unusedVariables false
set_option linter.unusedSimpArgs false
set_option maxHeartbeats 1600000
open Go.RowKit
attribute [local irreducible] WO WC WD StepK Ans Does Runs DoesD
variable {C : Cfg} (S : StdO C)
def NewS (h : Heap) (v : V) (es : List (List V)) : Prop := v.scopd h.size = true → v = .slice none 0 0 ∧ es = []
theorem ones_rn {R : List (Int × Int)} : ∀ c ∈ R.map rn, ∀ v ∈ c, V.one v = true := by
 intro c hc v hv
 obtain ⟨r, _, rfl⟩ := List.mem_map.1 hc
 simp at hv; rcases hv with e | e <;> subst e <;> rfl
theorem scoped_up {h : Heap} {sz : Nat} {v : V} {es : List (List V)} (s : Sl h sz v es) {n m : Nat} (hnm : n ≤ m) (hs : v.scopd n = true) : v.scopd m = true := by
 have h1 := s.2
 split at h1
 ·rfl
 ·simp [V.scopd] at hs ⊢; omega
 ·simp [V.scopd] at hs ⊢; omega
 ·exact h1.elim
include S
theorem spClone_ans (h : Heap) (hw : Wf h) (y : V) (R : List (Int × Int)) (hy : Sl h 2 y (R.map rn)) (hl : R.length ≤ 2000) : Ans C 133 [y] h fun v h' => Sl h' 2 v (R.map rn) ∧ Grow h h' ∧ NewS h v (R.map rn) := by
 have hF : C.F 133 = some a133 := S.f rfl
 unfold a133 at hF
 refine Ans.fn (fun _ _ => S.s _ _ _ rfl) hF rfl rfl hw fun h2 g => ?_
 clear hF
 have hy2 := hy.grow g
 refine WC.seqO ?_
 (repeat (first | refine omv rfl ?_ | refine ols rfl (by first | with_reducible assumption | rfl) ?_ | refine ofa rfl ?_ | refine oad rfl rfl (by omega) ?_ | refine osb rfl rfl (by omega) ?_ | refine obn rfl rfl rfl ?_ | refine opt rfl rfl ?_ | refine opf rfl rfl ?_ | refine ont rfl ?_ | refine oeq rfl rfl rfl ?_ | refine oex rfl rfl ?_ | refine obu rfl rfl ?_ | refine ofd rfl rfl ?_ | refine olt rfl ?_ | refine onk rfl ?_ | refine old rfl (by first | with_reducible assumption | rfl) ?_ | refine WO.run rfl ?_ | refine WO.skip rfl rfl ?_ | refine WO.skipu rfl ?_))
 refine WO.nil (WC.seq (WC.seqO ?_))
 refine omv rfl ?_
 have go : ∀ e : List (Nat × V), Cov [(0, y)] e → WC C (.seq (.ops [⟨(some 5), none, .buildSl none [] 0 []⟩,
  ⟨(some 6), none, .mv (.t 0)⟩,
  ⟨(some 7), none, .append 2 16 none (.t 5) (.t 6)⟩,
  ⟨(some 2), none, .mv (.t 7)⟩]) (.ret)) e h2 (fun x e' h1 => Fin x ∧ Wf h1 ∧ ∃ v, retE e' h1 [.tmp 2] = some v ∧ (∀ h3, Grow h1 h3 → Sl h3 2 v (R.map rn) ∧ Grow h h3 ∧ NewS h v (R.map rn)) ∧ (v.scopd h.size = true → Sl h 2 v (R.map rn) ∧ Grow h h ∧ NewS h v (R.map rn))) := by
  intro e hcv
  refine WC.cov hcv (WC.seqO ?_)
  refine WO.ops (StepK.buildSl (cs := []) rfl rfl) ?_
  refine omv rfl ?_
  have gp : Grow h2 (h2.push (.cells [] (.tip [] 0 none))) := (Grow.refl g.wf).push _
  have hfit : Fit (h2.push (.cells [] (.tip [] 0 none))) 2 (.slice (some (h2.size, 0)) 0 0) [] := ⟨⟨by simp, rfl, Nat.le_refl _, by simp⟩, _, rfl⟩
  obtain ⟨v, h4, p1, p2, p3⟩ := hfit.append (g.trans gp) (hy2.grow gp) (bytes := 16) (tyK := none) (by decide) (by decide) (by simp only [List.length_nil, List.length_map, roomy, decide_eq_true_eq]; omega) ones_rn
  refine WO.ops (StepK.append rfl rfl p1) ?_
  refine omv rfl (WO.nil (WC.ret ?_))
  have hsl : Sl h4 2 v (R.map rn) := by
   rcases p3 with ⟨q1, rfl, rfl⟩ | q
   ·rw [q1]; exact hfit.1
   ·simpa using q.sl
  have hns : v.scopd h.size = true → v = .slice none 0 0 ∧ R.map rn = [] := by
   intro hsc
   rcases p3 with ⟨q1, rfl, rfl⟩ | q
   ·have := g.size; simp [V.scopd] at hsc; omega
   ·obtain ⟨_, ⟨rfl, q2⟩ | ⟨b, _, _, rfl, _, q3, _⟩⟩ := q
    ·exact ⟨rfl, by simpa using q2⟩
    ·simp [V.scopd] at hsc; have := q3.1; omega
  refine ⟨trivial, p2.wf, v, rfl, fun h3 g3 => ⟨hsl.grow g3, p2.trans g3, hns⟩, fun hsc => ?_⟩
  obtain ⟨rfl, q2⟩ := hns hsc
  rw [q2]; exact ⟨Sl.nil h 2, Grow.refl hw, fun _ => ⟨rfl, rfl⟩⟩
 have hy3 := hy.2
 split at hy3
 ·obtain ⟨rfl, rfl, hnil⟩ := hy3
  refine oeq rfl rfl rfl (WO.nil (WC.condT rfl (WC.seqO ?_)))
  (repeat (first | refine omv rfl ?_ | refine ols rfl (by first | with_reducible assumption | rfl) ?_ | refine ofa rfl ?_ | refine oad rfl rfl (by omega) ?_ | refine osb rfl rfl (by omega) ?_ | refine obn rfl rfl rfl ?_ | refine opt rfl rfl ?_ | refine opf rfl rfl ?_ | refine ont rfl ?_ | refine oeq rfl rfl rfl ?_ | refine oex rfl rfl ?_ | refine obu rfl rfl ?_ | refine ofd rfl rfl ?_ | refine olt rfl ?_ | refine onk rfl ?_ | refine old rfl (by first | with_reducible assumption | rfl) ?_ | refine WO.run rfl ?_ | refine WO.skip rfl rfl ?_ | refine WO.skipu rfl ?_))
  rw [hnil]
  exact WO.nil (WC.ret ⟨trivial, g.wf, _, rfl, fun h3 g3 => ⟨Sl.nil h3 2, g.trans g3, fun _ => ⟨rfl, rfl⟩⟩, fun _ => ⟨Sl.nil h 2, Grow.refl hw, fun _ => ⟨rfl, rfl⟩⟩⟩)
 ·refine oeq rfl rfl rfl (WO.nil (WC.condF rfl (WC.skip ?_)))
  exact go _ (Cov.cons rfl (Cov.nil _))
 ·refine oeq rfl rfl rfl (WO.nil (WC.condF rfl (WC.skip ?_)))
  exact go _ (Cov.cons rfl (Cov.nil _))
 ·exact hy3.elim
theorem spSwap_ans (h : Heap) (hw : Wf h) (x y : V) (R W : List (Int × Int)) (hx : Sl h 2 x (R.map rn)) (hy : Sl h 2 y (W.map rn)) (i j : Nat) (hi : i ≤ R.length) (hj : j ≤ R.length) (hl : R.length ≤ 300) (hl2 : W.length ≤ 100) : Ans C 114 [x, iv i, iv j, y] h fun v h' => Sl h' 2 v ((R.take i ++ W ++ R.drop j).map rn) ∧ Grow h h' ∧ NewS h v ((R.take i ++ W ++ R.drop j).map rn) := by
 have hF : C.F 114 = some a114 := S.f rfl
 unfold a114 at hF
 refine Ans.fn (fun _ _ => S.s _ _ _ rfl) hF rfl rfl hw fun h2 g => ?_
 clear hF
 refine WC.seqO ?_
 (repeat (first | refine omv rfl ?_ | refine ols rfl (by first | with_reducible assumption | rfl) ?_ | refine ofa rfl ?_ | refine oad rfl rfl (by omega) ?_ | refine osb rfl rfl (by omega) ?_ | refine obn rfl rfl rfl ?_ | refine opt rfl rfl ?_ | refine opf rfl rfl ?_ | refine ont rfl ?_ | refine oeq rfl rfl rfl ?_ | refine oex rfl rfl ?_ | refine obu rfl rfl ?_ | refine ofd rfl rfl ?_ | refine olt rfl ?_ | refine onk rfl ?_ | refine old rfl (by first | with_reducible assumption | rfl) ?_ | refine WO.run rfl ?_ | refine WO.skip rfl rfl ?_ | refine WO.skipu rfl ?_))
 refine WO.nil (WC.seqD ?_)
 obtain ⟨u, k1, k2⟩ := (hx.grow g).take3 (i := i) (by rw [List.length_map]; exact hi)
 obtain ⟨u', k3, k4⟩ := (hx.grow g).drop1 (i := j) (by rw [List.length_map]; exact hj)
 rw [← List.map_take] at k2
 rw [← List.map_drop] at k4
 refine dmv rfl ?_
 refine dmv rfl ?_
 refine dmv rfl ?_
 refine WD.pure (StepK.sliceSl rfl rfl rfl rfl k1) rfl ?_
 refine dmv rfl ?_
 refine dmv rfl ?_
 refine dmv rfl ?_
 refine WD.pure (StepK.sliceSl rfl rfl rfl rfl k3) rfl ?_
 have hlt : (R.take i).length = i := by rw [List.length_take]; omega
 have hld : (R.drop j).length = R.length - j := List.length_drop
 obtain ⟨v1, h3, v2, h4, p1, g3, p2, g4, p3⟩ := two_append (bytes := 16) hw g k2 (hy.grow g) k4 (by decide) (by decide) (by simp only [List.length_map, roomy, decide_eq_true_eq]; omega) (by simp only [List.length_map, roomy, decide_eq_true_eq]; omega) ones_rn ones_rn
 rw [← List.map_append, ← List.map_append] at p3
 refine WD.opC trivial rfl (StepK.append rfl rfl p1) ?_
 refine WD.opC trivial rfl (StepK.append rfl rfl p2) ?_
 refine WD.call trivial rfl rfl (spClone_ans S h4 g4.wf v2 _ p3 (by simp only [List.length_append]; omega)) ?_
 rintro v h5 ⟨q1, g5, q2⟩
 refine dmv rfl ?_
 refine WD.nil trivial (WC.ret ⟨trivial, g5.wf, v, rfl, fun h6 g6 => ⟨q1.grow g6, (g4.trans g5).trans g6, ?_⟩, fun hsc => ?_⟩)
 ·exact fun hsc => q2 (scoped_up q1 g4.size hsc)
 ·have hsc' : v.scopd h4.size = true := scoped_up q1 g4.size hsc
  obtain ⟨rfl, q3⟩ := q2 hsc'
  rw [q3]
  exact ⟨Sl.nil h 2, Grow.refl hw, fun _ => ⟨rfl, rfl⟩⟩
theorem spTakeIn_ans (h : Heap) (hw : Wf h) (b : Nat) (n : Int) (hb : h.rd b 0 = some (iv n)) (r : Int × Int) : Ans C 113 ([] ++ [.agg (rn r)] ++ [.ptr (some (b, 0))]) h fun v h' => v = .bool (decide (r.2 ≥ n)) ∧ Grow h h' := by
 have hF : C.F 113 = some a113 := S.f rfl
 unfold a113 at hF
 refine Ans.val (fun _ _ => S.s _ _ _ rfl) hF rfl rfl hw fun h2 g => ?_
 clear hF
 obtain ⟨a, m⟩ := r
 refine WC.seqO ?_
 refine WO.ops (StepK.box rfl) ?_
 (repeat (first | refine omv rfl ?_ | refine ols rfl (by first | with_reducible assumption | rfl) ?_ | refine ofa rfl ?_ | refine oad rfl rfl (by omega) ?_ | refine osb rfl rfl (by omega) ?_ | refine obn rfl rfl rfl ?_ | refine opt rfl rfl ?_ | refine opf rfl rfl ?_ | refine ont rfl ?_ | refine oeq rfl rfl rfl ?_ | refine oex rfl rfl ?_ | refine obu rfl rfl ?_ | refine ofd rfl rfl ?_ | refine olt rfl ?_ | refine onk rfl ?_ | refine old rfl (by first | with_reducible assumption | rfl) ?_ | refine WO.run rfl ?_ | refine WO.skip rfl rfl ?_ | refine WO.skipu rfl ?_))
 refine WO.nil (WC.seqO ?_)
 have gp : Grow h2 (h2.push (.cells (V.agg (rn (a, m))).cellsOf (.tip [] 0 none))) := (Grow.refl g.wf).push _
 have q1 : (h2.push (.cells (V.agg (rn (a, m))).cellsOf (.tip [] 0 none))).rd h2.size (0 + 1) = some (iv m) := rd_get (get_push_self _ _) rfl
 have g3 := g.trans gp
 have hb := g3.rd hb
 refine ofa rfl ?_
 refine old rfl q1 ?_
 refine old rfl hb ?_
 (repeat (first | refine omv rfl ?_ | refine ols rfl (by first | with_reducible assumption | rfl) ?_ | refine ofa rfl ?_ | refine oad rfl rfl (by omega) ?_ | refine osb rfl rfl (by omega) ?_ | refine obn rfl rfl rfl ?_ | refine opt rfl rfl ?_ | refine opf rfl rfl ?_ | refine ont rfl ?_ | refine oeq rfl rfl rfl ?_ | refine oex rfl rfl ?_ | refine obu rfl rfl ?_ | refine ofd rfl rfl ?_ | refine olt rfl ?_ | refine onk rfl ?_ | refine old rfl (by first | with_reducible assumption | rfl) ?_ | refine WO.run rfl ?_ | refine WO.skip rfl rfl ?_ | refine WO.skipu rfl ?_))
 exact WO.nil (WC.ret ⟨trivial, g3, rfl⟩)
def spTakeF (R : List (Int × Int)) (n : Int) : Int × List (Int × Int) × Bool :=
 if spMayF (-1) R = false ∨ n < 1 ∨ 1073741824 < n then (0, [], false)
 else let i := spIdxF (fun r => decide (r.2 ≥ n)) 0 R
  if i < 0 then (0, [], false)
  else match R[i.toNat]? with
   | some r => (r.1, R.take i.toNat ++ (if r.2 = n then [] else [(r.1 + n, r.2 - n)]) ++ R.drop (i.toNat + 1), true)
   | none => (0, [], false)
omit S in
theorem spIdxF_at (p : Int × Int → Bool) (R : List (Int × Int)) : ∀ i : Int, 0 ≤ i → spIdxF p i R = -1 ∨ ∃ k r, spIdxF p i R = i + (k : Nat) ∧ R[k]? = some r ∧ p r = true := by
 induction R with
 | nil => intro i hi; exact .inl rfl
 | cons r l ih =>
  intro i hi
  simp only [spIdxF]
  by_cases hp : p r = true
  ·exact .inr ⟨0, r, by rw [if_pos hp]; simp, rfl, hp⟩
  ·rw [if_neg hp]
   rcases ih (i + 1) (by omega) with q | ⟨k, s, q1, q2, q3⟩
   ·exact .inl q
   ·exact .inr ⟨k + 1, s, by rw [q1]; push_cast; omega, q2, q3⟩
omit S in
theorem spMayF_bounds : ∀ (R : List (Int × Int)) (last : Int), -1 ≤ last → spMayF last R = true → ∀ r ∈ R, 0 ≤ r.1 ∧ 1 ≤ r.2 ∧ r.2 ≤ 1073741824 ∧ r.1 + r.2 ≤ 1073741824
 | [], _, _, _, r, hr => by cases hr
 | s :: l, last, hl, hm, r, hr => by
  simp only [spMayF] at hm
  split at hm
  ·cases hm
  ·rename_i hc
   rcases List.mem_cons.1 hr with e | e
   ·subst e; omega
   ·exact spMayF_bounds l _ (by omega) hm r e
theorem spTake_ans (h : Heap) (hw : Wf h) (x : V) (R : List (Int × Int)) (n : Int) (hx : Sl h 2 x (R.map rn)) (hb : ∀ r ∈ R, -9223372036854775808 ≤ r.2 ∧ r.2 < 9223372036854775808) (hl : R.length ≤ 300) : Ans C 89 [x, iv n] h fun v h' => ∃ u, v = .tuple [iv (spTakeF R n).1, u, .bool (spTakeF R n).2.2] ∧ Sl h' 2 u ((spTakeF R n).2.1.map rn) ∧ Grow h h' ∧ NewS h u ((spTakeF R n).2.1.map rn) := by
 have hF : C.F 89 = some a89 := S.f rfl
 unfold a89 at hF
 refine Ans.fn (fun _ _ => S.s _ _ _ rfl) hF rfl rfl hw fun h2 g => ?_
 clear hF
 refine WC.seqO ?_
 refine WO.ops (StepK.box rfl) ?_
 (repeat (first | refine omv rfl ?_ | refine ols rfl (by first | with_reducible assumption | rfl) ?_ | refine ofa rfl ?_ | refine oad rfl rfl (by omega) ?_ | refine osb rfl rfl (by omega) ?_ | refine obn rfl rfl rfl ?_ | refine opt rfl rfl ?_ | refine opf rfl rfl ?_ | refine ont rfl ?_ | refine oeq rfl rfl rfl ?_ | refine oex rfl rfl ?_ | refine obu rfl rfl ?_ | refine ofd rfl rfl ?_ | refine olt rfl ?_ | refine onk rfl ?_ | refine old rfl (by first | with_reducible assumption | rfl) ?_ | refine WO.run rfl ?_ | refine WO.skip rfl rfl ?_ | refine WO.skipu rfl ?_))
 refine WO.nil ?_
 have gp : Grow h2 (h2.push (.cells (iv n).cellsOf (.tip [] 0 none))) := (Grow.refl g.wf).push _
 have q0 : (h2.push (.cells (iv n).cellsOf (.tip [] 0 none))).rd h2.size 0 = some (iv n) := rd_get (get_push_self _ _) rfl
 have g3 := g.trans gp
 generalize h2.push (.cells (iv n).cellsOf (.tip [] 0 none)) = h3 at *
 generalize h2.size = c at *
 refine WC.seq (WC.seqO ?_)
 refine omv rfl ?_
 refine WO.call rfl rfl (spMay_ans S h3 g3.wf x R (hx.grow g3) hb (by omega)) ?_
 rintro v h4 ⟨rfl, g4⟩
 have hq := g4.rd q0
 have g4 := g3.trans g4
 have none_ : ∀ (e : List (Nat × V)) (h5 : Heap) (Q : Ex → List (Nat × V) → Heap → Prop), Q .ret ((6, .bool false) :: (5, .slice none 0 0) :: (4, iv 0) :: e) h5 → WC C (.seq (.ops [⟨(some 4), none, .mv (.c (.int .i64 (0)))⟩, ⟨(some 5), none, .mv (.c (.slice none 0 0))⟩, ⟨(some 6), none, .mv (.c (.bool false))⟩]) (.ret)) e h5 Q := by
  intro e h5 Q hQ
  refine WC.seqO ?_
  (repeat (first | refine omv rfl ?_ | refine ols rfl (by first | with_reducible assumption | rfl) ?_ | refine ofa rfl ?_ | refine oad rfl rfl (by omega) ?_ | refine osb rfl rfl (by omega) ?_ | refine obn rfl rfl rfl ?_ | refine opt rfl rfl ?_ | refine opf rfl rfl ?_ | refine ont rfl ?_ | refine oeq rfl rfl rfl ?_ | refine oex rfl rfl ?_ | refine obu rfl rfl ?_ | refine ofd rfl rfl ?_ | refine olt rfl ?_ | refine onk rfl ?_ | refine old rfl (by first | with_reducible assumption | rfl) ?_ | refine WO.run rfl ?_ | refine WO.skip rfl rfl ?_ | refine WO.skipu rfl ?_))
  exact WO.nil (WC.ret hQ)
 have fin : spTakeF R n = (0, [], false) → ∀ (e : List (Nat × V)) (h5 : Heap), Grow h h5 → Fin .ret ∧ Wf h5 ∧ ∃ v, retE ((6, .bool false) :: (5, .slice none 0 0) :: (4, iv 0) :: e) h5 [.tmp 4, .tmp 5, .tmp 6] = some v ∧ (∀ h3, Grow h5 h3 → ∃ u, v = .tuple [iv (spTakeF R n).1, u, .bool (spTakeF R n).2.2] ∧ Sl h3 2 u ((spTakeF R n).2.1.map rn) ∧ Grow h h3 ∧ NewS h u ((spTakeF R n).2.1.map rn)) ∧ (v.scopd h.size = true → ∃ u, v = .tuple [iv (spTakeF R n).1, u, .bool (spTakeF R n).2.2] ∧ Sl h 2 u ((spTakeF R n).2.1.map rn) ∧ Grow h h ∧ NewS h u ((spTakeF R n).2.1.map rn)) := by
  intro hz e h5 g5
  rw [hz]
  exact ⟨trivial, g5.wf, _, rfl, fun h6 g6 => ⟨_, rfl, Sl.nil h6 2, g5.trans g6, fun _ => ⟨rfl, rfl⟩⟩, fun _ => ⟨_, rfl, Sl.nil h 2, Grow.refl hw, fun _ => ⟨rfl, rfl⟩⟩⟩
 (repeat (first | refine omv rfl ?_ | refine ols rfl (by first | with_reducible assumption | rfl) ?_ | refine ofa rfl ?_ | refine oad rfl rfl (by omega) ?_ | refine osb rfl rfl (by omega) ?_ | refine obn rfl rfl rfl ?_ | refine opt rfl rfl ?_ | refine opf rfl rfl ?_ | refine ont rfl ?_ | refine oeq rfl rfl rfl ?_ | refine oex rfl rfl ?_ | refine obu rfl rfl ?_ | refine ofd rfl rfl ?_ | refine olt rfl ?_ | refine onk rfl ?_ | refine old rfl (by first | with_reducible assumption | rfl) ?_ | refine WO.run rfl ?_ | refine WO.skip rfl rfl ?_ | refine WO.skipu rfl ?_))
 refine WO.splitG rfl (fun hc1 => ?_) (fun hc1 => ?_)
 ·(repeat (first | refine omv rfl ?_ | refine ols rfl (by first | with_reducible assumption | rfl) ?_ | refine ofa rfl ?_ | refine oad rfl rfl (by omega) ?_ | refine osb rfl rfl (by omega) ?_ | refine obn rfl rfl rfl ?_ | refine opt rfl rfl ?_ | refine opf rfl rfl ?_ | refine ont rfl ?_ | refine oeq rfl rfl rfl ?_ | refine oex rfl rfl ?_ | refine obu rfl rfl ?_ | refine ofd rfl rfl ?_ | refine olt rfl ?_ | refine onk rfl ?_ | refine old rfl (by first | with_reducible assumption | rfl) ?_ | refine WO.run rfl ?_ | refine WO.skip rfl rfl ?_ | refine WO.skipu rfl ?_))
  have hm : spMayF (-1) R = false := by simpa using hc1
  refine WO.nil (WC.condT rfl (none_ _ _ _ (fin ?_ _ _ g4)))
  rw [spTakeF, if_pos (.inl hm)]
 have hm : spMayF (-1) R = true := by simpa using hc1
 refine WO.run rfl ?_
 refine old rfl hq ?_
 (repeat (first | refine omv rfl ?_ | refine ols rfl (by first | with_reducible assumption | rfl) ?_ | refine ofa rfl ?_ | refine oad rfl rfl (by omega) ?_ | refine osb rfl rfl (by omega) ?_ | refine obn rfl rfl rfl ?_ | refine opt rfl rfl ?_ | refine opf rfl rfl ?_ | refine ont rfl ?_ | refine oeq rfl rfl rfl ?_ | refine oex rfl rfl ?_ | refine obu rfl rfl ?_ | refine ofd rfl rfl ?_ | refine olt rfl ?_ | refine onk rfl ?_ | refine old rfl (by first | with_reducible assumption | rfl) ?_ | refine WO.run rfl ?_ | refine WO.skip rfl rfl ?_ | refine WO.skipu rfl ?_))
 refine WO.splitG rfl (fun hc2 => ?_) (fun hc2 => ?_)
 ·have hc2 := of_decide_eq_true hc2
  (repeat (first | refine omv rfl ?_ | refine ols rfl (by first | with_reducible assumption | rfl) ?_ | refine ofa rfl ?_ | refine oad rfl rfl (by omega) ?_ | refine osb rfl rfl (by omega) ?_ | refine obn rfl rfl rfl ?_ | refine opt rfl rfl ?_ | refine opf rfl rfl ?_ | refine ont rfl ?_ | refine oeq rfl rfl rfl ?_ | refine oex rfl rfl ?_ | refine obu rfl rfl ?_ | refine ofd rfl rfl ?_ | refine olt rfl ?_ | refine onk rfl ?_ | refine old rfl (by first | with_reducible assumption | rfl) ?_ | refine WO.run rfl ?_ | refine WO.skip rfl rfl ?_ | refine WO.skipu rfl ?_))
  refine WO.nil (WC.condT rfl (none_ _ _ _ (fin ?_ _ _ g4)))
  rw [spTakeF, if_pos (.inr (.inl hc2))]
 have hc2 := of_decide_eq_false hc2
 refine WO.run rfl ?_
 refine old rfl hq ?_
 (repeat (first | refine omv rfl ?_ | refine ols rfl (by first | with_reducible assumption | rfl) ?_ | refine ofa rfl ?_ | refine oad rfl rfl (by omega) ?_ | refine osb rfl rfl (by omega) ?_ | refine obn rfl rfl rfl ?_ | refine opt rfl rfl ?_ | refine opf rfl rfl ?_ | refine ont rfl ?_ | refine oeq rfl rfl rfl ?_ | refine oex rfl rfl ?_ | refine obu rfl rfl ?_ | refine ofd rfl rfl ?_ | refine olt rfl ?_ | refine onk rfl ?_ | refine old rfl (by first | with_reducible assumption | rfl) ?_ | refine WO.run rfl ?_ | refine WO.skip rfl rfl ?_ | refine WO.skipu rfl ?_))
 refine WO.nil (WC.cond rfl (fun hc3 => none_ _ _ _ (fin ?_ _ _ g4)) (fun hc3 => WC.skip (WC.seqO ?_)))
 ·have hc3 := of_decide_eq_true hc3
  rw [spTakeF, if_pos (.inr (.inr hc3))]
 have hc3 := of_decide_eq_false hc3
 have hx4 := hx.grow g4
 refine omv rfl ?_
 refine omf rfl rfl ?_
 refine WO.call rfl rfl (spIndex_ans S h4 g4.wf x R hx4 (by omega) 113 [.ptr (some (c, 0))] (fun r => decide (r.2 ≥ n)) fun r h1 g1 => spTakeIn_ans S h1 g1.wf c n (g1.rd hq) r) ?_
 rintro v h5 ⟨rfl, g5⟩
 have hq := g5.rd hq
 have g5 := g4.trans g5
 refine omv rfl (WO.nil (WC.seq (WC.seqO ?_)))
 have ht : spTakeF R n = if spIdxF (fun r => decide (r.2 ≥ n)) 0 R < 0 then (0, [], false)
  else match R[(spIdxF (fun r => decide (r.2 ≥ n)) 0 R).toNat]? with
   | some r => (r.1, R.take (spIdxF (fun r => decide (r.2 ≥ n)) 0 R).toNat ++ (if r.2 = n then [] else [(r.1 + n, r.2 - n)]) ++ R.drop ((spIdxF (fun r => decide (r.2 ≥ n)) 0 R).toNat + 1), true)
   | none => (0, [], false) := by
  rw [spTakeF, if_neg (by rw [hm]; simp; omega)]
 have hat := spIdxF_at (fun r => decide (r.2 ≥ n)) R 0 (Int.le_refl _)
 generalize spIdxF (fun r => decide (r.2 ≥ n)) 0 R = ix at *
 (repeat (first | refine omv rfl ?_ | refine ols rfl (by first | with_reducible assumption | rfl) ?_ | refine ofa rfl ?_ | refine oad rfl rfl (by omega) ?_ | refine osb rfl rfl (by omega) ?_ | refine obn rfl rfl rfl ?_ | refine opt rfl rfl ?_ | refine opf rfl rfl ?_ | refine ont rfl ?_ | refine oeq rfl rfl rfl ?_ | refine oex rfl rfl ?_ | refine obu rfl rfl ?_ | refine ofd rfl rfl ?_ | refine olt rfl ?_ | refine onk rfl ?_ | refine old rfl (by first | with_reducible assumption | rfl) ?_ | refine WO.run rfl ?_ | refine WO.skip rfl rfl ?_ | refine WO.skipu rfl ?_))
 refine WO.nil (WC.cond rfl (fun hc4 => none_ _ _ _ (fin ?_ _ _ g5)) (fun hc4 => WC.skip (WC.seqO ?_)))
 ·have hc4 := of_decide_eq_true hc4
  rw [ht, if_pos hc4]
 have hc4 := of_decide_eq_false hc4
 rcases hat with hat | ⟨k, r, rfl, hr, hp⟩
 ·omega
 have hk : k < R.length := (List.getElem?_eq_some_iff.1 hr).1
 have hkr : R[k] = r := (List.getElem?_eq_some_iff.1 hr).2
 have hp := of_decide_eq_true hp
 have hrm : r ∈ R := by rw [← hkr]; exact List.getElem_mem hk
 have hrb := spMayF_bounds R (-1) (by omega) hm r hrm
 rw [if_neg hc4] at ht
 simp only [Int.zero_add, Int.toNat_natCast, hr] at ht
 simp only [Int.zero_add]
 obtain ⟨b, o, k1, k2⟩ := (hx.grow g5).at (i := k) (by rw [List.length_map]; exact hk)
 rw [List.getElem_map, hkr] at k2
 obtain ⟨a, m⟩ := r
 simp only at hp hrb ht
 refine omv rfl ?_
 refine omv rfl ?_
 refine WO.ops (StepK.idxSl rfl rfl k1) ?_
 refine WO.ops (StepK.loadN rfl k2) ?_
 refine WO.ops StepK.alloc ?_
 obtain ⟨h6, w6, g6, g56, r6⟩ := box_two (x := iv 0) (y := iv 0) (u := iv a) (w := iv m) g5 rfl rfl
 have hq := g56.rd hq
 refine WO.op (StepK.store rfl rfl rfl w6) (WO.nil (WC.seq (WC.seqO ?_)))
 have r0 : h6.rd h5.size (0 + 0) = some (iv a) := rd_get r6 rfl
 have r1 : h6.rd h5.size (0 + 1) = some (iv m) := rd_get r6 rfl
 generalize h5.size = b5 at *
 refine ofa rfl ?_
 refine old rfl r1 ?_
 refine old rfl hq ?_
 (repeat (first | refine omv rfl ?_ | refine ols rfl (by first | with_reducible assumption | rfl) ?_ | refine ofa rfl ?_ | refine oad rfl rfl (by omega) ?_ | refine osb rfl rfl (by omega) ?_ | refine obn rfl rfl rfl ?_ | refine opt rfl rfl ?_ | refine opf rfl rfl ?_ | refine ont rfl ?_ | refine oeq rfl rfl rfl ?_ | refine oex rfl rfl ?_ | refine obu rfl rfl ?_ | refine ofd rfl rfl ?_ | refine olt rfl ?_ | refine onk rfl ?_ | refine old rfl (by first | with_reducible assumption | rfl) ?_ | refine WO.run rfl ?_ | refine WO.skip rfl rfl ?_ | refine WO.skipu rfl ?_))
 have hx6 := hx.grow g6
 have done : ∀ (W : List (Int × Int)) (u : V) (h7 h8 : Heap) (e : List (Nat × V)), (if m = n then [] else [(a + n, m - n)]) = W → Grow h h7 → Grow h7 h8 → Sl h8 2 u ((R.take k ++ W ++ R.drop (k + 1)).map rn) → NewS h7 u ((R.take k ++ W ++ R.drop (k + 1)).map rn) →
   Fin .ret ∧ Wf h8 ∧ ∃ v, retE ((6, .bool true) :: (5, u) :: (4, iv a) :: e) h8 [.tmp 4, .tmp 5, .tmp 6] = some v ∧ (∀ h3, Grow h8 h3 → ∃ u, v = .tuple [iv (spTakeF R n).1, u, .bool (spTakeF R n).2.2] ∧ Sl h3 2 u ((spTakeF R n).2.1.map rn) ∧ Grow h h3 ∧ NewS h u ((spTakeF R n).2.1.map rn)) ∧ (v.scopd h.size = true → ∃ u, v = .tuple [iv (spTakeF R n).1, u, .bool (spTakeF R n).2.2] ∧ Sl h 2 u ((spTakeF R n).2.1.map rn) ∧ Grow h h ∧ NewS h u ((spTakeF R n).2.1.map rn)) := by
  intro W u h7 h8 e hW g7 g8 hu hn
  rw [ht, hW]
  refine ⟨trivial, g8.wf, .tuple [iv a, u, .bool true], rfl, fun h9 g9 => ⟨u, rfl, hu.grow g9, (g7.trans g8).trans g9, fun q => hn (scoped_up hu g7.size q)⟩, fun hsc => ?_⟩
  have hsu : u.scopd h.size = true := by
   simp only [V.scopd, V.scopeds, Bool.and_eq_true] at hsc; exact hsc.2.1
  obtain ⟨rfl, q⟩ := hn (scoped_up hu g7.size hsu)
  exact ⟨_, rfl, by rw [q]; exact Sl.nil h 2, Grow.refl hw, fun _ => ⟨rfl, q⟩⟩
 refine WO.nil (WC.cond rfl (fun hc5 => WC.seqD ?_) (fun hc5 => WC.skip (WC.seqD ?_)))
 ·have hc5 : m = n := by simpa using hc5
  refine dfa rfl ?_
  refine WD.load1 rfl r0 ?_
  refine dmv rfl ?_
  refine dmv rfl ?_
  refine dmv rfl ?_
  refine dad rfl rfl (by omega) ?_
  refine WD.call ⟨r0, trivial⟩ rfl rfl (spSwap_ans S h6 g6.wf x (.slice none 0 0) R [] hx6 (Sl.nil h6 2) k (k + 1) (by omega) (by omega) hl (by simp)) ?_
  rintro u h7 ⟨u1, g7, u2⟩
  refine dmv rfl ?_
  refine dmv rfl ?_
  refine dmv rfl ?_
  exact WD.nil ⟨g7.rd r0, trivial⟩ (WC.ret (done [] u h6 h7 _ (by rw [if_pos hc5]) g6 g7 u1 u2))
 ·have hc5 : m ≠ n := by simpa using hc5
  refine dfa rfl ?_
  refine WD.load1 rfl r0 ?_
  refine dmv rfl ?_
  refine dmv rfl ?_
  refine dmv rfl ?_
  refine dad rfl rfl (by omega) ?_
  refine dfa rfl ?_
  refine WD.load1 rfl r0 ?_
  refine WD.load1 rfl hq ?_
  refine dad rfl rfl (by omega) ?_
  refine dfa rfl ?_
  refine WD.load1 rfl r1 ?_
  refine WD.load1 rfl hq ?_
  refine dsb rfl rfl (by omega) ?_
  refine WD.pure (StepK.build (cs := rn (a + n, m - n)) rfl rfl) rfl ?_
  refine WD.alloc rfl (StepK.buildSl (cs := rn (a + n, m - n)) rfl rfl) ?_
  have gp : Grow h6 (h6.push (.cells (rn (a + n, m - n)) (.tip [] 0 none))) := (Grow.refl g6.wf).push _
  have hnew : Sl (h6.push (.cells (rn (a + n, m - n)) (.tip [] 0 none))) 2 (.slice (some (h6.size, 0)) 1 1) ([(a + n, m - n)].map rn) :=
   ⟨by simp, rfl, Nat.le_refl _, fun _ => rds_all (st := .tip [] 0 none) (by rw [get_push_self]; rfl) rfl⟩
  refine WD.call ⟨get_push_self _ _, gp.rd hq, gp.rd r1, gp.rd hq, gp.rd r0, gp.rd r0, trivial⟩ rfl rfl (spSwap_ans S _ gp.wf x (.slice (some (h6.size, 0)) 1 1) R [(a + n, m - n)] (hx6.grow gp) hnew k (k + 1) (by omega) (by omega) hl (by simp)) ?_
  rintro u h7 ⟨u1, g7, u2⟩
  refine dmv rfl ?_
  refine dmv rfl ?_
  refine dmv rfl ?_
  exact WD.nil ⟨g7.rd (gp.rd r0), trivial⟩ (WC.ret (done _ u _ h7 _ (by rw [if_neg hc5]) (g6.trans gp) g7 u1 u2))
end Abs
end Go.Proofs.YtdebiolekbldiaaGreatDoor
namespace Go.Proofs.YtdebiolekbldiaaGreatDoor
namespace Abs
set_option linter.unusedVariables false
set_option linter.unusedSimpArgs false
open Go.RowKit
attribute [local irreducible] WO WC WD StepK Ans Does Runs DoesD
structure Pol where
 fast : Bool
 mirror : Bool
 small : Int
 arc : Int
 sec : Int
def Pol.v (P : Pol) : List V := [.bool P.fast, .bool P.mirror, iv P.small, iv P.arc, iv P.sec]
def Pol.ok (P : Pol) : Prop := (0 ≤ P.small ∧ P.small ≤ 256) ∧ (0 ≤ P.arc ∧ P.arc ≤ 64) ∧ (0 ≤ P.sec ∧ P.sec ≤ 508)
instance (P : Pol) : Decidable P.ok := inferInstanceAs (Decidable (_ ∧ _))
def wishF (P : Pol) (kind size : Int) : List Int :=
 if kind = 0 then (if P.fast then (if P.mirror then [1, 0] else [1]) else [0])
 else if P.small = 0 ∨ P.small < size then [0] else [1]
def frOf (a b : Int) (d : Int) : Int := if d = 0 then a else b
def chooseF (P : Pol) (kind size a b : Int) : List Int × Int :=
 if (wishF P kind size).filter (fun d => decide (0 < frOf a b d)) ≠ [] then ((wishF P kind size).filter (fun d => decide (0 < frOf a b d)), 0)
 else if 0 < a then ([0], 0) else ([], 6)
def ints (l : List Int) : List (List V) := l.map fun n => [iv n]
theorem Sl.of_new {h : Heap} {b : Nat} {cs : List V} {st : St} (hg : h.get b = some (.cells cs st)) {sz n : Nat} {es : List (List V)} (hl : ∀ c ∈ es, c.length = sz) (hn : es.length = n) (hf : es.flatten = cs) : Sl h sz (.slice (some (b, 0)) n n) es := by
 subst hn
 refine ⟨hl, rfl, Nat.le_refl _, fun _ => ?_⟩
 rw [hf]
 refine rds_all hg ?_
 rw [← hf, flat_len hl]
section
variable {C : Cfg} (S : StdO C)
include S
theorem clIn_ans (h : Heap) (hw : Wf h) (n m : Int) : Ans C 86 [iv n, iv m] h fun v h' => v = .bool (decide (0 ≤ n ∧ n ≤ m)) ∧ Grow h h' := by
 have hF : C.F 86 = some a86 := S.f rfl
 unfold a86 at hF
 refine Ans.val (fun _ _ => S.s _ _ _ rfl) hF rfl rfl hw fun h2 g => ?_
 clear hF
 refine WC.seqO ?_
 refine omv rfl ?_
 refine WO.nil (WC.seqO ?_)
 refine omv rfl <| obn rfl rfl rfl <| omv rfl ?_
 refine WO.splitG rfl (fun hc => ?_) (fun hc => ?_)
 ·have hc : n ≥ 0 := of_decide_eq_true hc
  refine WO.run rfl <| omv rfl <| WO.run rfl <| omv rfl <| WO.run rfl <| obn rfl rfl rfl <| opt rfl rfl <| omv rfl ?_
  refine WO.nil (WC.ret ⟨trivial, g, ?_⟩)
  show some (V.bool (decide (n ≤ m))) = some (.bool (decide (0 ≤ n ∧ n ≤ m)))
  congr 2
  exact decide_eq_decide.2 ⟨fun q => ⟨hc, q⟩, fun q => q.2⟩
 ·have hc : ¬ n ≥ 0 := of_decide_eq_false hc
  refine WO.skip rfl rfl <| WO.skip rfl rfl <| WO.skip rfl rfl <| opf rfl rfl <| omv rfl ?_
  refine WO.nil (WC.ret ⟨trivial, g, ?_⟩)
  show some (V.bool false) = some (.bool (decide (0 ≤ n ∧ n ≤ m)))
  rw [decide_eq_false (by omega)]
theorem clCheck_ans (h : Heap) (hw : Wf h) (P : Pol) : Ans C 61 [.agg P.v] h fun r h' => r = iv (if P.ok then 0 else 1) ∧ Grow h h' := by
 have hF : C.F 61 = some a61 := S.f rfl
 unfold a61 at hF
 refine Ans.val (fun _ _ => S.s _ _ _ rfl) hF rfl rfl hw fun h2 g => ?_
 clear hF
 refine WC.seqO (WO.ops (StepK.box rfl) ?_)
 have cp : Cl (h2.push (.cells P.v (.tip [] 0 none))) h2.size P.v := Cl.new _ _ _
 have g3 := g.push (.cells P.v (.tip [] 0 none))
 change WO C _ _ (h2.push (.cells P.v (.tip [] 0 none))) _
 generalize h2.push (.cells P.v (.tip [] 0 none)) = h3 at *
 generalize h2.size = p at *
 have bad : ¬ P.ok → ∀ (e' : List (Nat × V)) (h' : Heap), Grow h h' → Env.get e' 18 = some (.bool true) → WC C (.cond (.t 18) (.seq (.ops [⟨(some 2), none, .mv (.c (.int .i64 (1)))⟩]) .ret) .skip) e' h' fun x e1 h1 => match x with
   | .normal => False
   | x => Fin x ∧ Grow h h1 ∧ retE e1 h1 [.tmp 2] = some (iv (if P.ok then 0 else 1)) := by
  intro hno e' h' g' he
  refine WC.cond he (fun _ => WC.seqO (omv rfl (WO.nil (WC.ret ⟨trivial, g', ?_⟩)))) (fun hc => by cases hc)
  rw [if_neg hno]; rfl
 have up : ∀ {Q : Ex → List (Nat × V) → Heap → Prop} {x : Ex} {e1 : List (Nat × V)} {h1 : Heap}, (match x with
   | .normal => False
   | x => Fin x ∧ Grow h h1 ∧ retE e1 h1 [.tmp 2] = some (iv (if P.ok then 0 else 1))) → x ≠ .normal ∧ Fin x ∧ Grow h h1 ∧ retE e1 h1 [.tmp 2] = some (iv (if P.ok then 0 else 1)) := by
  intro Q x e1 h1 hx
  cases x with
  | normal => exact hx.elim
  | exit i => exact ⟨Ex.noConfusion, hx⟩
  | ret => exact ⟨Ex.noConfusion, hx⟩
 refine omv rfl <| WO.nil <| WC.seq <| WC.seqO ?_
 refine ofa rfl <| old rfl (cp.rd (i := 2) rfl) ?_
 refine WO.call rfl rfl (clIn_ans S h3 g3.wf P.small 256) ?_
 rintro _ h4 ⟨rfl, g34⟩
 have g4 := g3.trans g34
 have cp4 := cp.grow g34
 by_cases h1 : 0 ≤ P.small ∧ P.small ≤ 256
 rotate_left
 ·rw [decide_eq_false h1]
  refine ont rfl <| omv rfl ?_
  (repeat (first | refine omv rfl ?_ | refine ols rfl (by first | with_reducible assumption | rfl) ?_ | refine ofa rfl ?_ | refine oad rfl rfl (by omega) ?_ | refine osb rfl rfl (by omega) ?_ | refine obn rfl rfl rfl ?_ | refine opt rfl rfl ?_ | refine opf rfl rfl ?_ | refine ont rfl ?_ | refine oeq rfl rfl rfl ?_ | refine oex rfl rfl ?_ | refine obu rfl rfl ?_ | refine ofd rfl rfl ?_ | refine olt rfl ?_ | refine onk rfl ?_ | refine old rfl (by first | with_reducible assumption | rfl) ?_ | refine WO.run rfl ?_ | refine WO.skip rfl rfl ?_ | refine WO.skipu rfl ?_))
  refine WO.nil ((bad (fun q => h1 q.1) _ _ g4 rfl).mono fun x e1 h1 hx => ?_)
  obtain ⟨q1, q2⟩ := up (Q := fun _ _ _ => True) hx
  cases x <;> first | exact absurd rfl q1 | exact q2
 rw [decide_eq_true h1]
 refine ont rfl <| omv rfl <| WO.run rfl <| ofa rfl <| WO.run rfl <| old rfl (cp4.rd (i := 3) rfl) <| WO.run rfl ?_
 refine WO.call rfl rfl (clIn_ans S h4 g4.wf P.arc 64) ?_
 rintro _ h5 ⟨rfl, g45⟩
 have g5 := g4.trans g45
 have cp5 := cp4.grow g45
 by_cases h2' : 0 ≤ P.arc ∧ P.arc ≤ 64
 rotate_left
 ·rw [decide_eq_false h2']
  refine WO.run rfl <| ont rfl <| opf rfl rfl <| omv rfl ?_
  (repeat (first | refine omv rfl ?_ | refine ols rfl (by first | with_reducible assumption | rfl) ?_ | refine ofa rfl ?_ | refine oad rfl rfl (by omega) ?_ | refine osb rfl rfl (by omega) ?_ | refine obn rfl rfl rfl ?_ | refine opt rfl rfl ?_ | refine opf rfl rfl ?_ | refine ont rfl ?_ | refine oeq rfl rfl rfl ?_ | refine oex rfl rfl ?_ | refine obu rfl rfl ?_ | refine ofd rfl rfl ?_ | refine olt rfl ?_ | refine onk rfl ?_ | refine old rfl (by first | with_reducible assumption | rfl) ?_ | refine WO.run rfl ?_ | refine WO.skip rfl rfl ?_ | refine WO.skipu rfl ?_))
  refine WO.nil ((bad (fun q => h2' q.2.1) _ _ g5 rfl).mono fun x e1 h1 hx => ?_)
  obtain ⟨q1, q2⟩ := up (Q := fun _ _ _ => True) hx
  cases x <;> first | exact absurd rfl q1 | exact q2
 rw [decide_eq_true h2']
 refine WO.run rfl <| ont rfl <| opf rfl rfl <| omv rfl <| WO.run rfl <| ofa rfl <| WO.run rfl <| old rfl (cp5.rd (i := 4) rfl) <| WO.run rfl ?_
 refine WO.call rfl rfl (clIn_ans S h5 g5.wf P.sec 508) ?_
 rintro _ h6 ⟨rfl, g56⟩
 have g6 := g5.trans g56
 by_cases h3' : 0 ≤ P.sec ∧ P.sec ≤ 508
 rotate_left
 ·rw [decide_eq_false h3']
  refine WO.run rfl <| ont rfl <| opf rfl rfl <| WO.nil ((bad (fun q => h3' q.2.2) _ _ g6 rfl).mono fun x e1 h1 hx => ?_)
  obtain ⟨q1, q2⟩ := up (Q := fun _ _ _ => True) hx
  cases x <;> first | exact absurd rfl q1 | exact q2
 rw [decide_eq_true h3']
 refine WO.run rfl <| ont rfl <| opf rfl rfl <| WO.nil <| WC.cond rfl (fun hc => by cases hc) (fun hc => WC.skip (WC.seqO (omv rfl (WO.nil (WC.ret ⟨trivial, g6, ?_⟩)))))
 rw [if_pos ⟨h1, h2', h3'⟩]; rfl
end
end Abs
end Go.Proofs.YtdebiolekbldiaaGreatDoor
namespace Go.Proofs.YtdebiolekbldiaaGreatDoor
namespace Abs
set_option linter.unusedVariables false
set_option linter.unusedSimpArgs false
open Go.RowKit
attribute [local irreducible] WO WC WD StepK Ans Does Runs DoesD
theorem new_ret {h h2 : Heap} {cs : List V} {l : List Int} {n : Nat} (hcs : cs = l.map iv) (hn : l.length = n) : Sl (h2.push (.cells cs (.tip [] 0 none))) 1 (.slice (some (h2.size, 0)) n n) (ints l) := by
 refine Sl.of_new (get_push_self _ _) (by simp [ints]) (by simp [ints, hn]) ?_
 rw [hcs]
 clear hcs hn
 induction l with
 | nil => rfl
 | cons a r ih => simp only [ints, List.map_cons, List.flatten_cons] at ih ⊢; rw [ih]; rfl
section
variable {C : Cfg} (S : StdO C)
include S
theorem wish_ans (h : Heap) (hw : Wf h) (P : Pol) (kind size : Int) (hk : kind = 0 ∨ kind = 1) (hs : 0 ≤ P.small) : Ans C 108 [.agg P.v, iv kind, iv size] h fun r h' => Sl h' 1 r (ints (wishF P kind size)) ∧ Grow h h' := by
 have hF : C.F 108 = some a108 := S.f rfl
 unfold a108 at hF
 refine Ans.fn (fun _ _ => S.s _ _ _ rfl) hF rfl rfl hw (fun h2 g => ?_)
 clear hF
 refine WC.seqO (WO.ops (StepK.box rfl) ?_)
 have cp : Cl (h2.push (.cells P.v (.tip [] 0 none))) h2.size P.v := Cl.new _ _ _
 have g3 := g.push (.cells P.v (.tip [] 0 none))
 change WO C _ _ (h2.push (.cells P.v (.tip [] 0 none))) _
 generalize h2.push (.cells P.v (.tip [] 0 none)) = h3 at *
 generalize h2.size = p at *
 have fin : ∀ (e' : List (Nat × V)) (cs : List V) (n : Nat) (l : List Int), cs = l.map iv → l.length = n → wishF P kind size = l → Env.get e' 6 = some (.slice (some (h3.size, 0)) n n) →
   Fin .ret ∧ Wf (h3.push (.cells cs (.tip [] 0 none))) ∧ ∃ v, retE e' (h3.push (.cells cs (.tip [] 0 none))) [.tmp 6] = some v ∧ (∀ h4, Grow (h3.push (.cells cs (.tip [] 0 none))) h4 → Sl h4 1 v (ints (wishF P kind size)) ∧ Grow h h4) ∧ (v.scopd h.size = true → Sl h 1 v (ints (wishF P kind size)) ∧ Grow h h) := by
  intro e' cs n l h1 h2 h3' he
  have gp := g3.push (.cells cs (.tip [] 0 none))
  refine ⟨trivial, gp.wf, .slice (some (h3.size, 0)) n n, ?_, fun h4 g4 => ⟨?_, gp.trans g4⟩, fun hc => ?_⟩
  ·simp only [retE, ressE, resE, he]; rfl
  ·rw [h3']; exact (new_ret (h := h) h1 h2).grow g4
  ·have := g3.size; simp [V.scopd] at hc; omega
 have f0 := cp.rd (i := 0) rfl
 have f1 := cp.rd (i := 1) rfl
 have f2 := cp.rd (i := 2) rfl
 refine omv rfl <| WO.nil <| WC.seq <| WC.block <| WC.seq <| WC.block <| WC.block <| WC.seq <| WC.block <| WC.seq <| WC.seq <| WC.seqO ?_
 refine omv rfl ?_
 rcases hk with rfl | rfl
 ·refine obn rfl rfl (eqT rfl) <| omv rfl <| WO.run rfl <| ofa rfl <| WO.run rfl <| old rfl f0 ?_
  cases hfa : P.fast with
  | false =>
   rw [hfa] at f0
   (repeat (first | refine omv rfl ?_ | refine ols rfl (by first | with_reducible assumption | rfl) ?_ | refine ofa rfl ?_ | refine oad rfl rfl (by omega) ?_ | refine osb rfl rfl (by omega) ?_ | refine obn rfl rfl rfl ?_ | refine opt rfl rfl ?_ | refine opf rfl rfl ?_ | refine ont rfl ?_ | refine oeq rfl rfl rfl ?_ | refine oex rfl rfl ?_ | refine obu rfl rfl ?_ | refine ofd rfl rfl ?_ | refine olt rfl ?_ | refine onk rfl ?_ | refine old rfl (by first | with_reducible assumption | rfl) ?_ | refine WO.run rfl ?_ | refine WO.skip rfl rfl ?_ | refine WO.skipu rfl ?_))
   refine WO.nil (WC.cond rfl (fun hc => by cases hc) (fun hc => WC.skip (WC.seq (WC.seqO ?_))))
   refine omv rfl <| obn rfl rfl (eqT rfl) <| omv rfl <| WO.run rfl <| ofa rfl <| WO.run rfl <| old rfl f0 ?_
   (repeat (first | refine omv rfl ?_ | refine ols rfl (by first | with_reducible assumption | rfl) ?_ | refine ofa rfl ?_ | refine oad rfl rfl (by omega) ?_ | refine osb rfl rfl (by omega) ?_ | refine obn rfl rfl rfl ?_ | refine opt rfl rfl ?_ | refine opf rfl rfl ?_ | refine ont rfl ?_ | refine oeq rfl rfl rfl ?_ | refine oex rfl rfl ?_ | refine obu rfl rfl ?_ | refine ofd rfl rfl ?_ | refine olt rfl ?_ | refine onk rfl ?_ | refine old rfl (by first | with_reducible assumption | rfl) ?_ | refine WO.run rfl ?_ | refine WO.skip rfl rfl ?_ | refine WO.skipu rfl ?_))
   refine WO.nil (WC.cond rfl (fun hc => WC.exit (WC.seq (WC.seqO ?_))) (fun hc => by cases hc))
   refine WO.ops (StepK.buildSl rfl rfl) <| omv rfl <| WO.nil <| WC.ret (fin _ [iv 0] 1 [0] rfl rfl (by simp [wishF, hfa]) rfl)
  | true =>
   rw [hfa] at f0
   refine opt rfl rfl <| omv rfl <| WO.run rfl <| ofa rfl <| WO.run rfl <| old rfl f1 ?_
   cases hmi : P.mirror with
   | true =>
    rw [hmi] at f1
    (repeat (first | refine omv rfl ?_ | refine ols rfl (by first | with_reducible assumption | rfl) ?_ | refine ofa rfl ?_ | refine oad rfl rfl (by omega) ?_ | refine osb rfl rfl (by omega) ?_ | refine obn rfl rfl rfl ?_ | refine opt rfl rfl ?_ | refine opf rfl rfl ?_ | refine ont rfl ?_ | refine oeq rfl rfl rfl ?_ | refine oex rfl rfl ?_ | refine obu rfl rfl ?_ | refine ofd rfl rfl ?_ | refine olt rfl ?_ | refine onk rfl ?_ | refine old rfl (by first | with_reducible assumption | rfl) ?_ | refine WO.run rfl ?_ | refine WO.skip rfl rfl ?_ | refine WO.skipu rfl ?_))
    refine WO.nil (WC.cond rfl (fun hc => WC.exit (WC.seq (WC.seqO ?_))) (fun hc => by cases hc))
    refine WO.ops (StepK.buildSl rfl rfl) <| omv rfl <| WO.nil <| WC.ret (fin _ [iv 1, iv 0] 2 [1, 0] rfl rfl (by simp [wishF, hfa, hmi]) rfl)
   | false =>
    rw [hmi] at f1
    (repeat (first | refine omv rfl ?_ | refine ols rfl (by first | with_reducible assumption | rfl) ?_ | refine ofa rfl ?_ | refine oad rfl rfl (by omega) ?_ | refine osb rfl rfl (by omega) ?_ | refine obn rfl rfl rfl ?_ | refine opt rfl rfl ?_ | refine opf rfl rfl ?_ | refine ont rfl ?_ | refine oeq rfl rfl rfl ?_ | refine oex rfl rfl ?_ | refine obu rfl rfl ?_ | refine ofd rfl rfl ?_ | refine olt rfl ?_ | refine onk rfl ?_ | refine old rfl (by first | with_reducible assumption | rfl) ?_ | refine WO.run rfl ?_ | refine WO.skip rfl rfl ?_ | refine WO.skipu rfl ?_))
    refine WO.nil (WC.cond rfl (fun hc => by cases hc) (fun hc => WC.skip (WC.seq (WC.seqO ?_))))
    refine omv rfl <| obn rfl rfl (eqT rfl) <| omv rfl <| WO.run rfl <| ofa rfl <| WO.run rfl <| old rfl f0 ?_
    (repeat (first | refine omv rfl ?_ | refine ols rfl (by first | with_reducible assumption | rfl) ?_ | refine ofa rfl ?_ | refine oad rfl rfl (by omega) ?_ | refine osb rfl rfl (by omega) ?_ | refine obn rfl rfl rfl ?_ | refine opt rfl rfl ?_ | refine opf rfl rfl ?_ | refine ont rfl ?_ | refine oeq rfl rfl rfl ?_ | refine oex rfl rfl ?_ | refine obu rfl rfl ?_ | refine ofd rfl rfl ?_ | refine olt rfl ?_ | refine onk rfl ?_ | refine old rfl (by first | with_reducible assumption | rfl) ?_ | refine WO.run rfl ?_ | refine WO.skip rfl rfl ?_ | refine WO.skipu rfl ?_))
    refine WO.nil (WC.cond rfl (fun hc => by cases hc) (fun hc => WC.skip (WC.seqO ?_)))
    refine omv rfl <| obn rfl rfl (eqF (by decide)) ?_
    (repeat (first | refine omv rfl ?_ | refine ols rfl (by first | with_reducible assumption | rfl) ?_ | refine ofa rfl ?_ | refine oad rfl rfl (by omega) ?_ | refine osb rfl rfl (by omega) ?_ | refine obn rfl rfl rfl ?_ | refine opt rfl rfl ?_ | refine opf rfl rfl ?_ | refine ont rfl ?_ | refine oeq rfl rfl rfl ?_ | refine oex rfl rfl ?_ | refine obu rfl rfl ?_ | refine ofd rfl rfl ?_ | refine olt rfl ?_ | refine onk rfl ?_ | refine old rfl (by first | with_reducible assumption | rfl) ?_ | refine WO.run rfl ?_ | refine WO.skip rfl rfl ?_ | refine WO.skipu rfl ?_))
    refine WO.nil (WC.cond rfl (fun hc => by cases hc) (fun hc => WC.skip (WC.exit (WC.seqO ?_))))
    refine WO.ops (StepK.buildSl rfl rfl) <| omv rfl <| WO.nil <| WC.ret (fin _ [iv 1] 1 [1] rfl rfl (by simp [wishF, hfa, hmi]) rfl)
 ·refine obn rfl rfl (eqF (by decide)) <| omv rfl ?_
  (repeat (first | refine omv rfl ?_ | refine ols rfl (by first | with_reducible assumption | rfl) ?_ | refine ofa rfl ?_ | refine oad rfl rfl (by omega) ?_ | refine osb rfl rfl (by omega) ?_ | refine obn rfl rfl rfl ?_ | refine opt rfl rfl ?_ | refine opf rfl rfl ?_ | refine ont rfl ?_ | refine oeq rfl rfl rfl ?_ | refine oex rfl rfl ?_ | refine obu rfl rfl ?_ | refine ofd rfl rfl ?_ | refine olt rfl ?_ | refine onk rfl ?_ | refine old rfl (by first | with_reducible assumption | rfl) ?_ | refine WO.run rfl ?_ | refine WO.skip rfl rfl ?_ | refine WO.skipu rfl ?_))
  refine WO.nil (WC.cond rfl (fun hc => by cases hc) (fun hc => WC.skip (WC.seq (WC.seqO ?_))))
  refine omv rfl <| obn rfl rfl (eqF (by decide)) <| omv rfl ?_
  (repeat (first | refine omv rfl ?_ | refine ols rfl (by first | with_reducible assumption | rfl) ?_ | refine ofa rfl ?_ | refine oad rfl rfl (by omega) ?_ | refine osb rfl rfl (by omega) ?_ | refine obn rfl rfl rfl ?_ | refine opt rfl rfl ?_ | refine opf rfl rfl ?_ | refine ont rfl ?_ | refine oeq rfl rfl rfl ?_ | refine oex rfl rfl ?_ | refine obu rfl rfl ?_ | refine ofd rfl rfl ?_ | refine olt rfl ?_ | refine onk rfl ?_ | refine old rfl (by first | with_reducible assumption | rfl) ?_ | refine WO.run rfl ?_ | refine WO.skip rfl rfl ?_ | refine WO.skipu rfl ?_))
  refine WO.nil (WC.cond rfl (fun hc => by cases hc) (fun hc => WC.skip (WC.seqO ?_)))
  refine omv rfl <| obn rfl rfl (eqT rfl) <| omv rfl <| WO.run rfl <| ofa rfl <| WO.run rfl <| old rfl f2 <| WO.run rfl ?_
  by_cases hz : P.small = 0
  ·refine obn rfl rfl (eqT hz) ?_
   (repeat (first | refine omv rfl ?_ | refine ols rfl (by first | with_reducible assumption | rfl) ?_ | refine ofa rfl ?_ | refine oad rfl rfl (by omega) ?_ | refine osb rfl rfl (by omega) ?_ | refine obn rfl rfl rfl ?_ | refine opt rfl rfl ?_ | refine opf rfl rfl ?_ | refine ont rfl ?_ | refine oeq rfl rfl rfl ?_ | refine oex rfl rfl ?_ | refine obu rfl rfl ?_ | refine ofd rfl rfl ?_ | refine olt rfl ?_ | refine onk rfl ?_ | refine old rfl (by first | with_reducible assumption | rfl) ?_ | refine WO.run rfl ?_ | refine WO.skip rfl rfl ?_ | refine WO.skipu rfl ?_))
   refine WO.nil (WC.cond rfl (fun hc => WC.exit (WC.seq (WC.seqO ?_))) (fun hc => by cases hc))
   refine WO.ops (StepK.buildSl rfl rfl) <| omv rfl <| WO.nil <| WC.ret (fin _ [iv 0] 1 [0] rfl rfl (by simp [wishF, hz]) rfl)
  refine obn rfl rfl (eqF hz) <| WO.run rfl <| omv rfl <| WO.run rfl <| omv rfl <| WO.run rfl <| ofa rfl <| WO.run rfl <| old rfl f2 <| WO.run rfl ?_
  by_cases hg : P.small < size
  ·refine obn rfl rfl (gtT hg) ?_
   (repeat (first | refine omv rfl ?_ | refine ols rfl (by first | with_reducible assumption | rfl) ?_ | refine ofa rfl ?_ | refine oad rfl rfl (by omega) ?_ | refine osb rfl rfl (by omega) ?_ | refine obn rfl rfl rfl ?_ | refine opt rfl rfl ?_ | refine opf rfl rfl ?_ | refine ont rfl ?_ | refine oeq rfl rfl rfl ?_ | refine oex rfl rfl ?_ | refine obu rfl rfl ?_ | refine ofd rfl rfl ?_ | refine olt rfl ?_ | refine onk rfl ?_ | refine old rfl (by first | with_reducible assumption | rfl) ?_ | refine WO.run rfl ?_ | refine WO.skip rfl rfl ?_ | refine WO.skipu rfl ?_))
   refine WO.nil (WC.cond rfl (fun hc => WC.exit (WC.seq (WC.seqO ?_))) (fun hc => by cases hc))
   refine WO.ops (StepK.buildSl rfl rfl) <| omv rfl <| WO.nil <| WC.ret (fin _ [iv 0] 1 [0] rfl rfl (by simp [wishF, hg]) rfl)
  refine obn rfl rfl (gtF hg) ?_
  (repeat (first | refine omv rfl ?_ | refine ols rfl (by first | with_reducible assumption | rfl) ?_ | refine ofa rfl ?_ | refine oad rfl rfl (by omega) ?_ | refine osb rfl rfl (by omega) ?_ | refine obn rfl rfl rfl ?_ | refine opt rfl rfl ?_ | refine opf rfl rfl ?_ | refine ont rfl ?_ | refine oeq rfl rfl rfl ?_ | refine oex rfl rfl ?_ | refine obu rfl rfl ?_ | refine ofd rfl rfl ?_ | refine olt rfl ?_ | refine onk rfl ?_ | refine old rfl (by first | with_reducible assumption | rfl) ?_ | refine WO.run rfl ?_ | refine WO.skip rfl rfl ?_ | refine WO.skipu rfl ?_))
  refine WO.nil (WC.cond rfl (fun hc => by cases hc) (fun hc => WC.skip (WC.exit (WC.seqO ?_))))
  refine WO.ops (StepK.buildSl rfl rfl) <| omv rfl <| WO.nil <| WC.ret (fin _ [iv 1] 1 [1] rfl rfl (by simp [wishF, hz, hg]) rfl)
end
end Abs
end Go.Proofs.YtdebiolekbldiaaGreatDoor
namespace Go.Proofs.YtdebiolekbldiaaGreatDoor
namespace Abs
set_option linter.unusedVariables false
set_option linter.unusedSimpArgs false
open Go.RowKit
attribute [local irreducible] WO WC WD StepK Ans Does Runs DoesD
theorem ints_at {l : List Int} {i : Nat} (hi : i < l.length) : (ints l)[i]'(by simpa [ints] using hi) = [iv l[i]] := by simp [ints]
theorem filter_take {α : Type} (p : α → Bool) (l : List α) {j : Nat} (h : j < l.length) : (l.take (j + 1)).filter p = (l.take j).filter p ++ (if p l[j] then [l[j]] else []) := by
 rw [List.take_succ_eq_append_getElem h, List.filter_append]
 congr 1
 by_cases q : p l[j] <;> simp [q]
theorem wish_mem {P : Pol} {kind size d : Int} (h : d ∈ wishF P kind size) : d = 0 ∨ d = 1 := by
 unfold wishF at h
 split at h
 ·split at h
  ·split at h <;> simp at h <;> omega
  ·simp at h; omega
 ·split at h <;> simp at h <;> omega
theorem wish_len (P : Pol) (kind size : Int) : (wishF P kind size).length ≤ 2 := by
 unfold wishF
 split
 ·split
  ·split <;> simp
  ·simp
 ·split <;> simp
section
variable {C : Cfg} (S : StdO C)
include S
theorem choose_ans (h : Heap) (hw : Wf h) (P : Pol) (kind size a b : Int) (x : V) (hP : P.ok) (hk : kind = 0 ∨ kind = 1) (hs : 0 ≤ size ∧ size ≤ 960) (sx : Sl h 1 x (ints [a, b])) (ha : 0 ≤ a) (hb : 0 ≤ b) :
  Ans C 83 [.agg P.v, iv kind, iv size, x] h fun r h' => ∃ u, r = .tuple [u, iv (chooseF P kind size a b).2] ∧ Sl h' 1 u (ints (chooseF P kind size a b).1) ∧ Grow h h' := by
 have hF : C.F 83 = some a83 := S.f rfl
 unfold a83 at hF
 refine Ans.fn (fun _ _ => S.s _ _ _ rfl) hF rfl rfl hw (fun h2 g => ?_)
 clear hF
 refine WC.seqO (WO.ops (StepK.box rfl) ?_)
 have cp : Cl (h2.push (.cells P.v (.tip [] 0 none))) h2.size P.v := Cl.new _ _ _
 have g3 := g.push (.cells P.v (.tip [] 0 none))
 change WO C _ _ (h2.push (.cells P.v (.tip [] 0 none))) _
 generalize h2.push (.cells P.v (.tip [] 0 none)) = h3 at *
 generalize h2.size = p at *
 have q0 : h3.rds p 0 5 = some P.v := cp.rds rfl
 refine omv rfl <| omv rfl <| WO.nil <| WC.seq <| WC.seqD ?_
 refine WD.loadN rfl q0 ?_
 refine WD.call (by repeat (first | exact trivial | refine ⟨by with_reducible assumption, ?_⟩)) rfl rfl (clCheck_ans S h3 g3.wf P) ?_
 rintro _ h4 ⟨rfl, g34⟩
 rw [if_pos hP]
 have g4 := g3.trans g34
 have q0' := g34.rds q0
 refine dbn rfl rfl (neF rfl) <| dmv rfl <| WD.run rfl <| dmv rfl <| WD.run rfl ?_
 refine WD.call (by repeat (first | exact trivial | refine ⟨by with_reducible assumption, ?_⟩)) rfl rfl (clIn_ans S h4 g4.wf kind 1) ?_
 rintro _ h5 ⟨rfl, g45⟩
 rw [decide_eq_true (by omega)]
 have g5 := g4.trans g45
 have q0'' := g45.rds q0'
 refine WD.run rfl <| dnt rfl <| dpf rfl rfl <| dmv rfl <| WD.run rfl <| dmv rfl <| WD.run rfl ?_
 refine WD.call (by repeat (first | exact trivial | refine ⟨by with_reducible assumption, ?_⟩)) rfl rfl (clIn_ans S h5 g5.wf size 960) ?_
 rintro _ h6 ⟨rfl, g56⟩
 rw [decide_eq_true (by omega)]
 have g6 := g5.trans g56
 have q0a := g56.rds q0''
 have s6 := sx.grow g6
 obtain ⟨c0, o0, i0, j0⟩ := s6.at (i := 0) (by simp [ints])
 obtain ⟨c1, o1, i1, j1⟩ := s6.at (i := 1) (by simp [ints])
 have r0 : h6.rd c0 o0 = some (iv a) := rds_rd j0 (j := 0) rfl
 have r1 : h6.rd c1 o1 = some (iv b) := rds_rd j1 (j := 0) rfl
 have hl2 : slLen x = some 2 := s6.len
 have hmin : ¬ ((if b < a then b else a) < 0) := by split <;> omega
 refine WD.run rfl <| dnt rfl <| dpf rfl rfl <| dmv rfl <| WD.run rfl <| dmv rfl <| WD.run rfl <| dls rfl hl2 <| WD.run rfl <| dbn rfl rfl (neF rfl) <| dpf rfl rfl <| dmv rfl <|
  WD.run rfl <| dmv rfl <| WD.run rfl <| WD.pure (StepK.idxSl rfl rfl i0) rfl <| WD.run rfl <| WD.load1 rfl r0 <| WD.run rfl <| dmv rfl <| WD.run rfl <| WD.pure (StepK.idxSl rfl rfl i1) rfl <| WD.run rfl <| WD.load1 rfl r1 <| WD.run rfl <| dmn rfl rfl <| WD.run rfl <| dbn rfl rfl (ltF hmin) <| dpf rfl rfl <| WD.nil (by repeat (first | exact trivial | refine ⟨by with_reducible assumption, ?_⟩)) ?_
 refine WC.cond rfl (fun hc => by cases hc) (fun hc => WC.skip (WC.seqO (omv rfl <| WO.nil <| WC.seq <| WC.seqO ?_)))
 refine WO.ops (StepK.loadN rfl q0a) <| omv rfl <| omv rfl ?_
 refine WO.call rfl rfl (wish_ans S h6 g6.wf P kind size hk hP.1.1) ?_
 rintro y h7 ⟨sy, g67⟩
 have g7 := g6.trans g67
 generalize hW : wishF P kind size = W at *
 have hWl : W.length ≤ 2 := by rw [← hW]; exact wish_len _ _ _
 have hWm : ∀ d ∈ W, d = 0 ∨ d = 1 := fun d hd => by rw [← hW] at hd; exact wish_mem hd
 have hyl : slLen y = some W.length := by have := sy.len; simpa [ints] using this
 refine ols rfl hyl <| omv rfl <| WO.nil <| WC.block ?_
 refine WC.loop (σ := Nat × V) (fun s => [(3, x), (10, s.2), (44, y), (45, iv W.length), (46, iv s.1)])
  (fun s h' => Grow h7 h' ∧ s.1 ≤ W.length ∧ Grown h' h7.size 1 s.2 (ints ((W.take s.1).filter fun d => decide (0 < frOf a b d)))) (fun s => W.length - s.1) (0, .slice none 0 0)
  (Cov.cons rfl (Cov.cons rfl (Cov.cons rfl (Cov.cons rfl (Cov.cons rfl (Cov.nil _)))))) ⟨Grow.refl g7.wf, Nat.zero_le _, Grown.nil _ _ _⟩ ?_
 rintro ⟨j, u⟩ h8 ⟨g78, hj, gu⟩
 dsimp only at hj gu
 have g8 := g7.trans g78
 have s8 := sx.grow g8
 refine WC.seqO ?_
 by_cases hlt : j < W.length
 ·refine obn rfl rfl (ltT (by omega)) (WO.nil (WC.seq (WC.cond rfl (fun hc => WC.skip ?_) (fun hc => by cases hc))))
  obtain ⟨c, o, k1, k2⟩ := (sy.grow g78).at (i := j) (by simpa [ints] using hlt)
  rw [ints_at hlt] at k2
  have rk : h8.rd c (o + 0) = some (iv W[j]) := rds_rd k2 (j := 0) rfl
  have hf := filter_take (fun d => decide (0 < frOf a b d)) W hlt
  have hd := hWm _ (List.getElem_mem hlt)
  generalize W[j] = d at *
  obtain ⟨c', o', l1, l2⟩ : ∃ c' o', idxSlA 1 x (iv d) = some (.ptr (some (c', o'))) ∧ h8.rd c' (o' + 0) = some (iv (frOf a b d)) := by
   rcases hd with rfl | rfl
   ·obtain ⟨c0, o0, i0, j0⟩ := s8.at (i := 0) (by simp [ints])
    exact ⟨c0, o0, i0, rds_rd j0 (j := 0) rfl⟩
   ·obtain ⟨c0, o0, i0, j0⟩ := s8.at (i := 1) (by simp [ints])
    exact ⟨c0, o0, i0, rds_rd j0 (j := 0) rfl⟩
  refine WC.seq (WC.block (WC.seqO ?_))
  refine WO.ops (StepK.idxSl rfl rfl k1) <| old rfl rk <| omv rfl <| WO.nil <| WC.seqO <| omv rfl <| omv rfl <| WO.ops (StepK.idxSl rfl rfl l1) <| old rfl l2 ?_
  by_cases hpos : 0 < frOf a b d
  ·refine obn rfl rfl (gtT hpos) <| WO.nil <| WC.cond rfl (fun hc => WC.ops ?_) (fun hc => by cases hc)
   refine omv rfl <| omv rfl <| WO.ops (StepK.buildSl rfl rfl) ?_
   have gp := (Grow.refl g8.wf).push (.cells [iv d] (.tip [] 0 none))
   have hnew : (h8.push (.cells [iv d] (.tip [] 0 none))).get h8.size = some (.cells [iv d] (.tip [] 0 none)) := get_push_self _ _
   change WO C _ _ (h8.push (.cells [iv d] (.tip [] 0 none))) _
   have g9 := g78.trans gp
   have gu9 := gu.grow gp
   generalize h8.push (.cells [iv d] (.tip [] 0 none)) = h9 at *
   have hfl : ((W.take j).filter fun d => decide (0 < frOf a b d)).length ≤ 2 := by
    have := List.length_filter_le (fun d => decide (0 < frOf a b d)) (W.take j)
    have := List.length_take (i := j) (l := W)
    omega
   obtain ⟨w, h10, a1, a2, a3, a4, a5⟩ := Grown.append2 (bytes := 8) (tyK := none) g7.wf g9 gu9 (sl_one hnew rfl) (by decide) (by decide) (roomy8 (by simp [ints]; omega)) (fun c hc v hv => by
    obtain rfl := List.mem_singleton.1 hc
    obtain rfl := List.mem_singleton.1 hv
    rfl)
   refine WO.ops (StepK.append rfl rfl a1) <| omv rfl <| WO.nil <| WC.ops ?_
   refine oad rfl rfl (by omega) <| omv rfl (WO.nil ⟨(j + 1, w), ?_, ⟨a3, hlt, ?_⟩, by dsimp only; omega⟩)
   ·exact Cov.cons rfl (Cov.cons rfl (Cov.cons rfl (Cov.cons rfl (Cov.cons (by simp [Env.get, iv]) (Cov.nil _)))))
   ·rw [hf, if_pos (by simpa using hpos)]
    simpa [ints] using a2
  ·refine obn rfl rfl (gtF hpos) <| WO.nil <| WC.cond rfl (fun hc => by cases hc) (fun hc => WC.skip (WC.ops ?_))
   refine oad rfl rfl (by omega) <| omv rfl (WO.nil ⟨(j + 1, u), ?_, ⟨g78, hlt, ?_⟩, by dsimp only; omega⟩)
   ·exact Cov.cons rfl (Cov.cons rfl (Cov.cons rfl (Cov.cons rfl (Cov.cons (by simp [Env.get, iv]) (Cov.nil _)))))
   ·rw [hf, if_neg (by simpa using hpos), List.append_nil]
    exact gu
 obtain rfl : j = W.length := by omega
 rw [List.take_length] at gu
 have hul := gu.sl.len
 rw [show (ints (W.filter fun d => decide (0 < frOf a b d))).length = (W.filter fun d => decide (0 < frOf a b d)).length by simp [ints]] at hul
 refine obn rfl rfl (ltF (by omega)) (WO.nil (WC.seq (WC.cond rfl (fun hc => by cases hc) (fun hc => WC.exit (WC.seq (WC.block (WC.seqO ?_)))))))
 refine omv rfl <| ols rfl hul ?_
 have hch : chooseF P kind size a b = if W.filter (fun d => decide (0 < frOf a b d)) ≠ [] then (W.filter (fun d => decide (0 < frOf a b d)), 0) else if 0 < a then ([0], 0) else ([], 6) := by unfold chooseF; rw [hW]
 generalize (W.filter fun d => decide (0 < frOf a b d)) = L at *
 by_cases hL : L = []
 rotate_left
 ·have h0 : (0 : Int) < L.length := by
   have := List.length_pos_iff.2 hL
   omega
  refine obn rfl rfl (gtT h0) <| omv rfl <| WO.nil <| WC.cond rfl (fun hc => WC.seqO (omv rfl <| omv rfl <| omv rfl <| WO.nil <| WC.ret ?_)) (fun hc => by cases hc)
  rw [if_pos hL] at hch
  rw [hch]
  refine ⟨trivial, g8.wf, .tuple [u, iv 0], rfl, fun h9 g9 => ⟨u, rfl, (gu.grow g9).sl, g8.trans g9⟩, fun hc => ⟨u, rfl, ?_, Grow.refl hw⟩⟩
  have hc' : u.scopd h.size = true := by
   change (V.tuple [u, iv 0]).scopd h.size = true at hc
   simpa [V.scopd, V.scopeds] using hc
  exact ((gu.up g7.size).scopd hc' h).sl
 subst hL
 rw [if_neg (by simp)] at hch
 refine obn rfl rfl (gtF (by simp)) <| omv rfl <| WO.nil <| WC.cond rfl (fun hc => by cases hc) (fun hc => WC.seqO ?_)
 obtain ⟨c0, o0, i0, j0⟩ := s8.at (i := 0) (by simp [ints])
 have r0 : h8.rd c0 o0 = some (iv a) := rds_rd j0 (j := 0) rfl
 refine omv rfl <| WO.ops (StepK.idxSl rfl rfl i0) <| old rfl r0 ?_
 by_cases hpa : 0 < a
 ·refine obn rfl rfl (gtT hpa) <| omv rfl <| WO.nil <| WC.cond rfl (fun hc => WC.seqO ?_) (fun hc => by cases hc)
  rw [if_pos hpa] at hch
  refine WO.ops (StepK.buildSl rfl rfl) <| omv rfl <| omv rfl <| WO.nil <| WC.ret ?_
  have gp := g8.push (.cells [iv 0] (.tip [] 0 none))
  rw [hch]
  refine ⟨trivial, gp.wf, .tuple [.slice (some (h8.size, 0)) 1 1, iv 0], rfl, fun h9 g9 => ⟨_, rfl, (new_ret (h := h) (l := [0]) rfl rfl).grow g9, gp.trans g9⟩, fun hc => ?_⟩
  change (V.tuple [.slice (some (h8.size, 0)) 1 1, iv 0]).scopd h.size = true at hc
  have := g8.size
  simp [V.scopd, V.scopeds] at hc
  omega
 ·refine obn rfl rfl (gtF hpa) <| omv rfl <| WO.nil <| WC.cond rfl (fun hc => by cases hc) (fun hc => WC.skip (WC.seqO ?_))
  rw [if_neg hpa] at hch
  refine omv rfl <| omv rfl <| WO.nil <| WC.ret ?_
  rw [hch]
  exact ⟨trivial, g8.wf, .tuple [.slice none 0 0, iv 6], rfl, fun h9 g9 => ⟨_, rfl, Sl.nil _ _, g8.trans g9⟩, fun hc => ⟨_, rfl, Sl.nil _ _, Grow.refl hw⟩⟩
end
end Abs
end Go.Proofs.YtdebiolekbldiaaGreatDoor
