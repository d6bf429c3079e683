/- Layer 7: Total and Has. -/
import Derived.Test.YtkdoemlhjhmfhaaC2
namespace Go.Proofs.Ytkdoemlhjhmfhaa
namespace Abs
set_option linter.unusedVariables false
set_option linter.unusedSimpArgs false
set_option maxHeartbeats 1600000
open Go.RowKit
attribute [local irreducible] WO WC WD StepK Ans Does Runs DoesD
variable {C : Cfg} (hS : ∀ f args h, f ≠ 8 → C.S f args h = none)

def wr64 (n : Int) : Int := IntKind.i64.wrap n
/-- The sum of the numbers of sectors. -/
def sumF : Int → List (Int × Int) → Int
  | n, [] => n
  | n, r :: l => sumF (wr64 (n + r.2)) l
def totF (R : List (Int × Int)) : Int := if mayF (-1) R then sumF 0 R else 0

include hS
theorem total_ans (hF : C.F 12 = some a12) (hF10 : C.F 10 = some a10) (hF24 : C.F 24 = some a24) (h : Heap) (hw : Wf h) (x : V) (R : List (Int × Int)) (hs : Sl h 2 x (R.map rn)) (hb : ∀ r ∈ R, -9223372036854775808 ≤ r.2 ∧ r.2 < 9223372036854775808) (hlen : R.length < 4611686018427387904) : Ans C 12 [x] h fun v h' => v = iv (totF R) ∧ Grow h h' := by
  unfold a12 at hF
  refine Ans.val (fun _ _ => hS _ _ _ (by decide)) hF rfl rfl hw fun h2 g => ?_
  clear hF
  have hsl : slLen x = some R.length := by rw [hs.len, List.length_map]
  refine WC.seqO ?_
  (repeat (first | refine WO.ops (StepK.mv rfl) ?_ | refine WO.ops (StepK.lenSl rfl (by first | with_reducible assumption | rfl)) ?_ | refine WO.ops (StepK.fieldAddr rfl) ?_ | refine WO.ops (StepK.add rfl rfl (by omega)) ?_ | refine WO.ops (StepK.sub rfl rfl (by omega)) ?_ | refine WO.ops (StepK.bin rfl rfl rfl) ?_ | refine WO.ops (StepK.pickT rfl rfl) ?_ | refine WO.ops (StepK.pickF rfl rfl) ?_ | refine WO.ops (StepK.not rfl) ?_ | refine WO.ops (StepK.eq rfl rfl rfl) ?_ | refine WO.ops (StepK.extract rfl rfl) ?_ | refine WO.ops (StepK.build rfl rfl) ?_ | refine WO.ops (StepK.mkFn rfl rfl) ?_ | refine WO.ops (StepK.field rfl rfl) ?_ | refine WO.ops (StepK.lenStr rfl) ?_ | refine WO.ops (StepK.min2 rfl rfl) ?_ | refine WO.ops (StepK.max2 rfl rfl) ?_ | refine WO.ops (StepK.load1 rfl (by first | with_reducible assumption | rfl)) ?_ | refine WO.run rfl ?_ | refine WO.skip rfl rfl ?_ | refine WO.skipu rfl ?_))
  refine WO.nil (WC.seqO ?_)
  (repeat (first | refine WO.ops (StepK.mv rfl) ?_ | refine WO.ops (StepK.lenSl rfl (by first | with_reducible assumption | rfl)) ?_ | refine WO.ops (StepK.fieldAddr rfl) ?_ | refine WO.ops (StepK.add rfl rfl (by omega)) ?_ | refine WO.ops (StepK.sub rfl rfl (by omega)) ?_ | refine WO.ops (StepK.bin rfl rfl rfl) ?_ | refine WO.ops (StepK.pickT rfl rfl) ?_ | refine WO.ops (StepK.pickF rfl rfl) ?_ | refine WO.ops (StepK.not rfl) ?_ | refine WO.ops (StepK.eq rfl rfl rfl) ?_ | refine WO.ops (StepK.extract rfl rfl) ?_ | refine WO.ops (StepK.build rfl rfl) ?_ | refine WO.ops (StepK.mkFn rfl rfl) ?_ | refine WO.ops (StepK.field rfl rfl) ?_ | refine WO.ops (StepK.lenStr rfl) ?_ | refine WO.ops (StepK.min2 rfl rfl) ?_ | refine WO.ops (StepK.max2 rfl rfl) ?_ | refine WO.ops (StepK.load1 rfl (by first | with_reducible assumption | rfl)) ?_ | refine WO.run rfl ?_ | refine WO.skip rfl rfl ?_ | refine WO.skipu rfl ?_))
  refine WO.nil (WC.seq (WC.seqO ?_))
  refine WO.ops (StepK.mv rfl) ?_
  refine WO.call rfl rfl (may_ans hS hF10 hF24 h2 g.wf x R (hs.grow g) hb hlen) ?_
  rintro v h3 ⟨rfl, g3⟩
  have g3 := g.trans g3
  refine WO.nil (WC.cond rfl (fun hc => WC.seqO ?_) (fun hc => WC.skip (WC.seqO ?_)))
  rotate_left
  · (repeat (first | refine WO.ops (StepK.mv rfl) ?_ | refine WO.ops (StepK.lenSl rfl (by first | with_reducible assumption | rfl)) ?_ | refine WO.ops (StepK.fieldAddr rfl) ?_ | refine WO.ops (StepK.add rfl rfl (by omega)) ?_ | refine WO.ops (StepK.sub rfl rfl (by omega)) ?_ | refine WO.ops (StepK.bin rfl rfl rfl) ?_ | refine WO.ops (StepK.pickT rfl rfl) ?_ | refine WO.ops (StepK.pickF rfl rfl) ?_ | refine WO.ops (StepK.not rfl) ?_ | refine WO.ops (StepK.eq rfl rfl rfl) ?_ | refine WO.ops (StepK.extract rfl rfl) ?_ | refine WO.ops (StepK.build rfl rfl) ?_ | refine WO.ops (StepK.mkFn rfl rfl) ?_ | refine WO.ops (StepK.field rfl rfl) ?_ | refine WO.ops (StepK.lenStr rfl) ?_ | refine WO.ops (StepK.min2 rfl rfl) ?_ | refine WO.ops (StepK.max2 rfl rfl) ?_ | refine WO.ops (StepK.load1 rfl (by first | with_reducible assumption | rfl)) ?_ | refine WO.run rfl ?_ | refine WO.skip rfl rfl ?_ | refine WO.skipu rfl ?_))
    refine WO.nil (WC.ret ⟨trivial, g3, ?_⟩)
    rw [totF, hc]; rfl
  refine WO.ops (StepK.mv rfl) ?_
  refine WO.ops (StepK.lenSl rfl hsl) ?_
  (repeat (first | refine WO.ops (StepK.mv rfl) ?_ | refine WO.ops (StepK.lenSl rfl (by first | with_reducible assumption | rfl)) ?_ | refine WO.ops (StepK.fieldAddr rfl) ?_ | refine WO.ops (StepK.add rfl rfl (by omega)) ?_ | refine WO.ops (StepK.sub rfl rfl (by omega)) ?_ | refine WO.ops (StepK.bin rfl rfl rfl) ?_ | refine WO.ops (StepK.pickT rfl rfl) ?_ | refine WO.ops (StepK.pickF rfl rfl) ?_ | refine WO.ops (StepK.not rfl) ?_ | refine WO.ops (StepK.eq rfl rfl rfl) ?_ | refine WO.ops (StepK.extract rfl rfl) ?_ | refine WO.ops (StepK.build rfl rfl) ?_ | refine WO.ops (StepK.mkFn rfl rfl) ?_ | refine WO.ops (StepK.field rfl rfl) ?_ | refine WO.ops (StepK.lenStr rfl) ?_ | refine WO.ops (StepK.min2 rfl rfl) ?_ | refine WO.ops (StepK.max2 rfl rfl) ?_ | refine WO.ops (StepK.load1 rfl (by first | with_reducible assumption | rfl)) ?_ | refine WO.run rfl ?_ | refine WO.skip rfl rfl ?_ | refine WO.skipu rfl ?_))
  refine WO.nil (WC.block ?_)
  refine WC.loop (σ := Nat × Int) (fun s => [(0, x), (3, iv s.2), (8, x), (9, iv R.length), (10, iv s.1)])
    (fun s h' => Grow h h' ∧ s.1 ≤ R.length ∧ sumF 0 R = sumF s.2 (R.drop s.1)) (fun s => R.length - s.1) (0, 0) ?_ ⟨g3, by omega, rfl⟩ ?_
  · exact Cov.cons rfl (Cov.cons rfl (Cov.cons rfl (Cov.cons rfl (Cov.cons rfl (Cov.nil _)))))
  rintro ⟨i, m⟩ h3 ⟨g3, hi, hm⟩
  simp only at hi hm
  refine WC.seqO ?_
  (repeat (first | refine WO.ops (StepK.mv rfl) ?_ | refine WO.ops (StepK.lenSl rfl (by first | with_reducible assumption | rfl)) ?_ | refine WO.ops (StepK.fieldAddr rfl) ?_ | refine WO.ops (StepK.add rfl rfl (by omega)) ?_ | refine WO.ops (StepK.sub rfl rfl (by omega)) ?_ | refine WO.ops (StepK.bin rfl rfl rfl) ?_ | refine WO.ops (StepK.pickT rfl rfl) ?_ | refine WO.ops (StepK.pickF rfl rfl) ?_ | refine WO.ops (StepK.not rfl) ?_ | refine WO.ops (StepK.eq rfl rfl rfl) ?_ | refine WO.ops (StepK.extract rfl rfl) ?_ | refine WO.ops (StepK.build rfl rfl) ?_ | refine WO.ops (StepK.mkFn rfl rfl) ?_ | refine WO.ops (StepK.field rfl rfl) ?_ | refine WO.ops (StepK.lenStr rfl) ?_ | refine WO.ops (StepK.min2 rfl rfl) ?_ | refine WO.ops (StepK.max2 rfl rfl) ?_ | refine WO.ops (StepK.load1 rfl (by first | with_reducible assumption | rfl)) ?_ | refine WO.run rfl ?_ | refine WO.skip rfl rfl ?_ | refine WO.skipu rfl ?_))
  refine WO.nil (WC.seq ?_)
  refine WC.cond rfl (fun hc => WC.skip ?_) (fun hc => WC.exit ?_)
  rotate_left
  · have hc := of_decide_eq_false hc
    have : i = R.length := by omega
    subst this
    refine WC.seqO ?_
    (repeat (first | refine WO.ops (StepK.mv rfl) ?_ | refine WO.ops (StepK.lenSl rfl (by first | with_reducible assumption | rfl)) ?_ | refine WO.ops (StepK.fieldAddr rfl) ?_ | refine WO.ops (StepK.add rfl rfl (by omega)) ?_ | refine WO.ops (StepK.sub rfl rfl (by omega)) ?_ | refine WO.ops (StepK.bin rfl rfl rfl) ?_ | refine WO.ops (StepK.pickT rfl rfl) ?_ | refine WO.ops (StepK.pickF rfl rfl) ?_ | refine WO.ops (StepK.not rfl) ?_ | refine WO.ops (StepK.eq rfl rfl rfl) ?_ | refine WO.ops (StepK.extract rfl rfl) ?_ | refine WO.ops (StepK.build rfl rfl) ?_ | refine WO.ops (StepK.mkFn rfl rfl) ?_ | refine WO.ops (StepK.field rfl rfl) ?_ | refine WO.ops (StepK.lenStr rfl) ?_ | refine WO.ops (StepK.min2 rfl rfl) ?_ | refine WO.ops (StepK.max2 rfl rfl) ?_ | refine WO.ops (StepK.load1 rfl (by first | with_reducible assumption | rfl)) ?_ | refine WO.run rfl ?_ | refine WO.skip rfl rfl ?_ | refine WO.skipu rfl ?_))
    refine WO.nil (WC.ret ⟨trivial, g3, ?_⟩)
    rename_i hmay _
    rw [totF, hmay, if_pos rfl, hm]; simp [sumF]; rfl
  have hc := of_decide_eq_true hc
  have hi : i < R.length := by omega
  obtain ⟨b, o, k1, k2⟩ := (hs.grow g3).at (i := i) (by rw [List.length_map]; exact hi)
  rw [List.getElem_map] at k2
  have hd : R.drop i = R[i] :: R.drop (i + 1) := List.drop_eq_getElem_cons hi
  rw [hd] at hm
  generalize R[i] = r at *
  obtain ⟨a, n⟩ := r
  simp only [sumF] at hm
  refine WC.seq (WC.block (WC.seqO ?_))
  refine WO.ops (StepK.idxSl rfl rfl k1) ?_
  refine WO.ops (StepK.loadN rfl k2) ?_
  refine WO.ops StepK.alloc ?_
  obtain ⟨h4, w4, g4, _, r4⟩ := box_two (x := iv 0) (y := iv 0) (u := iv a) (w := iv n) g3 rfl rfl
  refine WO.op (StepK.store rfl rfl rfl w4) (WO.nil (WC.ops ?_))
  have r1 : h4.rd h3.size (0 + 1) = some (iv n) := rd_get r4 rfl
  refine WO.ops (StepK.mv rfl) ?_
  refine WO.ops (StepK.fieldAddr rfl) ?_
  refine WO.ops (StepK.load1 rfl r1) ?_
  refine WO.ops (StepK.bin (v := iv (wr64 (m + n))) rfl rfl rfl) ?_
  refine WO.ops (StepK.mv rfl) (WO.nil (WC.ops ?_))
  (repeat (first | refine WO.ops (StepK.mv rfl) ?_ | refine WO.ops (StepK.lenSl rfl (by first | with_reducible assumption | rfl)) ?_ | refine WO.ops (StepK.fieldAddr rfl) ?_ | refine WO.ops (StepK.add rfl rfl (by omega)) ?_ | refine WO.ops (StepK.sub rfl rfl (by omega)) ?_ | refine WO.ops (StepK.bin rfl rfl rfl) ?_ | refine WO.ops (StepK.pickT rfl rfl) ?_ | refine WO.ops (StepK.pickF rfl rfl) ?_ | refine WO.ops (StepK.not rfl) ?_ | refine WO.ops (StepK.eq rfl rfl rfl) ?_ | refine WO.ops (StepK.extract rfl rfl) ?_ | refine WO.ops (StepK.build rfl rfl) ?_ | refine WO.ops (StepK.mkFn rfl rfl) ?_ | refine WO.ops (StepK.field rfl rfl) ?_ | refine WO.ops (StepK.lenStr rfl) ?_ | refine WO.ops (StepK.min2 rfl rfl) ?_ | refine WO.ops (StepK.max2 rfl rfl) ?_ | refine WO.ops (StepK.load1 rfl (by first | with_reducible assumption | rfl)) ?_ | refine WO.run rfl ?_ | refine WO.skip rfl rfl ?_ | refine WO.skipu rfl ?_))
  refine WO.nil ⟨(i + 1, wr64 (m + n)), ?_, ⟨g4, hi, hm⟩, by simp only; omega⟩
  exact Cov.cons rfl (Cov.cons rfl (Cov.cons rfl (Cov.cons rfl (Cov.cons rfl (Cov.nil _)))))

theorem refTotal_ans (hF : C.F 13 = some a13) (hF11 : C.F 11 = some a11) (h : Heap) (hw : Wf h) (x : V) (R : List (Int × Int)) (hs : Sl h 2 x (R.map rn)) (hb : ∀ r ∈ R, -9223372036854775808 ≤ r.2 ∧ r.2 < 9223372036854775808) (hlen : R.length < 4611686018427387904) : Ans C 13 [x] h fun v h' => v = iv (totF R) ∧ Grow h h' := by
  unfold a13 at hF
  refine Ans.val (fun _ _ => hS _ _ _ (by decide)) hF rfl rfl hw fun h2 g => ?_
  clear hF
  have hsl : slLen x = some R.length := by rw [hs.len, List.length_map]
  refine WC.seqO ?_
  (repeat (first | refine WO.ops (StepK.mv rfl) ?_ | refine WO.ops (StepK.lenSl rfl (by first | with_reducible assumption | rfl)) ?_ | refine WO.ops (StepK.fieldAddr rfl) ?_ | refine WO.ops (StepK.add rfl rfl (by omega)) ?_ | refine WO.ops (StepK.sub rfl rfl (by omega)) ?_ | refine WO.ops (StepK.bin rfl rfl rfl) ?_ | refine WO.ops (StepK.pickT rfl rfl) ?_ | refine WO.ops (StepK.pickF rfl rfl) ?_ | refine WO.ops (StepK.not rfl) ?_ | refine WO.ops (StepK.eq rfl rfl rfl) ?_ | refine WO.ops (StepK.extract rfl rfl) ?_ | refine WO.ops (StepK.build rfl rfl) ?_ | refine WO.ops (StepK.mkFn rfl rfl) ?_ | refine WO.ops (StepK.field rfl rfl) ?_ | refine WO.ops (StepK.lenStr rfl) ?_ | refine WO.ops (StepK.min2 rfl rfl) ?_ | refine WO.ops (StepK.max2 rfl rfl) ?_ | refine WO.ops (StepK.load1 rfl (by first | with_reducible assumption | rfl)) ?_ | refine WO.run rfl ?_ | refine WO.skip rfl rfl ?_ | refine WO.skipu rfl ?_))
  refine WO.nil (WC.seqO ?_)
  (repeat (first | refine WO.ops (StepK.mv rfl) ?_ | refine WO.ops (StepK.lenSl rfl (by first | with_reducible assumption | rfl)) ?_ | refine WO.ops (StepK.fieldAddr rfl) ?_ | refine WO.ops (StepK.add rfl rfl (by omega)) ?_ | refine WO.ops (StepK.sub rfl rfl (by omega)) ?_ | refine WO.ops (StepK.bin rfl rfl rfl) ?_ | refine WO.ops (StepK.pickT rfl rfl) ?_ | refine WO.ops (StepK.pickF rfl rfl) ?_ | refine WO.ops (StepK.not rfl) ?_ | refine WO.ops (StepK.eq rfl rfl rfl) ?_ | refine WO.ops (StepK.extract rfl rfl) ?_ | refine WO.ops (StepK.build rfl rfl) ?_ | refine WO.ops (StepK.mkFn rfl rfl) ?_ | refine WO.ops (StepK.field rfl rfl) ?_ | refine WO.ops (StepK.lenStr rfl) ?_ | refine WO.ops (StepK.min2 rfl rfl) ?_ | refine WO.ops (StepK.max2 rfl rfl) ?_ | refine WO.ops (StepK.load1 rfl (by first | with_reducible assumption | rfl)) ?_ | refine WO.run rfl ?_ | refine WO.skip rfl rfl ?_ | refine WO.skipu rfl ?_))
  refine WO.nil (WC.seq (WC.seqO ?_))
  (repeat (first | refine WO.ops (StepK.mv rfl) ?_ | refine WO.ops (StepK.lenSl rfl (by first | with_reducible assumption | rfl)) ?_ | refine WO.ops (StepK.fieldAddr rfl) ?_ | refine WO.ops (StepK.add rfl rfl (by omega)) ?_ | refine WO.ops (StepK.sub rfl rfl (by omega)) ?_ | refine WO.ops (StepK.bin rfl rfl rfl) ?_ | refine WO.ops (StepK.pickT rfl rfl) ?_ | refine WO.ops (StepK.pickF rfl rfl) ?_ | refine WO.ops (StepK.not rfl) ?_ | refine WO.ops (StepK.eq rfl rfl rfl) ?_ | refine WO.ops (StepK.extract rfl rfl) ?_ | refine WO.ops (StepK.build rfl rfl) ?_ | refine WO.ops (StepK.mkFn rfl rfl) ?_ | refine WO.ops (StepK.field rfl rfl) ?_ | refine WO.ops (StepK.lenStr rfl) ?_ | refine WO.ops (StepK.min2 rfl rfl) ?_ | refine WO.ops (StepK.max2 rfl rfl) ?_ | refine WO.ops (StepK.load1 rfl (by first | with_reducible assumption | rfl)) ?_ | refine WO.run rfl ?_ | refine WO.skip rfl rfl ?_ | refine WO.skipu rfl ?_))
  refine WO.nil (WC.block ?_)
  refine WC.loop (σ := Nat × Int) (fun s => [(0, x), (3, iv s.2), (4, iv s.1)])
    (fun s h' => Grow h h' ∧ s.1 ≤ R.length ∧ sumF 0 R = sumF s.2 (R.drop s.1) ∧ (0 < s.1 → mayF (-1) R = true) ∧ (s.1 = 0 → s.2 = 0)) (fun s => R.length - s.1) (0, 0) ?_ ⟨g, by omega, rfl, by simp, fun _ => rfl⟩ ?_
  · exact Cov.cons rfl (Cov.cons rfl (Cov.cons rfl (Cov.nil _)))
  rintro ⟨i, m⟩ h3 ⟨g3, hi, hm, hmay, hz⟩
  simp only at hi hm hmay hz
  refine WC.seq (WC.seqO ?_)
  refine WO.ops (StepK.mv rfl) ?_
  refine WO.ops (StepK.mv rfl) ?_
  refine WO.ops (StepK.lenSl rfl hsl) ?_
  (repeat (first | refine WO.ops (StepK.mv rfl) ?_ | refine WO.ops (StepK.lenSl rfl (by first | with_reducible assumption | rfl)) ?_ | refine WO.ops (StepK.fieldAddr rfl) ?_ | refine WO.ops (StepK.add rfl rfl (by omega)) ?_ | refine WO.ops (StepK.sub rfl rfl (by omega)) ?_ | refine WO.ops (StepK.bin rfl rfl rfl) ?_ | refine WO.ops (StepK.pickT rfl rfl) ?_ | refine WO.ops (StepK.pickF rfl rfl) ?_ | refine WO.ops (StepK.not rfl) ?_ | refine WO.ops (StepK.eq rfl rfl rfl) ?_ | refine WO.ops (StepK.extract rfl rfl) ?_ | refine WO.ops (StepK.build rfl rfl) ?_ | refine WO.ops (StepK.mkFn rfl rfl) ?_ | refine WO.ops (StepK.field rfl rfl) ?_ | refine WO.ops (StepK.lenStr rfl) ?_ | refine WO.ops (StepK.min2 rfl rfl) ?_ | refine WO.ops (StepK.max2 rfl rfl) ?_ | refine WO.ops (StepK.load1 rfl (by first | with_reducible assumption | rfl)) ?_ | refine WO.run rfl ?_ | refine WO.skip rfl rfl ?_ | refine WO.skipu rfl ?_))
  refine WO.splitG rfl (fun hc => ?_) (fun hc => ?_)
  rotate_left
  · have hc := of_decide_eq_false hc
    have : i = R.length := by omega
    subst this
    (repeat (first | refine WO.ops (StepK.mv rfl) ?_ | refine WO.ops (StepK.lenSl rfl (by first | with_reducible assumption | rfl)) ?_ | refine WO.ops (StepK.fieldAddr rfl) ?_ | refine WO.ops (StepK.add rfl rfl (by omega)) ?_ | refine WO.ops (StepK.sub rfl rfl (by omega)) ?_ | refine WO.ops (StepK.bin rfl rfl rfl) ?_ | refine WO.ops (StepK.pickT rfl rfl) ?_ | refine WO.ops (StepK.pickF rfl rfl) ?_ | refine WO.ops (StepK.not rfl) ?_ | refine WO.ops (StepK.eq rfl rfl rfl) ?_ | refine WO.ops (StepK.extract rfl rfl) ?_ | refine WO.ops (StepK.build rfl rfl) ?_ | refine WO.ops (StepK.mkFn rfl rfl) ?_ | refine WO.ops (StepK.field rfl rfl) ?_ | refine WO.ops (StepK.lenStr rfl) ?_ | refine WO.ops (StepK.min2 rfl rfl) ?_ | refine WO.ops (StepK.max2 rfl rfl) ?_ | refine WO.ops (StepK.load1 rfl (by first | with_reducible assumption | rfl)) ?_ | refine WO.run rfl ?_ | refine WO.skip rfl rfl ?_ | refine WO.skipu rfl ?_))
    refine WO.nil (WC.condF rfl (WC.exit (WC.seqO ?_)))
    (repeat (first | refine WO.ops (StepK.mv rfl) ?_ | refine WO.ops (StepK.lenSl rfl (by first | with_reducible assumption | rfl)) ?_ | refine WO.ops (StepK.fieldAddr rfl) ?_ | refine WO.ops (StepK.add rfl rfl (by omega)) ?_ | refine WO.ops (StepK.sub rfl rfl (by omega)) ?_ | refine WO.ops (StepK.bin rfl rfl rfl) ?_ | refine WO.ops (StepK.pickT rfl rfl) ?_ | refine WO.ops (StepK.pickF rfl rfl) ?_ | refine WO.ops (StepK.not rfl) ?_ | refine WO.ops (StepK.eq rfl rfl rfl) ?_ | refine WO.ops (StepK.extract rfl rfl) ?_ | refine WO.ops (StepK.build rfl rfl) ?_ | refine WO.ops (StepK.mkFn rfl rfl) ?_ | refine WO.ops (StepK.field rfl rfl) ?_ | refine WO.ops (StepK.lenStr rfl) ?_ | refine WO.ops (StepK.min2 rfl rfl) ?_ | refine WO.ops (StepK.max2 rfl rfl) ?_ | refine WO.ops (StepK.load1 rfl (by first | with_reducible assumption | rfl)) ?_ | refine WO.run rfl ?_ | refine WO.skip rfl rfl ?_ | refine WO.skipu rfl ?_))
    refine WO.nil (WC.ret ⟨trivial, g3, ?_⟩)
    have : totF R = m := by
      unfold totF
      by_cases h0 : R.length = 0
      · rw [hz h0]
        have : R = [] := List.length_eq_zero_iff.1 h0
        subst this; rfl
      · rw [hmay (by omega), if_pos rfl, hm]; simp [sumF]
    rw [this]; rfl
  have hc := of_decide_eq_true hc
  have hi : i < R.length := by omega
  (repeat (first | refine WO.ops (StepK.mv rfl) ?_ | refine WO.ops (StepK.lenSl rfl (by first | with_reducible assumption | rfl)) ?_ | refine WO.ops (StepK.fieldAddr rfl) ?_ | refine WO.ops (StepK.add rfl rfl (by omega)) ?_ | refine WO.ops (StepK.sub rfl rfl (by omega)) ?_ | refine WO.ops (StepK.bin rfl rfl rfl) ?_ | refine WO.ops (StepK.pickT rfl rfl) ?_ | refine WO.ops (StepK.pickF rfl rfl) ?_ | refine WO.ops (StepK.not rfl) ?_ | refine WO.ops (StepK.eq rfl rfl rfl) ?_ | refine WO.ops (StepK.extract rfl rfl) ?_ | refine WO.ops (StepK.build rfl rfl) ?_ | refine WO.ops (StepK.mkFn rfl rfl) ?_ | refine WO.ops (StepK.field rfl rfl) ?_ | refine WO.ops (StepK.lenStr rfl) ?_ | refine WO.ops (StepK.min2 rfl rfl) ?_ | refine WO.ops (StepK.max2 rfl rfl) ?_ | refine WO.ops (StepK.load1 rfl (by first | with_reducible assumption | rfl)) ?_ | refine WO.run rfl ?_ | refine WO.skip rfl rfl ?_ | refine WO.skipu rfl ?_))
  refine WO.call rfl rfl (refMay_ans hS hF11 h3 g3.wf x R (hs.grow g3) hb hlen) ?_
  rintro v h4 ⟨rfl, g4⟩
  have g4 := g3.trans g4
  (repeat (first | refine WO.ops (StepK.mv rfl) ?_ | refine WO.ops (StepK.lenSl rfl (by first | with_reducible assumption | rfl)) ?_ | refine WO.ops (StepK.fieldAddr rfl) ?_ | refine WO.ops (StepK.add rfl rfl (by omega)) ?_ | refine WO.ops (StepK.sub rfl rfl (by omega)) ?_ | refine WO.ops (StepK.bin rfl rfl rfl) ?_ | refine WO.ops (StepK.pickT rfl rfl) ?_ | refine WO.ops (StepK.pickF rfl rfl) ?_ | refine WO.ops (StepK.not rfl) ?_ | refine WO.ops (StepK.eq rfl rfl rfl) ?_ | refine WO.ops (StepK.extract rfl rfl) ?_ | refine WO.ops (StepK.build rfl rfl) ?_ | refine WO.ops (StepK.mkFn rfl rfl) ?_ | refine WO.ops (StepK.field rfl rfl) ?_ | refine WO.ops (StepK.lenStr rfl) ?_ | refine WO.ops (StepK.min2 rfl rfl) ?_ | refine WO.ops (StepK.max2 rfl rfl) ?_ | refine WO.ops (StepK.load1 rfl (by first | with_reducible assumption | rfl)) ?_ | refine WO.run rfl ?_ | refine WO.skip rfl rfl ?_ | refine WO.skipu rfl ?_))
  refine WO.nil (WC.cond rfl (fun hc1 => WC.skip ?_) (fun hc1 => WC.exit (WC.seqO ?_)))
  rotate_left
  · (repeat (first | refine WO.ops (StepK.mv rfl) ?_ | refine WO.ops (StepK.lenSl rfl (by first | with_reducible assumption | rfl)) ?_ | refine WO.ops (StepK.fieldAddr rfl) ?_ | refine WO.ops (StepK.add rfl rfl (by omega)) ?_ | refine WO.ops (StepK.sub rfl rfl (by omega)) ?_ | refine WO.ops (StepK.bin rfl rfl rfl) ?_ | refine WO.ops (StepK.pickT rfl rfl) ?_ | refine WO.ops (StepK.pickF rfl rfl) ?_ | refine WO.ops (StepK.not rfl) ?_ | refine WO.ops (StepK.eq rfl rfl rfl) ?_ | refine WO.ops (StepK.extract rfl rfl) ?_ | refine WO.ops (StepK.build rfl rfl) ?_ | refine WO.ops (StepK.mkFn rfl rfl) ?_ | refine WO.ops (StepK.field rfl rfl) ?_ | refine WO.ops (StepK.lenStr rfl) ?_ | refine WO.ops (StepK.min2 rfl rfl) ?_ | refine WO.ops (StepK.max2 rfl rfl) ?_ | refine WO.ops (StepK.load1 rfl (by first | with_reducible assumption | rfl)) ?_ | refine WO.run rfl ?_ | refine WO.skip rfl rfl ?_ | refine WO.skipu rfl ?_))
    refine WO.nil (WC.ret ⟨trivial, g4, ?_⟩)
    have h0 : i = 0 := by
      rcases Nat.eq_zero_or_pos i with q | q
      · exact q
      · rw [hmay q] at hc1; cases hc1
    rw [totF, hc1, hz h0]; rfl
  obtain ⟨b, o, k1, k2⟩ := (hs.grow g4).at (i := i) (by rw [List.length_map]; exact hi)
  rw [List.getElem_map] at k2
  have hd : R.drop i = R[i] :: R.drop (i + 1) := List.drop_eq_getElem_cons hi
  rw [hd] at hm
  generalize R[i] = r at *
  obtain ⟨a, n⟩ := r
  simp only [sumF] at hm
  have r1 : h4.rd b (o + 1) = some (iv n) := rds_rd k2 rfl
  refine WC.seq (WC.block (WC.ops ?_))
  refine WO.ops (StepK.mv rfl) ?_
  refine WO.ops (StepK.mv rfl) ?_
  refine WO.ops (StepK.mv rfl) ?_
  refine WO.ops (StepK.idxSl rfl rfl k1) ?_
  refine WO.ops (StepK.fieldAddr rfl) ?_
  refine WO.ops (StepK.load1 rfl r1) ?_
  refine WO.ops (StepK.bin (v := iv (wr64 (m + n))) rfl rfl rfl) ?_
  refine WO.ops (StepK.mv rfl) (WO.nil (WC.ops ?_))
  (repeat (first | refine WO.ops (StepK.mv rfl) ?_ | refine WO.ops (StepK.lenSl rfl (by first | with_reducible assumption | rfl)) ?_ | refine WO.ops (StepK.fieldAddr rfl) ?_ | refine WO.ops (StepK.add rfl rfl (by omega)) ?_ | refine WO.ops (StepK.sub rfl rfl (by omega)) ?_ | refine WO.ops (StepK.bin rfl rfl rfl) ?_ | refine WO.ops (StepK.pickT rfl rfl) ?_ | refine WO.ops (StepK.pickF rfl rfl) ?_ | refine WO.ops (StepK.not rfl) ?_ | refine WO.ops (StepK.eq rfl rfl rfl) ?_ | refine WO.ops (StepK.extract rfl rfl) ?_ | refine WO.ops (StepK.build rfl rfl) ?_ | refine WO.ops (StepK.mkFn rfl rfl) ?_ | refine WO.ops (StepK.field rfl rfl) ?_ | refine WO.ops (StepK.lenStr rfl) ?_ | refine WO.ops (StepK.min2 rfl rfl) ?_ | refine WO.ops (StepK.max2 rfl rfl) ?_ | refine WO.ops (StepK.load1 rfl (by first | with_reducible assumption | rfl)) ?_ | refine WO.run rfl ?_ | refine WO.skip rfl rfl ?_ | refine WO.skipu rfl ?_))
  refine WO.nil ⟨(i + 1, wr64 (m + n)), ?_, ⟨g4, hi, hm, fun _ => hc1, fun q => absurd q (by simp)⟩, by simp only; omega⟩
  exact Cov.cons rfl (Cov.cons rfl (Cov.cons rfl (Cov.nil _)))

/-- The first place of which something is so, or -1. -/
def idxF (p : Int × Int → Bool) : Int → List (Int × Int) → Int
  | _, [] => -1
  | i, r :: l => if p r then i else idxF p (i + 1) l

theorem index_ans (hF : C.F 27 = some a27) (h : Heap) (hw : Wf h) (x : V) (R : List (Int × Int)) (hs : Sl h 2 x (R.map rn)) (hlen : R.length < 4611686018427387904) (g : Nat) (caps : List V) (p : Int × Int → Bool)
    (hg : ∀ r h1, Grow h h1 → Ans C g ([] ++ [.agg (rn r)] ++ caps) h1 fun v h' => v = .bool (p r) ∧ Grow h1 h') : Ans C 27 [x, .func (.func g) [] caps] h fun v h' => v = iv (idxF p 0 R) ∧ Grow h h' := by
  unfold a27 at hF
  refine Ans.val (fun _ _ => hS _ _ _ (by decide)) hF rfl rfl hw fun h2 g0 => ?_
  clear hF
  have hsl : slLen x = some R.length := by rw [hs.len, List.length_map]
  refine WC.seqO ?_
  (repeat (first | refine WO.ops (StepK.mv rfl) ?_ | refine WO.ops (StepK.lenSl rfl (by first | with_reducible assumption | rfl)) ?_ | refine WO.ops (StepK.fieldAddr rfl) ?_ | refine WO.ops (StepK.add rfl rfl (by omega)) ?_ | refine WO.ops (StepK.sub rfl rfl (by omega)) ?_ | refine WO.ops (StepK.bin rfl rfl rfl) ?_ | refine WO.ops (StepK.pickT rfl rfl) ?_ | refine WO.ops (StepK.pickF rfl rfl) ?_ | refine WO.ops (StepK.not rfl) ?_ | refine WO.ops (StepK.eq rfl rfl rfl) ?_ | refine WO.ops (StepK.extract rfl rfl) ?_ | refine WO.ops (StepK.build rfl rfl) ?_ | refine WO.ops (StepK.mkFn rfl rfl) ?_ | refine WO.ops (StepK.field rfl rfl) ?_ | refine WO.ops (StepK.lenStr rfl) ?_ | refine WO.ops (StepK.min2 rfl rfl) ?_ | refine WO.ops (StepK.max2 rfl rfl) ?_ | refine WO.ops (StepK.load1 rfl (by first | with_reducible assumption | rfl)) ?_ | refine WO.run rfl ?_ | refine WO.skip rfl rfl ?_ | refine WO.skipu rfl ?_))
  refine WO.nil (WC.seq (WC.seqO ?_))
  refine WO.ops (StepK.mv rfl) ?_
  refine WO.ops (StepK.lenSl rfl hsl) ?_
  (repeat (first | refine WO.ops (StepK.mv rfl) ?_ | refine WO.ops (StepK.lenSl rfl (by first | with_reducible assumption | rfl)) ?_ | refine WO.ops (StepK.fieldAddr rfl) ?_ | refine WO.ops (StepK.add rfl rfl (by omega)) ?_ | refine WO.ops (StepK.sub rfl rfl (by omega)) ?_ | refine WO.ops (StepK.bin rfl rfl rfl) ?_ | refine WO.ops (StepK.pickT rfl rfl) ?_ | refine WO.ops (StepK.pickF rfl rfl) ?_ | refine WO.ops (StepK.not rfl) ?_ | refine WO.ops (StepK.eq rfl rfl rfl) ?_ | refine WO.ops (StepK.extract rfl rfl) ?_ | refine WO.ops (StepK.build rfl rfl) ?_ | refine WO.ops (StepK.mkFn rfl rfl) ?_ | refine WO.ops (StepK.field rfl rfl) ?_ | refine WO.ops (StepK.lenStr rfl) ?_ | refine WO.ops (StepK.min2 rfl rfl) ?_ | refine WO.ops (StepK.max2 rfl rfl) ?_ | refine WO.ops (StepK.load1 rfl (by first | with_reducible assumption | rfl)) ?_ | refine WO.run rfl ?_ | refine WO.skip rfl rfl ?_ | refine WO.skipu rfl ?_))
  refine WO.nil (WC.block ?_)
  refine WC.loop (σ := Nat) (fun i => [(0, x), (1, .func (.func g) [] caps), (7, iv R.length), (8, iv i)])
    (fun i h' => Grow h h' ∧ i ≤ R.length ∧ idxF p 0 R = idxF p i (R.drop i)) (fun i => R.length - i) 0 ?_ ⟨g0, by omega, rfl⟩ ?_
  · exact Cov.cons rfl (Cov.cons rfl (Cov.cons rfl (Cov.cons rfl (Cov.nil _))))
  rintro i h3 ⟨g3, hi, hm⟩
  refine WC.seqO ?_
  (repeat (first | refine WO.ops (StepK.mv rfl) ?_ | refine WO.ops (StepK.lenSl rfl (by first | with_reducible assumption | rfl)) ?_ | refine WO.ops (StepK.fieldAddr rfl) ?_ | refine WO.ops (StepK.add rfl rfl (by omega)) ?_ | refine WO.ops (StepK.sub rfl rfl (by omega)) ?_ | refine WO.ops (StepK.bin rfl rfl rfl) ?_ | refine WO.ops (StepK.pickT rfl rfl) ?_ | refine WO.ops (StepK.pickF rfl rfl) ?_ | refine WO.ops (StepK.not rfl) ?_ | refine WO.ops (StepK.eq rfl rfl rfl) ?_ | refine WO.ops (StepK.extract rfl rfl) ?_ | refine WO.ops (StepK.build rfl rfl) ?_ | refine WO.ops (StepK.mkFn rfl rfl) ?_ | refine WO.ops (StepK.field rfl rfl) ?_ | refine WO.ops (StepK.lenStr rfl) ?_ | refine WO.ops (StepK.min2 rfl rfl) ?_ | refine WO.ops (StepK.max2 rfl rfl) ?_ | refine WO.ops (StepK.load1 rfl (by first | with_reducible assumption | rfl)) ?_ | refine WO.run rfl ?_ | refine WO.skip rfl rfl ?_ | refine WO.skipu rfl ?_))
  refine WO.nil (WC.seq ?_)
  refine WC.cond rfl (fun hc => WC.skip ?_) (fun hc => WC.exit ?_)
  rotate_left
  · have hc := of_decide_eq_false hc
    have : i = R.length := by omega
    subst this
    refine WC.seqO ?_
    (repeat (first | refine WO.ops (StepK.mv rfl) ?_ | refine WO.ops (StepK.lenSl rfl (by first | with_reducible assumption | rfl)) ?_ | refine WO.ops (StepK.fieldAddr rfl) ?_ | refine WO.ops (StepK.add rfl rfl (by omega)) ?_ | refine WO.ops (StepK.sub rfl rfl (by omega)) ?_ | refine WO.ops (StepK.bin rfl rfl rfl) ?_ | refine WO.ops (StepK.pickT rfl rfl) ?_ | refine WO.ops (StepK.pickF rfl rfl) ?_ | refine WO.ops (StepK.not rfl) ?_ | refine WO.ops (StepK.eq rfl rfl rfl) ?_ | refine WO.ops (StepK.extract rfl rfl) ?_ | refine WO.ops (StepK.build rfl rfl) ?_ | refine WO.ops (StepK.mkFn rfl rfl) ?_ | refine WO.ops (StepK.field rfl rfl) ?_ | refine WO.ops (StepK.lenStr rfl) ?_ | refine WO.ops (StepK.min2 rfl rfl) ?_ | refine WO.ops (StepK.max2 rfl rfl) ?_ | refine WO.ops (StepK.load1 rfl (by first | with_reducible assumption | rfl)) ?_ | refine WO.run rfl ?_ | refine WO.skip rfl rfl ?_ | refine WO.skipu rfl ?_))
    refine WO.nil (WC.ret ⟨trivial, g3, ?_⟩)
    rw [hm]; simp [idxF]; rfl
  have hc := of_decide_eq_true hc
  have hi : i < R.length := by omega
  obtain ⟨b, o, k1, k2⟩ := (hs.grow g3).at (i := i) (by rw [List.length_map]; exact hi)
  rw [List.getElem_map] at k2
  have hd : R.drop i = R[i] :: R.drop (i + 1) := List.drop_eq_getElem_cons hi
  rw [hd] at hm
  generalize R[i] = r at *
  simp only [idxF] at hm
  refine WC.seq (WC.block (WC.seqO ?_))
  (repeat (first | refine WO.ops (StepK.mv rfl) ?_ | refine WO.ops (StepK.lenSl rfl (by first | with_reducible assumption | rfl)) ?_ | refine WO.ops (StepK.fieldAddr rfl) ?_ | refine WO.ops (StepK.add rfl rfl (by omega)) ?_ | refine WO.ops (StepK.sub rfl rfl (by omega)) ?_ | refine WO.ops (StepK.bin rfl rfl rfl) ?_ | refine WO.ops (StepK.pickT rfl rfl) ?_ | refine WO.ops (StepK.pickF rfl rfl) ?_ | refine WO.ops (StepK.not rfl) ?_ | refine WO.ops (StepK.eq rfl rfl rfl) ?_ | refine WO.ops (StepK.extract rfl rfl) ?_ | refine WO.ops (StepK.build rfl rfl) ?_ | refine WO.ops (StepK.mkFn rfl rfl) ?_ | refine WO.ops (StepK.field rfl rfl) ?_ | refine WO.ops (StepK.lenStr rfl) ?_ | refine WO.ops (StepK.min2 rfl rfl) ?_ | refine WO.ops (StepK.max2 rfl rfl) ?_ | refine WO.ops (StepK.load1 rfl (by first | with_reducible assumption | rfl)) ?_ | refine WO.run rfl ?_ | refine WO.skip rfl rfl ?_ | refine WO.skipu rfl ?_))
  refine WO.nil (WC.seqO ?_)
  refine WO.ops (StepK.mv rfl) ?_
  refine WO.ops (StepK.mv rfl) ?_
  refine WO.ops (StepK.mv rfl) ?_
  refine WO.ops (StepK.idxSl rfl rfl k1) ?_
  refine WO.ops (StepK.loadN rfl k2) ?_
  refine WO.call rfl rfl (hg r h3 g3) ?_
  rintro v h4 ⟨rfl, g4⟩
  have g4 := g3.trans g4
  refine WO.nil (WC.cond rfl (fun hc1 => WC.seqO ?_) (fun hc1 => WC.skip (WC.ops ?_)))
  · (repeat (first | refine WO.ops (StepK.mv rfl) ?_ | refine WO.ops (StepK.lenSl rfl (by first | with_reducible assumption | rfl)) ?_ | refine WO.ops (StepK.fieldAddr rfl) ?_ | refine WO.ops (StepK.add rfl rfl (by omega)) ?_ | refine WO.ops (StepK.sub rfl rfl (by omega)) ?_ | refine WO.ops (StepK.bin rfl rfl rfl) ?_ | refine WO.ops (StepK.pickT rfl rfl) ?_ | refine WO.ops (StepK.pickF rfl rfl) ?_ | refine WO.ops (StepK.not rfl) ?_ | refine WO.ops (StepK.eq rfl rfl rfl) ?_ | refine WO.ops (StepK.extract rfl rfl) ?_ | refine WO.ops (StepK.build rfl rfl) ?_ | refine WO.ops (StepK.mkFn rfl rfl) ?_ | refine WO.ops (StepK.field rfl rfl) ?_ | refine WO.ops (StepK.lenStr rfl) ?_ | refine WO.ops (StepK.min2 rfl rfl) ?_ | refine WO.ops (StepK.max2 rfl rfl) ?_ | refine WO.ops (StepK.load1 rfl (by first | with_reducible assumption | rfl)) ?_ | refine WO.run rfl ?_ | refine WO.skip rfl rfl ?_ | refine WO.skipu rfl ?_))
    refine WO.nil (WC.ret ⟨trivial, g4, ?_⟩)
    rw [hm, if_pos hc1]; rfl
  (repeat (first | refine WO.ops (StepK.mv rfl) ?_ | refine WO.ops (StepK.lenSl rfl (by first | with_reducible assumption | rfl)) ?_ | refine WO.ops (StepK.fieldAddr rfl) ?_ | refine WO.ops (StepK.add rfl rfl (by omega)) ?_ | refine WO.ops (StepK.sub rfl rfl (by omega)) ?_ | refine WO.ops (StepK.bin rfl rfl rfl) ?_ | refine WO.ops (StepK.pickT rfl rfl) ?_ | refine WO.ops (StepK.pickF rfl rfl) ?_ | refine WO.ops (StepK.not rfl) ?_ | refine WO.ops (StepK.eq rfl rfl rfl) ?_ | refine WO.ops (StepK.extract rfl rfl) ?_ | refine WO.ops (StepK.build rfl rfl) ?_ | refine WO.ops (StepK.mkFn rfl rfl) ?_ | refine WO.ops (StepK.field rfl rfl) ?_ | refine WO.ops (StepK.lenStr rfl) ?_ | refine WO.ops (StepK.min2 rfl rfl) ?_ | refine WO.ops (StepK.max2 rfl rfl) ?_ | refine WO.ops (StepK.load1 rfl (by first | with_reducible assumption | rfl)) ?_ | refine WO.run rfl ?_ | refine WO.skip rfl rfl ?_ | refine WO.skipu rfl ?_))
  refine WO.nil ⟨i + 1, ?_, ⟨g4, hi, ?_⟩, by omega⟩
  · exact Cov.cons rfl (Cov.cons rfl (Cov.cons rfl (Cov.cons rfl (Cov.nil _))))
  · rw [hm, if_neg (by rw [hc1]; decide)]; rfl

omit hS in
theorem idxF_any (p : Int × Int → Bool) (R : List (Int × Int)) : ∀ i : Int, 0 ≤ i → decide (idxF p i R ≥ 0) = R.any p := by
  induction R with
  | nil => intro i hi; rfl
  | cons r l ih =>
    intro i hi
    simp only [idxF, List.any_cons]
    by_cases hp : p r = true
    · simp [hp]; omega
    · have hp : p r = false := by simpa using hp
      simp only [hp, Bool.false_eq_true, if_false, Bool.false_or]; exact ih (i + 1) (by omega)

theorem contains_ans (hF : C.F 25 = some a25) (hF27 : C.F 27 = some a27) (h : Heap) (hw : Wf h) (x : V) (R : List (Int × Int)) (hs : Sl h 2 x (R.map rn)) (hlen : R.length < 4611686018427387904) (g : Nat) (caps : List V) (p : Int × Int → Bool)
    (hg : ∀ r h1, Grow h h1 → Ans C g ([] ++ [.agg (rn r)] ++ caps) h1 fun v h' => v = .bool (p r) ∧ Grow h1 h') : Ans C 25 [x, .func (.func g) [] caps] h fun v h' => v = .bool (R.any p) ∧ Grow h h' := by
  unfold a25 at hF
  refine Ans.val (fun _ _ => hS _ _ _ (by decide)) hF rfl rfl hw fun h2 g0 => ?_
  clear hF
  refine WC.seqO ?_
  (repeat (first | refine WO.ops (StepK.mv rfl) ?_ | refine WO.ops (StepK.lenSl rfl (by first | with_reducible assumption | rfl)) ?_ | refine WO.ops (StepK.fieldAddr rfl) ?_ | refine WO.ops (StepK.add rfl rfl (by omega)) ?_ | refine WO.ops (StepK.sub rfl rfl (by omega)) ?_ | refine WO.ops (StepK.bin rfl rfl rfl) ?_ | refine WO.ops (StepK.pickT rfl rfl) ?_ | refine WO.ops (StepK.pickF rfl rfl) ?_ | refine WO.ops (StepK.not rfl) ?_ | refine WO.ops (StepK.eq rfl rfl rfl) ?_ | refine WO.ops (StepK.extract rfl rfl) ?_ | refine WO.ops (StepK.build rfl rfl) ?_ | refine WO.ops (StepK.mkFn rfl rfl) ?_ | refine WO.ops (StepK.field rfl rfl) ?_ | refine WO.ops (StepK.lenStr rfl) ?_ | refine WO.ops (StepK.min2 rfl rfl) ?_ | refine WO.ops (StepK.max2 rfl rfl) ?_ | refine WO.ops (StepK.load1 rfl (by first | with_reducible assumption | rfl)) ?_ | refine WO.run rfl ?_ | refine WO.skip rfl rfl ?_ | refine WO.skipu rfl ?_))
  refine WO.nil (WC.seqO ?_)
  refine WO.ops (StepK.mv rfl) ?_
  refine WO.ops (StepK.mv rfl) ?_
  refine WO.call rfl rfl (index_ans hS hF27 h2 g0.wf x R (hs.grow g0) hlen g caps p fun r h1 g1 => hg r h1 (g0.trans g1)) ?_
  rintro v h4 ⟨rfl, g4⟩
  have g4 := g0.trans g4
  (repeat (first | refine WO.ops (StepK.mv rfl) ?_ | refine WO.ops (StepK.lenSl rfl (by first | with_reducible assumption | rfl)) ?_ | refine WO.ops (StepK.fieldAddr rfl) ?_ | refine WO.ops (StepK.add rfl rfl (by omega)) ?_ | refine WO.ops (StepK.sub rfl rfl (by omega)) ?_ | refine WO.ops (StepK.bin rfl rfl rfl) ?_ | refine WO.ops (StepK.pickT rfl rfl) ?_ | refine WO.ops (StepK.pickF rfl rfl) ?_ | refine WO.ops (StepK.not rfl) ?_ | refine WO.ops (StepK.eq rfl rfl rfl) ?_ | refine WO.ops (StepK.extract rfl rfl) ?_ | refine WO.ops (StepK.build rfl rfl) ?_ | refine WO.ops (StepK.mkFn rfl rfl) ?_ | refine WO.ops (StepK.field rfl rfl) ?_ | refine WO.ops (StepK.lenStr rfl) ?_ | refine WO.ops (StepK.min2 rfl rfl) ?_ | refine WO.ops (StepK.max2 rfl rfl) ?_ | refine WO.ops (StepK.load1 rfl (by first | with_reducible assumption | rfl)) ?_ | refine WO.run rfl ?_ | refine WO.skip rfl rfl ?_ | refine WO.skipu rfl ?_))
  refine WO.nil (WC.ret ⟨trivial, g4, ?_⟩)
  rw [← idxF_any p R 0 (Int.le_refl _)]; rfl

/-- Is a place in a run? -/
def inF (at_ : Int) (r : Int × Int) : Bool := decide (at_ ≥ r.1) && decide (at_ < wr64 (r.1 + r.2))

theorem hasIn_ans (hF : C.F 26 = some a26) (hF24 : C.F 24 = some a24) (h : Heap) (hw : Wf h) (b : Nat) (at_ : Int) (hb : h.rd b 0 = some (iv at_)) (r : Int × Int) : Ans C 26 ([] ++ [.agg (rn r)] ++ [.ptr (some (b, 0))]) h fun v h' => v = .bool (inF at_ r) ∧ Grow h h' := by
  unfold a26 at hF
  refine Ans.val (fun _ _ => hS _ _ _ (by decide)) hF rfl rfl hw fun h2 g => ?_
  clear hF
  obtain ⟨a, n⟩ := r
  refine WC.seqO ?_
  refine WO.ops (StepK.box rfl) ?_
  (repeat (first | refine WO.ops (StepK.mv rfl) ?_ | refine WO.ops (StepK.lenSl rfl (by first | with_reducible assumption | rfl)) ?_ | refine WO.ops (StepK.fieldAddr rfl) ?_ | refine WO.ops (StepK.add rfl rfl (by omega)) ?_ | refine WO.ops (StepK.sub rfl rfl (by omega)) ?_ | refine WO.ops (StepK.bin rfl rfl rfl) ?_ | refine WO.ops (StepK.pickT rfl rfl) ?_ | refine WO.ops (StepK.pickF rfl rfl) ?_ | refine WO.ops (StepK.not rfl) ?_ | refine WO.ops (StepK.eq rfl rfl rfl) ?_ | refine WO.ops (StepK.extract rfl rfl) ?_ | refine WO.ops (StepK.build rfl rfl) ?_ | refine WO.ops (StepK.mkFn rfl rfl) ?_ | refine WO.ops (StepK.field rfl rfl) ?_ | refine WO.ops (StepK.lenStr rfl) ?_ | refine WO.ops (StepK.min2 rfl rfl) ?_ | refine WO.ops (StepK.max2 rfl rfl) ?_ | refine WO.ops (StepK.load1 rfl (by first | with_reducible assumption | rfl)) ?_ | refine WO.run rfl ?_ | refine WO.skip rfl rfl ?_ | refine WO.skipu rfl ?_))
  refine WO.nil ?_
  have gp : Grow h2 (h2.push (.cells (V.agg (rn (a, n))).cellsOf (.tip [] 0))) := (Grow.refl g.wf).push _
  have q0 : (h2.push (.cells (V.agg (rn (a, n))).cellsOf (.tip [] 0))).rd h2.size (0 + 0) = some (iv a) := rd_get (get_push_self _ _) rfl
  have q2 : (h2.push (.cells (V.agg (rn (a, n))).cellsOf (.tip [] 0))).rds h2.size 0 2 = some (rn (a, n)) := rds_all (get_push_self _ _) rfl
  have g3 := g.trans gp
  have hb := g3.rd hb
  generalize h2.push (.cells (V.agg (rn (a, n))).cellsOf (.tip [] 0)) = h3 at *
  generalize h2.size = c at *
  refine WC.seqD ?_
  refine WD.load1 rfl hb ?_
  refine WD.pure (StepK.fieldAddr rfl) rfl ?_
  refine WD.load1 rfl q0 ?_
  refine WD.pure (StepK.bin rfl rfl rfl) rfl ?_
  refine WD.pure (StepK.mv rfl) rfl ?_
  refine WD.splitG rfl (fun hc => ?_) (fun hc => ?_)
  rotate_left
  · (repeat (first | refine WD.pure (StepK.mv rfl) rfl ?_ | refine WD.pure (StepK.lenSl rfl (by first | with_reducible assumption | rfl)) rfl ?_ | refine WD.pure (StepK.fieldAddr rfl) rfl ?_ | refine WD.pure (StepK.add rfl rfl (by omega)) rfl ?_ | refine WD.pure (StepK.sub rfl rfl (by omega)) rfl ?_ | refine WD.pure (StepK.bin rfl rfl rfl) rfl ?_ | refine WD.pure (StepK.pickT rfl rfl) rfl ?_ | refine WD.pure (StepK.pickF rfl rfl) rfl ?_ | refine WD.pure (StepK.not rfl) rfl ?_ | refine WD.pure (StepK.eq rfl rfl rfl) rfl ?_ | refine WD.pure (StepK.extract rfl rfl) rfl ?_ | refine WD.pure (StepK.build rfl rfl) rfl ?_ | refine WD.pure (StepK.mkFn rfl rfl) rfl ?_ | refine WD.pure (StepK.field rfl rfl) rfl ?_ | refine WD.pure (StepK.lenStr rfl) rfl ?_ | refine WD.pure (StepK.min2 rfl rfl) rfl ?_ | refine WD.pure (StepK.max2 rfl rfl) rfl ?_ | refine WD.load1 rfl (by first | with_reducible assumption | rfl) ?_ | refine WD.run rfl ?_ | refine WD.skipn rfl rfl rfl ?_ | refine WD.skipun rfl rfl ?_))
    refine WD.skip (fun _ => ⟨q0, hb, trivial⟩) rfl rfl ?_
    (repeat (first | refine WD.pure (StepK.mv rfl) rfl ?_ | refine WD.pure (StepK.lenSl rfl (by first | with_reducible assumption | rfl)) rfl ?_ | refine WD.pure (StepK.fieldAddr rfl) rfl ?_ | refine WD.pure (StepK.add rfl rfl (by omega)) rfl ?_ | refine WD.pure (StepK.sub rfl rfl (by omega)) rfl ?_ | refine WD.pure (StepK.bin rfl rfl rfl) rfl ?_ | refine WD.pure (StepK.pickT rfl rfl) rfl ?_ | refine WD.pure (StepK.pickF rfl rfl) rfl ?_ | refine WD.pure (StepK.not rfl) rfl ?_ | refine WD.pure (StepK.eq rfl rfl rfl) rfl ?_ | refine WD.pure (StepK.extract rfl rfl) rfl ?_ | refine WD.pure (StepK.build rfl rfl) rfl ?_ | refine WD.pure (StepK.mkFn rfl rfl) rfl ?_ | refine WD.pure (StepK.field rfl rfl) rfl ?_ | refine WD.pure (StepK.lenStr rfl) rfl ?_ | refine WD.pure (StepK.min2 rfl rfl) rfl ?_ | refine WD.pure (StepK.max2 rfl rfl) rfl ?_ | refine WD.load1 rfl (by first | with_reducible assumption | rfl) ?_ | refine WD.run rfl ?_ | refine WD.skipn rfl rfl rfl ?_ | refine WD.skipun rfl rfl ?_))
    refine WD.nil ⟨q0, hb, trivial⟩ (WC.ret ⟨trivial, g3, ?_⟩)
    rw [inF, hc]; rfl
  refine WD.run rfl ?_
  refine WD.load1 rfl hb ?_
  refine WD.run rfl ?_
  refine WD.loadN rfl q2 ?_
  refine WD.run rfl ?_
  refine WD.call ⟨q2, hb, q0, hb, trivial⟩ rfl rfl (end_ans hS hF24 h3 g3.wf a n) ?_
  rintro v h4 ⟨rfl, g4⟩
  (repeat (first | refine WD.pure (StepK.mv rfl) rfl ?_ | refine WD.pure (StepK.lenSl rfl (by first | with_reducible assumption | rfl)) rfl ?_ | refine WD.pure (StepK.fieldAddr rfl) rfl ?_ | refine WD.pure (StepK.add rfl rfl (by omega)) rfl ?_ | refine WD.pure (StepK.sub rfl rfl (by omega)) rfl ?_ | refine WD.pure (StepK.bin rfl rfl rfl) rfl ?_ | refine WD.pure (StepK.pickT rfl rfl) rfl ?_ | refine WD.pure (StepK.pickF rfl rfl) rfl ?_ | refine WD.pure (StepK.not rfl) rfl ?_ | refine WD.pure (StepK.eq rfl rfl rfl) rfl ?_ | refine WD.pure (StepK.extract rfl rfl) rfl ?_ | refine WD.pure (StepK.build rfl rfl) rfl ?_ | refine WD.pure (StepK.mkFn rfl rfl) rfl ?_ | refine WD.pure (StepK.field rfl rfl) rfl ?_ | refine WD.pure (StepK.lenStr rfl) rfl ?_ | refine WD.pure (StepK.min2 rfl rfl) rfl ?_ | refine WD.pure (StepK.max2 rfl rfl) rfl ?_ | refine WD.load1 rfl (by first | with_reducible assumption | rfl) ?_ | refine WD.run rfl ?_ | refine WD.skipn rfl rfl rfl ?_ | refine WD.skipun rfl rfl ?_))
  refine WD.nil ⟨g4.rd hb, trivial⟩ (WC.ret ⟨trivial, g3.trans g4, ?_⟩)
  rw [inF, hc]; rfl

def hasF (R : List (Int × Int)) (at_ : Int) : Bool := mayF (-1) R && R.any (inF at_)

theorem has_ans (hF : C.F 14 = some a14) (hF10 : C.F 10 = some a10) (hF24 : C.F 24 = some a24) (hF25 : C.F 25 = some a25) (hF26 : C.F 26 = some a26) (hF27 : C.F 27 = some a27) (h : Heap) (hw : Wf h) (x : V) (R : List (Int × Int)) (at_ : Int) (hs : Sl h 2 x (R.map rn)) (hb : ∀ r ∈ R, -9223372036854775808 ≤ r.2 ∧ r.2 < 9223372036854775808) (hlen : R.length < 4611686018427387904) : Ans C 14 [x, iv at_] h fun v h' => v = .bool (hasF R at_) ∧ Grow h h' := by
  unfold a14 at hF
  refine Ans.val (fun _ _ => hS _ _ _ (by decide)) hF rfl rfl hw fun h2 g => ?_
  clear hF
  refine WC.seqO ?_
  refine WO.ops (StepK.box rfl) ?_
  (repeat (first | refine WO.ops (StepK.mv rfl) ?_ | refine WO.ops (StepK.lenSl rfl (by first | with_reducible assumption | rfl)) ?_ | refine WO.ops (StepK.fieldAddr rfl) ?_ | refine WO.ops (StepK.add rfl rfl (by omega)) ?_ | refine WO.ops (StepK.sub rfl rfl (by omega)) ?_ | refine WO.ops (StepK.bin rfl rfl rfl) ?_ | refine WO.ops (StepK.pickT rfl rfl) ?_ | refine WO.ops (StepK.pickF rfl rfl) ?_ | refine WO.ops (StepK.not rfl) ?_ | refine WO.ops (StepK.eq rfl rfl rfl) ?_ | refine WO.ops (StepK.extract rfl rfl) ?_ | refine WO.ops (StepK.build rfl rfl) ?_ | refine WO.ops (StepK.mkFn rfl rfl) ?_ | refine WO.ops (StepK.field rfl rfl) ?_ | refine WO.ops (StepK.lenStr rfl) ?_ | refine WO.ops (StepK.min2 rfl rfl) ?_ | refine WO.ops (StepK.max2 rfl rfl) ?_ | refine WO.ops (StepK.load1 rfl (by first | with_reducible assumption | rfl)) ?_ | refine WO.run rfl ?_ | refine WO.skip rfl rfl ?_ | refine WO.skipu rfl ?_))
  refine WO.nil ?_
  have gp : Grow h2 (h2.push (.cells (iv at_).cellsOf (.tip [] 0))) := (Grow.refl g.wf).push _
  have q0 : (h2.push (.cells (iv at_).cellsOf (.tip [] 0))).rd h2.size 0 = some (iv at_) := rd_get (get_push_self _ _) rfl
  have g3 := g.trans gp
  generalize h2.push (.cells (iv at_).cellsOf (.tip [] 0)) = h3 at *
  generalize h2.size = c at *
  refine WC.seqO ?_
  refine WO.ops (StepK.mv rfl) ?_
  refine WO.call rfl rfl (may_ans hS hF10 hF24 h3 g3.wf x R (hs.grow g3) hb hlen) ?_
  rintro v h4 ⟨rfl, g4⟩
  have hq := g4.rd q0
  have g5 := g3.trans g4
  refine WO.ops (StepK.mv rfl) ?_
  refine WO.splitG rfl (fun hc => ?_) (fun hc => ?_)
  rotate_left
  · (repeat (first | refine WO.ops (StepK.mv rfl) ?_ | refine WO.ops (StepK.lenSl rfl (by first | with_reducible assumption | rfl)) ?_ | refine WO.ops (StepK.fieldAddr rfl) ?_ | refine WO.ops (StepK.add rfl rfl (by omega)) ?_ | refine WO.ops (StepK.sub rfl rfl (by omega)) ?_ | refine WO.ops (StepK.bin rfl rfl rfl) ?_ | refine WO.ops (StepK.pickT rfl rfl) ?_ | refine WO.ops (StepK.pickF rfl rfl) ?_ | refine WO.ops (StepK.not rfl) ?_ | refine WO.ops (StepK.eq rfl rfl rfl) ?_ | refine WO.ops (StepK.extract rfl rfl) ?_ | refine WO.ops (StepK.build rfl rfl) ?_ | refine WO.ops (StepK.mkFn rfl rfl) ?_ | refine WO.ops (StepK.field rfl rfl) ?_ | refine WO.ops (StepK.lenStr rfl) ?_ | refine WO.ops (StepK.min2 rfl rfl) ?_ | refine WO.ops (StepK.max2 rfl rfl) ?_ | refine WO.ops (StepK.load1 rfl (by first | with_reducible assumption | rfl)) ?_ | refine WO.run rfl ?_ | refine WO.skip rfl rfl ?_ | refine WO.skipu rfl ?_))
    refine WO.nil (WC.ret ⟨trivial, g5, ?_⟩)
    rw [hasF, hc]; rfl
  (repeat (first | refine WO.ops (StepK.mv rfl) ?_ | refine WO.ops (StepK.lenSl rfl (by first | with_reducible assumption | rfl)) ?_ | refine WO.ops (StepK.fieldAddr rfl) ?_ | refine WO.ops (StepK.add rfl rfl (by omega)) ?_ | refine WO.ops (StepK.sub rfl rfl (by omega)) ?_ | refine WO.ops (StepK.bin rfl rfl rfl) ?_ | refine WO.ops (StepK.pickT rfl rfl) ?_ | refine WO.ops (StepK.pickF rfl rfl) ?_ | refine WO.ops (StepK.not rfl) ?_ | refine WO.ops (StepK.eq rfl rfl rfl) ?_ | refine WO.ops (StepK.extract rfl rfl) ?_ | refine WO.ops (StepK.build rfl rfl) ?_ | refine WO.ops (StepK.mkFn rfl rfl) ?_ | refine WO.ops (StepK.field rfl rfl) ?_ | refine WO.ops (StepK.lenStr rfl) ?_ | refine WO.ops (StepK.min2 rfl rfl) ?_ | refine WO.ops (StepK.max2 rfl rfl) ?_ | refine WO.ops (StepK.load1 rfl (by first | with_reducible assumption | rfl)) ?_ | refine WO.run rfl ?_ | refine WO.skip rfl rfl ?_ | refine WO.skipu rfl ?_))
  refine WO.call rfl rfl (contains_ans hS hF25 hF27 h4 g5.wf x R (hs.grow g5) hlen 26 [.ptr (some (c, 0))] (inF at_) fun r h1 g1 => hasIn_ans hS hF26 hF24 h1 g1.wf c at_ (g1.rd hq) r) ?_
  rintro v h6 ⟨rfl, g6⟩
  (repeat (first | refine WO.ops (StepK.mv rfl) ?_ | refine WO.ops (StepK.lenSl rfl (by first | with_reducible assumption | rfl)) ?_ | refine WO.ops (StepK.fieldAddr rfl) ?_ | refine WO.ops (StepK.add rfl rfl (by omega)) ?_ | refine WO.ops (StepK.sub rfl rfl (by omega)) ?_ | refine WO.ops (StepK.bin rfl rfl rfl) ?_ | refine WO.ops (StepK.pickT rfl rfl) ?_ | refine WO.ops (StepK.pickF rfl rfl) ?_ | refine WO.ops (StepK.not rfl) ?_ | refine WO.ops (StepK.eq rfl rfl rfl) ?_ | refine WO.ops (StepK.extract rfl rfl) ?_ | refine WO.ops (StepK.build rfl rfl) ?_ | refine WO.ops (StepK.mkFn rfl rfl) ?_ | refine WO.ops (StepK.field rfl rfl) ?_ | refine WO.ops (StepK.lenStr rfl) ?_ | refine WO.ops (StepK.min2 rfl rfl) ?_ | refine WO.ops (StepK.max2 rfl rfl) ?_ | refine WO.ops (StepK.load1 rfl (by first | with_reducible assumption | rfl)) ?_ | refine WO.run rfl ?_ | refine WO.skip rfl rfl ?_ | refine WO.skipu rfl ?_))
  refine WO.nil (WC.ret ⟨trivial, g5.trans g6, ?_⟩)
  rw [hasF, hc]; rfl
end Abs
end Go.Proofs.Ytkdoemlhjhmfhaa
