/- Layer 7: the document's Take. -/
import Derived.Test.YtkdoemlhjhmfhaaC9
namespace Go.Proofs.Ytkdoemlhjhmfhaa
namespace Abs
set_option linter.unusedVariables false
set_option linter.unusedSimpArgs false
set_option maxHeartbeats 1600000
open Go.RowKit
attribute [local irreducible] WO WC WD StepK Ans Does Runs DoesD

theorem refTake_ans {C : Cfg} (hS : ∀ f args h, f ≠ 8 → C.S f args h = none) (hF : C.F 21 = some a21) (hT : C.F = tab) (h : Heap) (hw : Wf h) (x : V) (R : List (Int × Int)) (n : Int) (hx : Sl h 2 x (R.map rn)) (hb : ∀ r ∈ R, -9223372036854775808 ≤ r.2 ∧ r.2 < 9223372036854775808) (hl : R.length ≤ 300) : Ans C 21 [x, iv n] h fun v h' => ∃ u, v = .tuple [iv (takeF R n).1, u, .bool (takeF R n).2.2] ∧ Sl h' 2 u ((takeF R n).2.1.map rn) ∧ Grow h h' := by
  unfold a21 at hF
  refine Ans.fn (fun _ _ => hS _ _ _ (by decide)) hF rfl rfl hw fun h2 g => ?_
  clear hF
  have hsl : slLen x = some R.length := by rw [hx.len, List.length_map]
  refine WC.seqO ?_
  (repeat (first | refine WO.ops (StepK.mv rfl) ?_ | refine WO.ops (StepK.lenSl rfl (by first | with_reducible assumption | rfl)) ?_ | refine WO.ops (StepK.fieldAddr rfl) ?_ | refine WO.ops (StepK.add rfl rfl (by omega)) ?_ | refine WO.ops (StepK.sub rfl rfl (by omega)) ?_ | refine WO.ops (StepK.bin rfl rfl rfl) ?_ | refine WO.ops (StepK.pickT rfl rfl) ?_ | refine WO.ops (StepK.pickF rfl rfl) ?_ | refine WO.ops (StepK.not rfl) ?_ | refine WO.ops (StepK.eq rfl rfl rfl) ?_ | refine WO.ops (StepK.extract rfl rfl) ?_ | refine WO.ops (StepK.build rfl rfl) ?_ | refine WO.ops (StepK.mkFn rfl rfl) ?_ | refine WO.ops (StepK.field rfl rfl) ?_ | refine WO.ops (StepK.lenStr rfl) ?_ | refine WO.ops (StepK.min2 rfl rfl) ?_ | refine WO.ops (StepK.max2 rfl rfl) ?_ | refine WO.ops (StepK.load1 rfl (by first | with_reducible assumption | rfl)) ?_ | refine WO.run rfl ?_ | refine WO.skip rfl rfl ?_ | refine WO.skipu rfl ?_))
  refine WO.nil (WC.seq (WC.seqO ?_))
  refine WO.ops (StepK.mv rfl) ?_
  refine WO.call rfl rfl (refMay_ans hS (show C.F 11 = some a11 by rw [hT]; rfl) h2 g.wf x R (hx.grow g) hb (by omega)) ?_
  rintro v h4 ⟨rfl, g4⟩
  have g4 := g.trans g4
  have none_ : ∀ (e : List (Nat × V)) (h5 : Heap) (Q : Ex → List (Nat × V) → Heap → Prop), Q .ret ((6, .bool false) :: (5, .slice none 0 0) :: (4, iv 0) :: e) h5 → WC C (.seq (.ops [⟨(some 4), none, .mv (.c (.int .i64 (0)))⟩, ⟨(some 5), none, .mv (.c (.slice none 0 0))⟩, ⟨(some 6), none, .mv (.c (.bool false))⟩]) (.ret)) e h5 Q := by
    intro e h5 Q hQ
    refine WC.seqO ?_
    (repeat (first | refine WO.ops (StepK.mv rfl) ?_ | refine WO.ops (StepK.lenSl rfl (by first | with_reducible assumption | rfl)) ?_ | refine WO.ops (StepK.fieldAddr rfl) ?_ | refine WO.ops (StepK.add rfl rfl (by omega)) ?_ | refine WO.ops (StepK.sub rfl rfl (by omega)) ?_ | refine WO.ops (StepK.bin rfl rfl rfl) ?_ | refine WO.ops (StepK.pickT rfl rfl) ?_ | refine WO.ops (StepK.pickF rfl rfl) ?_ | refine WO.ops (StepK.not rfl) ?_ | refine WO.ops (StepK.eq rfl rfl rfl) ?_ | refine WO.ops (StepK.extract rfl rfl) ?_ | refine WO.ops (StepK.build rfl rfl) ?_ | refine WO.ops (StepK.mkFn rfl rfl) ?_ | refine WO.ops (StepK.field rfl rfl) ?_ | refine WO.ops (StepK.lenStr rfl) ?_ | refine WO.ops (StepK.min2 rfl rfl) ?_ | refine WO.ops (StepK.max2 rfl rfl) ?_ | refine WO.ops (StepK.load1 rfl (by first | with_reducible assumption | rfl)) ?_ | refine WO.run rfl ?_ | refine WO.skip rfl rfl ?_ | refine WO.skipu rfl ?_))
    exact WO.nil (WC.ret hQ)
  have fin : takeF R n = (0, [], false) → ∀ (e : List (Nat × V)) (h5 : Heap), Grow h h5 → Fin .ret ∧ Wf h5 ∧ ∃ v, retE ((6, .bool false) :: (5, .slice none 0 0) :: (4, iv 0) :: e) h5 [.tmp 4, .tmp 5, .tmp 6] = some v ∧ (∀ h3, Grow h5 h3 → ∃ u, v = .tuple [iv (takeF R n).1, u, .bool (takeF R n).2.2] ∧ Sl h3 2 u ((takeF R n).2.1.map rn) ∧ Grow h h3) ∧ (v.scopd h.size = true → ∃ u, v = .tuple [iv (takeF R n).1, u, .bool (takeF R n).2.2] ∧ Sl h 2 u ((takeF R n).2.1.map rn) ∧ Grow h h) := by
    intro hz e h5 g5
    rw [hz]
    exact ⟨trivial, g5.wf, _, rfl, fun h6 g6 => ⟨_, rfl, Sl.nil h6 2, g5.trans g6⟩, fun _ => ⟨_, rfl, Sl.nil h 2, Grow.refl hw⟩⟩
  (repeat (first | refine WO.ops (StepK.mv rfl) ?_ | refine WO.ops (StepK.lenSl rfl (by first | with_reducible assumption | rfl)) ?_ | refine WO.ops (StepK.fieldAddr rfl) ?_ | refine WO.ops (StepK.add rfl rfl (by omega)) ?_ | refine WO.ops (StepK.sub rfl rfl (by omega)) ?_ | refine WO.ops (StepK.bin rfl rfl rfl) ?_ | refine WO.ops (StepK.pickT rfl rfl) ?_ | refine WO.ops (StepK.pickF rfl rfl) ?_ | refine WO.ops (StepK.not rfl) ?_ | refine WO.ops (StepK.eq rfl rfl rfl) ?_ | refine WO.ops (StepK.extract rfl rfl) ?_ | refine WO.ops (StepK.build rfl rfl) ?_ | refine WO.ops (StepK.mkFn rfl rfl) ?_ | refine WO.ops (StepK.field rfl rfl) ?_ | refine WO.ops (StepK.lenStr rfl) ?_ | refine WO.ops (StepK.min2 rfl rfl) ?_ | refine WO.ops (StepK.max2 rfl rfl) ?_ | refine WO.ops (StepK.load1 rfl (by first | with_reducible assumption | rfl)) ?_ | refine WO.run rfl ?_ | refine WO.skip rfl rfl ?_ | refine WO.skipu rfl ?_))
  refine WO.splitG rfl (fun hc1 => ?_) (fun hc1 => ?_)
  · (repeat (first | refine WO.ops (StepK.mv rfl) ?_ | refine WO.ops (StepK.lenSl rfl (by first | with_reducible assumption | rfl)) ?_ | refine WO.ops (StepK.fieldAddr rfl) ?_ | refine WO.ops (StepK.add rfl rfl (by omega)) ?_ | refine WO.ops (StepK.sub rfl rfl (by omega)) ?_ | refine WO.ops (StepK.bin rfl rfl rfl) ?_ | refine WO.ops (StepK.pickT rfl rfl) ?_ | refine WO.ops (StepK.pickF rfl rfl) ?_ | refine WO.ops (StepK.not rfl) ?_ | refine WO.ops (StepK.eq rfl rfl rfl) ?_ | refine WO.ops (StepK.extract rfl rfl) ?_ | refine WO.ops (StepK.build rfl rfl) ?_ | refine WO.ops (StepK.mkFn rfl rfl) ?_ | refine WO.ops (StepK.field rfl rfl) ?_ | refine WO.ops (StepK.lenStr rfl) ?_ | refine WO.ops (StepK.min2 rfl rfl) ?_ | refine WO.ops (StepK.max2 rfl rfl) ?_ | refine WO.ops (StepK.load1 rfl (by first | with_reducible assumption | rfl)) ?_ | refine WO.run rfl ?_ | refine WO.skip rfl rfl ?_ | refine WO.skipu rfl ?_))
    have hm : mayF (-1) R = false := by simpa using hc1
    refine WO.nil (WC.condT rfl (none_ _ _ _ (fin ?_ _ _ g4)))
    rw [takeF, if_pos (.inl hm)]
  have hm : mayF (-1) R = true := by simpa using hc1
  (repeat (first | refine WO.ops (StepK.mv rfl) ?_ | refine WO.ops (StepK.lenSl rfl (by first | with_reducible assumption | rfl)) ?_ | refine WO.ops (StepK.fieldAddr rfl) ?_ | refine WO.ops (StepK.add rfl rfl (by omega)) ?_ | refine WO.ops (StepK.sub rfl rfl (by omega)) ?_ | refine WO.ops (StepK.bin rfl rfl rfl) ?_ | refine WO.ops (StepK.pickT rfl rfl) ?_ | refine WO.ops (StepK.pickF rfl rfl) ?_ | refine WO.ops (StepK.not rfl) ?_ | refine WO.ops (StepK.eq rfl rfl rfl) ?_ | refine WO.ops (StepK.extract rfl rfl) ?_ | refine WO.ops (StepK.build rfl rfl) ?_ | refine WO.ops (StepK.mkFn rfl rfl) ?_ | refine WO.ops (StepK.field rfl rfl) ?_ | refine WO.ops (StepK.lenStr rfl) ?_ | refine WO.ops (StepK.min2 rfl rfl) ?_ | refine WO.ops (StepK.max2 rfl rfl) ?_ | refine WO.ops (StepK.load1 rfl (by first | with_reducible assumption | rfl)) ?_ | refine WO.run rfl ?_ | refine WO.skip rfl rfl ?_ | refine WO.skipu rfl ?_))
  refine WO.splitG rfl (fun hc2 => ?_) (fun hc2 => ?_)
  · have hc2 := of_decide_eq_true hc2
    (repeat (first | refine WO.ops (StepK.mv rfl) ?_ | refine WO.ops (StepK.lenSl rfl (by first | with_reducible assumption | rfl)) ?_ | refine WO.ops (StepK.fieldAddr rfl) ?_ | refine WO.ops (StepK.add rfl rfl (by omega)) ?_ | refine WO.ops (StepK.sub rfl rfl (by omega)) ?_ | refine WO.ops (StepK.bin rfl rfl rfl) ?_ | refine WO.ops (StepK.pickT rfl rfl) ?_ | refine WO.ops (StepK.pickF rfl rfl) ?_ | refine WO.ops (StepK.not rfl) ?_ | refine WO.ops (StepK.eq rfl rfl rfl) ?_ | refine WO.ops (StepK.extract rfl rfl) ?_ | refine WO.ops (StepK.build rfl rfl) ?_ | refine WO.ops (StepK.mkFn rfl rfl) ?_ | refine WO.ops (StepK.field rfl rfl) ?_ | refine WO.ops (StepK.lenStr rfl) ?_ | refine WO.ops (StepK.min2 rfl rfl) ?_ | refine WO.ops (StepK.max2 rfl rfl) ?_ | refine WO.ops (StepK.load1 rfl (by first | with_reducible assumption | rfl)) ?_ | refine WO.run rfl ?_ | refine WO.skip rfl rfl ?_ | refine WO.skipu rfl ?_))
    refine WO.nil (WC.condT rfl (none_ _ _ _ (fin ?_ _ _ g4)))
    rw [takeF, if_pos (.inr (.inl hc2))]
  have hc2 := of_decide_eq_false hc2
  (repeat (first | refine WO.ops (StepK.mv rfl) ?_ | refine WO.ops (StepK.lenSl rfl (by first | with_reducible assumption | rfl)) ?_ | refine WO.ops (StepK.fieldAddr rfl) ?_ | refine WO.ops (StepK.add rfl rfl (by omega)) ?_ | refine WO.ops (StepK.sub rfl rfl (by omega)) ?_ | refine WO.ops (StepK.bin rfl rfl rfl) ?_ | refine WO.ops (StepK.pickT rfl rfl) ?_ | refine WO.ops (StepK.pickF rfl rfl) ?_ | refine WO.ops (StepK.not rfl) ?_ | refine WO.ops (StepK.eq rfl rfl rfl) ?_ | refine WO.ops (StepK.extract rfl rfl) ?_ | refine WO.ops (StepK.build rfl rfl) ?_ | refine WO.ops (StepK.mkFn rfl rfl) ?_ | refine WO.ops (StepK.field rfl rfl) ?_ | refine WO.ops (StepK.lenStr rfl) ?_ | refine WO.ops (StepK.min2 rfl rfl) ?_ | refine WO.ops (StepK.max2 rfl rfl) ?_ | refine WO.ops (StepK.load1 rfl (by first | with_reducible assumption | rfl)) ?_ | refine WO.run rfl ?_ | refine WO.skip rfl rfl ?_ | refine WO.skipu rfl ?_))
  refine WO.nil (WC.cond rfl (fun hc3 => none_ _ _ _ (fin ?_ _ _ g4)) (fun hc3 => WC.skip (WC.seq (WC.seqO ?_))))
  · have hc3 := of_decide_eq_true hc3
    rw [takeF, if_pos (.inr (.inr hc3))]
  have hc3 := of_decide_eq_false hc3
  have ht : takeF R n = if idxF (fun r => decide (r.2 ≥ n)) 0 R < 0 then (0, [], false)
    else match R[(idxF (fun r => decide (r.2 ≥ n)) 0 R).toNat]? with
      | some r => (r.1, R.take (idxF (fun r => decide (r.2 ≥ n)) 0 R).toNat ++ (if r.2 = n then [] else [(r.1 + n, r.2 - n)]) ++ R.drop ((idxF (fun r => decide (r.2 ≥ n)) 0 R).toNat + 1), true)
      | none => (0, [], false) := by
    rw [takeF, if_neg (by rw [hm]; simp; omega)]
    rfl
  (repeat (first | refine WO.ops (StepK.mv rfl) ?_ | refine WO.ops (StepK.lenSl rfl (by first | with_reducible assumption | rfl)) ?_ | refine WO.ops (StepK.fieldAddr rfl) ?_ | refine WO.ops (StepK.add rfl rfl (by omega)) ?_ | refine WO.ops (StepK.sub rfl rfl (by omega)) ?_ | refine WO.ops (StepK.bin rfl rfl rfl) ?_ | refine WO.ops (StepK.pickT rfl rfl) ?_ | refine WO.ops (StepK.pickF rfl rfl) ?_ | refine WO.ops (StepK.not rfl) ?_ | refine WO.ops (StepK.eq rfl rfl rfl) ?_ | refine WO.ops (StepK.extract rfl rfl) ?_ | refine WO.ops (StepK.build rfl rfl) ?_ | refine WO.ops (StepK.mkFn rfl rfl) ?_ | refine WO.ops (StepK.field rfl rfl) ?_ | refine WO.ops (StepK.lenStr rfl) ?_ | refine WO.ops (StepK.min2 rfl rfl) ?_ | refine WO.ops (StepK.max2 rfl rfl) ?_ | refine WO.ops (StepK.load1 rfl (by first | with_reducible assumption | rfl)) ?_ | refine WO.run rfl ?_ | refine WO.skip rfl rfl ?_ | refine WO.skipu rfl ?_))
  refine WO.nil (WC.block ?_)
  refine WC.loop (σ := Nat) (fun i => [(0, x), (1, iv n), (7, iv i)]) (fun i h' => Grow h h' ∧ i ≤ R.length ∧ idxF (fun r => decide (r.2 ≥ n)) 0 R = idxF (fun r => decide (r.2 ≥ n)) i (R.drop i)) (fun i => R.length - i) 0 ?_ ⟨g4, by omega, rfl⟩ ?_
  · exact Cov.cons rfl (Cov.cons rfl (Cov.cons rfl (Cov.nil _)))
  rintro i h5 ⟨g5, hi, hm2⟩
  refine WC.seq (WC.seqO ?_)
  refine WO.ops (StepK.mv rfl) ?_
  refine WO.ops (StepK.mv rfl) ?_
  refine WO.ops (StepK.lenSl rfl hsl) ?_
  (repeat (first | refine WO.ops (StepK.mv rfl) ?_ | refine WO.ops (StepK.lenSl rfl (by first | with_reducible assumption | rfl)) ?_ | refine WO.ops (StepK.fieldAddr rfl) ?_ | refine WO.ops (StepK.add rfl rfl (by omega)) ?_ | refine WO.ops (StepK.sub rfl rfl (by omega)) ?_ | refine WO.ops (StepK.bin rfl rfl rfl) ?_ | refine WO.ops (StepK.pickT rfl rfl) ?_ | refine WO.ops (StepK.pickF rfl rfl) ?_ | refine WO.ops (StepK.not rfl) ?_ | refine WO.ops (StepK.eq rfl rfl rfl) ?_ | refine WO.ops (StepK.extract rfl rfl) ?_ | refine WO.ops (StepK.build rfl rfl) ?_ | refine WO.ops (StepK.mkFn rfl rfl) ?_ | refine WO.ops (StepK.field rfl rfl) ?_ | refine WO.ops (StepK.lenStr rfl) ?_ | refine WO.ops (StepK.min2 rfl rfl) ?_ | refine WO.ops (StepK.max2 rfl rfl) ?_ | refine WO.ops (StepK.load1 rfl (by first | with_reducible assumption | rfl)) ?_ | refine WO.run rfl ?_ | refine WO.skip rfl rfl ?_ | refine WO.skipu rfl ?_))
  refine WO.nil (WC.cond rfl (fun hc4 => WC.skip ?_) (fun hc4 => WC.exit (none_ _ _ _ (fin ?_ _ _ g5))))
  rotate_left
  · have hc4 := of_decide_eq_false hc4
    have : i = R.length := by omega
    subst this
    rw [List.drop_length] at hm2
    rw [ht, hm2]; simp [idxF]
  have hc4 := of_decide_eq_true hc4
  have hi : i < R.length := by omega
  obtain ⟨b, o, k1, k2⟩ := (hx.grow g5).at (i := i) (by rw [List.length_map]; exact hi)
  rw [List.getElem_map] at k2
  have hd : R.drop i = R[i] :: R.drop (i + 1) := List.drop_eq_getElem_cons hi
  have hri : R[i]? = some R[i] := List.getElem?_eq_getElem hi
  have hrb := mayF_bounds R (-1) (by omega) hm R[i] (List.getElem_mem hi)
  rw [hd] at hm2
  generalize R[i] = r at hd hri hrb hm2 k2
  obtain ⟨a, m⟩ := r
  simp only [idxF] at hm2
  simp only at hrb
  have r0 : h5.rd b (o + 0) = some (iv a) := rds_rd k2 rfl
  have r1 : h5.rd b (o + 1) = some (iv m) := rds_rd k2 rfl
  refine WC.seq (WC.block (WC.seqO ?_))
  refine WO.ops (StepK.mv rfl) ?_
  refine WO.ops (StepK.mv rfl) ?_
  refine WO.ops (StepK.idxSl rfl rfl k1) ?_
  refine WO.ops (StepK.fieldAddr rfl) ?_
  refine WO.ops (StepK.load1 rfl r1) ?_
  (repeat (first | refine WO.ops (StepK.mv rfl) ?_ | refine WO.ops (StepK.lenSl rfl (by first | with_reducible assumption | rfl)) ?_ | refine WO.ops (StepK.fieldAddr rfl) ?_ | refine WO.ops (StepK.add rfl rfl (by omega)) ?_ | refine WO.ops (StepK.sub rfl rfl (by omega)) ?_ | refine WO.ops (StepK.bin rfl rfl rfl) ?_ | refine WO.ops (StepK.pickT rfl rfl) ?_ | refine WO.ops (StepK.pickF rfl rfl) ?_ | refine WO.ops (StepK.not rfl) ?_ | refine WO.ops (StepK.eq rfl rfl rfl) ?_ | refine WO.ops (StepK.extract rfl rfl) ?_ | refine WO.ops (StepK.build rfl rfl) ?_ | refine WO.ops (StepK.mkFn rfl rfl) ?_ | refine WO.ops (StepK.field rfl rfl) ?_ | refine WO.ops (StepK.lenStr rfl) ?_ | refine WO.ops (StepK.min2 rfl rfl) ?_ | refine WO.ops (StepK.max2 rfl rfl) ?_ | refine WO.ops (StepK.load1 rfl (by first | with_reducible assumption | rfl)) ?_ | refine WO.run rfl ?_ | refine WO.skip rfl rfl ?_ | refine WO.skipu rfl ?_))
  refine WO.nil (WC.cond rfl (fun hc5 => WC.seqO ?_) (fun hc5 => WC.skip (WC.ops ?_)))
  rotate_left
  · (repeat (first | refine WO.ops (StepK.mv rfl) ?_ | refine WO.ops (StepK.lenSl rfl (by first | with_reducible assumption | rfl)) ?_ | refine WO.ops (StepK.fieldAddr rfl) ?_ | refine WO.ops (StepK.add rfl rfl (by omega)) ?_ | refine WO.ops (StepK.sub rfl rfl (by omega)) ?_ | refine WO.ops (StepK.bin rfl rfl rfl) ?_ | refine WO.ops (StepK.pickT rfl rfl) ?_ | refine WO.ops (StepK.pickF rfl rfl) ?_ | refine WO.ops (StepK.not rfl) ?_ | refine WO.ops (StepK.eq rfl rfl rfl) ?_ | refine WO.ops (StepK.extract rfl rfl) ?_ | refine WO.ops (StepK.build rfl rfl) ?_ | refine WO.ops (StepK.mkFn rfl rfl) ?_ | refine WO.ops (StepK.field rfl rfl) ?_ | refine WO.ops (StepK.lenStr rfl) ?_ | refine WO.ops (StepK.min2 rfl rfl) ?_ | refine WO.ops (StepK.max2 rfl rfl) ?_ | refine WO.ops (StepK.load1 rfl (by first | with_reducible assumption | rfl)) ?_ | refine WO.run rfl ?_ | refine WO.skip rfl rfl ?_ | refine WO.skipu rfl ?_))
    refine WO.nil ⟨i + 1, Cov.cons rfl (Cov.cons rfl (Cov.cons rfl (Cov.nil _))), ⟨g5, hi, ?_⟩, by omega⟩
    rw [hm2, if_neg (by rw [hc5]; decide)]; rfl
  rw [if_pos hc5] at hm2
  have hc5 := of_decide_eq_true hc5
  rw [hm2, if_neg (by omega)] at ht
  simp only [Int.toNat_natCast, hri] at ht
  have hlt : (R.take i).length = i := by rw [List.length_take]; omega
  have hld : (R.drop (i + 1)).length = R.length - (i + 1) := List.length_drop
  (repeat (first | refine WO.ops (StepK.mv rfl) ?_ | refine WO.ops (StepK.lenSl rfl (by first | with_reducible assumption | rfl)) ?_ | refine WO.ops (StepK.fieldAddr rfl) ?_ | refine WO.ops (StepK.add rfl rfl (by omega)) ?_ | refine WO.ops (StepK.sub rfl rfl (by omega)) ?_ | refine WO.ops (StepK.bin rfl rfl rfl) ?_ | refine WO.ops (StepK.pickT rfl rfl) ?_ | refine WO.ops (StepK.pickF rfl rfl) ?_ | refine WO.ops (StepK.not rfl) ?_ | refine WO.ops (StepK.eq rfl rfl rfl) ?_ | refine WO.ops (StepK.extract rfl rfl) ?_ | refine WO.ops (StepK.build rfl rfl) ?_ | refine WO.ops (StepK.mkFn rfl rfl) ?_ | refine WO.ops (StepK.field rfl rfl) ?_ | refine WO.ops (StepK.lenStr rfl) ?_ | refine WO.ops (StepK.min2 rfl rfl) ?_ | refine WO.ops (StepK.max2 rfl rfl) ?_ | refine WO.ops (StepK.load1 rfl (by first | with_reducible assumption | rfl)) ?_ | refine WO.run rfl ?_ | refine WO.skip rfl rfl ?_ | refine WO.skipu rfl ?_))
  refine WO.nil (WC.seqO ?_)
  obtain ⟨u, e1, e2⟩ := (hx.grow g5).take2 (i := i) (by rw [List.length_map]; omega)
  rw [← List.map_take] at e2
  obtain ⟨v1, h6, p1, p2, p3⟩ := (Grown.nil h5 h.size 2).append hw g5 e2 (bytes := 16) (by decide) (by decide) (by simp only [List.length_nil, List.length_map, roomy, decide_eq_true_eq]; omega) ones_rn
  rw [List.nil_append] at p2
  refine WO.ops (StepK.mv rfl) ?_
  refine WO.ops (StepK.mv rfl) ?_
  refine WO.ops (StepK.mv rfl) ?_
  refine WO.ops (StepK.sliceSl rfl rfl rfl rfl e1) ?_
  refine WO.ops (StepK.append rfl rfl p1) ?_
  refine WO.ops (StepK.mv rfl) (WO.nil ?_)
  obtain ⟨b, o, k1, k2⟩ := (hx.grow p3).at (i := i) (by rw [List.length_map]; exact hi)
  have hr' : R[i] = (a, m) := (List.getElem?_eq_some_iff.1 hri).2
  rw [List.getElem_map, hr'] at k2
  have r0 : h6.rd b (o + 0) = some (iv a) := rds_rd k2 rfl
  have r1 : h6.rd b (o + 1) = some (iv m) := rds_rd k2 rfl
  refine WC.seq (WC.seqO ?_)
  refine WO.ops (StepK.mv rfl) ?_
  refine WO.ops (StepK.mv rfl) ?_
  refine WO.ops (StepK.idxSl rfl rfl k1) ?_
  refine WO.ops (StepK.fieldAddr rfl) ?_
  refine WO.ops (StepK.load1 rfl r1) ?_
  (repeat (first | refine WO.ops (StepK.mv rfl) ?_ | refine WO.ops (StepK.lenSl rfl (by first | with_reducible assumption | rfl)) ?_ | refine WO.ops (StepK.fieldAddr rfl) ?_ | refine WO.ops (StepK.add rfl rfl (by omega)) ?_ | refine WO.ops (StepK.sub rfl rfl (by omega)) ?_ | refine WO.ops (StepK.bin rfl rfl rfl) ?_ | refine WO.ops (StepK.pickT rfl rfl) ?_ | refine WO.ops (StepK.pickF rfl rfl) ?_ | refine WO.ops (StepK.not rfl) ?_ | refine WO.ops (StepK.eq rfl rfl rfl) ?_ | refine WO.ops (StepK.extract rfl rfl) ?_ | refine WO.ops (StepK.build rfl rfl) ?_ | refine WO.ops (StepK.mkFn rfl rfl) ?_ | refine WO.ops (StepK.field rfl rfl) ?_ | refine WO.ops (StepK.lenStr rfl) ?_ | refine WO.ops (StepK.min2 rfl rfl) ?_ | refine WO.ops (StepK.max2 rfl rfl) ?_ | refine WO.ops (StepK.load1 rfl (by first | with_reducible assumption | rfl)) ?_ | refine WO.run rfl ?_ | refine WO.skip rfl rfl ?_ | refine WO.skipu rfl ?_))
  have tail : ∀ (e : List (Nat × V)) (h7 : Heap) (v2 : V) (W : List (Int × Int)) (Q : Ex → List (Nat × V) → Heap → Prop), Cov [(0, x), (1, iv n), (7, iv i), (8, v2)] e → W.length ≤ 1 → (if m = n then [] else [(a + n, m - n)]) = W → Grow h h7 → Grown h7 h.size 2 v2 ((R.take i ++ W).map rn) →
      (∀ e' h', (Fin .ret ∧ Wf h' ∧ ∃ v, retE e' h' [.tmp 4, .tmp 5, .tmp 6] = some v ∧ (∀ h3, Grow h' h3 → ∃ u, v = .tuple [iv (takeF R n).1, u, .bool (takeF R n).2.2] ∧ Sl h3 2 u ((takeF R n).2.1.map rn) ∧ Grow h h3) ∧ (v.scopd h.size = true → ∃ u, v = .tuple [iv (takeF R n).1, u, .bool (takeF R n).2.2] ∧ Sl h 2 u ((takeF R n).2.1.map rn) ∧ Grow h h)) → Q .ret e' h') →
      WC C (.seq (.ops [⟨(some 63), none, .mv (.t 8)⟩,
        ⟨(some 64), none, .mv (.t 0)⟩,
        ⟨(some 65), none, .mv (.t 7)⟩,
        ⟨(some 66), none, .bin .add (.t 65) (.c (.int .i64 (1)))⟩,
        ⟨(some 67), none, .sliceSl 2 (.t 64) (some (.t 66)) none none⟩,
        ⟨(some 68), none, .append 2 16 (.t 63) (.t 67)⟩,
        ⟨(some 8), none, .mv (.t 68)⟩])
      (.seq (.ops [⟨(some 69), none, .mv (.t 0)⟩,
        ⟨(some 70), none, .mv (.t 7)⟩,
        ⟨(some 71), none, .idxSl 2 (.t 69) (.t 70)⟩,
        ⟨(some 72), none, .fieldAddr 0 (.t 71)⟩,
        ⟨(some 73), none, .load none (.t 72)⟩,
        ⟨(some 74), none, .mv (.t 8)⟩,
        ⟨(some 4), none, .mv (.t 73)⟩,
        ⟨(some 5), none, .mv (.t 74)⟩,
        ⟨(some 6), none, .mv (.c (.bool true))⟩])
      (.ret))) e h7 Q := by
    intro e h7 v2 W Q hcv hWl hW g7 hg7 hQ
    obtain ⟨u, e1, e2⟩ := (hx.grow g7).drop1 (i := i + 1) (by rw [List.length_map]; omega)
    rw [← List.map_drop] at e2
    obtain ⟨v3, h8, s1, s2, s3⟩ := hg7.append hw g7 e2 (bytes := 16) (by decide) (by decide) (by simp only [List.length_append, List.length_map, roomy, decide_eq_true_eq]; omega) ones_rn
    rw [← List.map_append] at s2
    obtain ⟨b, o, k1, k2⟩ := (hx.grow s3).at (i := i) (by rw [List.length_map]; exact hi)
    rw [List.getElem_map, hr'] at k2
    have r0 : h8.rd b (o + 0) = some (iv a) := rds_rd k2 rfl
    refine WC.cov hcv (WC.seqO ?_)
    refine WO.ops (StepK.mv rfl) ?_
    refine WO.ops (StepK.mv rfl) ?_
    refine WO.ops (StepK.mv rfl) ?_
    refine WO.ops (StepK.add rfl rfl (by omega)) ?_
    refine WO.ops (StepK.sliceSl rfl rfl rfl rfl e1) ?_
    refine WO.ops (StepK.append rfl rfl s1) ?_
    refine WO.ops (StepK.mv rfl) (WO.nil (WC.seqO ?_))
    refine WO.ops (StepK.mv rfl) ?_
    refine WO.ops (StepK.mv rfl) ?_
    refine WO.ops (StepK.idxSl rfl rfl k1) ?_
    refine WO.ops (StepK.fieldAddr rfl) ?_
    refine WO.ops (StepK.load1 rfl r0) ?_
    (repeat (first | refine WO.ops (StepK.mv rfl) ?_ | refine WO.ops (StepK.lenSl rfl (by first | with_reducible assumption | rfl)) ?_ | refine WO.ops (StepK.fieldAddr rfl) ?_ | refine WO.ops (StepK.add rfl rfl (by omega)) ?_ | refine WO.ops (StepK.sub rfl rfl (by omega)) ?_ | refine WO.ops (StepK.bin rfl rfl rfl) ?_ | refine WO.ops (StepK.pickT rfl rfl) ?_ | refine WO.ops (StepK.pickF rfl rfl) ?_ | refine WO.ops (StepK.not rfl) ?_ | refine WO.ops (StepK.eq rfl rfl rfl) ?_ | refine WO.ops (StepK.extract rfl rfl) ?_ | refine WO.ops (StepK.build rfl rfl) ?_ | refine WO.ops (StepK.mkFn rfl rfl) ?_ | refine WO.ops (StepK.field rfl rfl) ?_ | refine WO.ops (StepK.lenStr rfl) ?_ | refine WO.ops (StepK.min2 rfl rfl) ?_ | refine WO.ops (StepK.max2 rfl rfl) ?_ | refine WO.ops (StepK.load1 rfl (by first | with_reducible assumption | rfl)) ?_ | refine WO.run rfl ?_ | refine WO.skip rfl rfl ?_ | refine WO.skipu rfl ?_))
    refine WO.nil (WC.ret (hQ _ _ ⟨trivial, s3.wf, .tuple [iv a, v3, .bool true], rfl, ?_⟩))
    rw [ht, hW]
    refine ⟨fun h9 g9 => ⟨v3, rfl, s2.sl.grow g9, s3.trans g9⟩, fun hsc => ⟨v3, rfl, ?_, Grow.refl hw⟩⟩
    have hsu : v3.scopd h.size = true := by
      simp only [V.scopd, V.scopeds, Bool.and_eq_true] at hsc; exact hsc.2.1
    exact (s2.scopd hsu h).sl
  refine WO.nil (WC.cond rfl (fun hc6 => WC.draw ?_) (fun hc6 => WC.skip ?_))
  rotate_left
  · have hc6 := of_decide_eq_false hc6
    refine tail _ h6 v1 [] _ (Cov.cons rfl (Cov.cons rfl (Cov.cons rfl (Cov.cons rfl (Cov.nil _))))) (by simp) (by rw [if_pos (by omega)]) p3 (by rw [List.append_nil]; exact p2) fun e' h' hq => hq
  have hc6 := of_decide_eq_true hc6
  refine WD.pure (StepK.mv rfl) rfl ?_
  refine WD.pure (StepK.mv rfl) rfl ?_
  refine WD.pure (StepK.mv rfl) rfl ?_
  refine WD.pure (StepK.idxSl rfl rfl k1) rfl ?_
  refine WD.pure (StepK.fieldAddr rfl) rfl ?_
  refine WD.load1 rfl r0 ?_
  refine WD.pure (StepK.mv rfl) rfl ?_
  refine WD.pure (StepK.add rfl rfl (by omega)) rfl ?_
  refine WD.pure (StepK.mv rfl) rfl ?_
  refine WD.pure (StepK.mv rfl) rfl ?_
  refine WD.pure (StepK.idxSl rfl rfl k1) rfl ?_
  refine WD.pure (StepK.fieldAddr rfl) rfl ?_
  refine WD.load1 rfl r1 ?_
  refine WD.pure (StepK.mv rfl) rfl ?_
  refine WD.pure (StepK.sub rfl rfl (by omega)) rfl ?_
  refine WD.pure (StepK.build (cs := rn (a + n, m - n)) rfl rfl) rfl ?_
  refine WD.alloc rfl (StepK.buildSl (cs := rn (a + n, m - n)) rfl rfl) ?_
  have gp : Grow h6 (h6.push (.cells (rn (a + n, m - n)) (.tip [] 0))) := (Grow.refl p3.wf).push _
  obtain ⟨v2, h7, s1, s2, s3⟩ := grow_one hw p3 p2 (by omega) (a + n, m - n)
  refine WD.opC ⟨get_push_self _ _, gp.rd r1, gp.rd r0, trivial⟩ rfl (StepK.append rfl rfl s1) ?_
  refine WD.pure (StepK.mv rfl) rfl ?_
  refine WD.nil trivial ?_
  exact tail _ h7 v2 [(a + n, m - n)] _ (Cov.cons rfl (Cov.cons rfl (Cov.cons rfl (Cov.cons rfl (Cov.nil _))))) (by simp) (by rw [if_neg (by omega)]) s3 s2 fun e' h' hq => hq
end Abs
end Go.Proofs.Ytkdoemlhjhmfhaa
