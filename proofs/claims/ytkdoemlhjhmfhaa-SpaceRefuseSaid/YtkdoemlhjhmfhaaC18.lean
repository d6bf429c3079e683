/- Layer 7: SpaceRefuse. -/
import Derived.Test.YtkdoemlhjhmfhaaC17
import Derived.Test.YtkdoemlhjhmfhaaC7
namespace Go.Proofs.Ytkdoemlhjhmfhaa
namespace Abs
set_option linter.unusedVariables false
set_option linter.unusedSimpArgs false
set_option maxHeartbeats 3200000
open Go.RowKit
attribute [local irreducible] WO WC WD StepK Ans Does Runs DoesD

theorem giveF_no {R : List (Int × Int)} {r : Int × Int} (h : (giveF R r).2 = false) : (giveF R r).1 = [] := by
  unfold giveF at h ⊢
  by_cases hc : mayF (-1) R = false ∨ mayF (-1) [r] = false
  · rw [if_pos hc]
  · rw [if_neg hc] at h ⊢
    cases q : refG [] r [] R with
    | none => rfl
    | some out =>
      rw [q] at h
      simp only at h ⊢
      by_cases q2 : mayF (-1) out = true
      · rw [if_pos q2] at h; cases h
      · rw [if_neg q2]
/-- What overlaps is not taken. -/
theorem refG_over : ∀ (R A : List (Int × Int)) (r : Int × Int) (B : List (Int × Int)) (p : Int), (∀ s ∈ R, 1 ≤ s.2) → (∃ s ∈ R, s.1 ≤ p ∧ p < s.1 + s.2) → r.1 ≤ p → p < r.1 + r.2 → refG A r B R = none
  | [], _, _, _, _, _, h, _, _ => by obtain ⟨s, hs, _⟩ := h; cases hs
  | t :: l, A, r, B, p, hp, h, h1, h2 => by
    have ht := hp t List.mem_cons_self
    have hl : ∀ s ∈ l, 1 ≤ s.2 := fun s hs => hp s (List.mem_cons_of_mem _ hs)
    obtain ⟨s, hs, h3, h4⟩ := h
    simp only [refG]
    rcases List.mem_cons.1 hs with e | e
    · subst e
      rw [if_neg (by omega), if_neg (by omega), if_neg (by omega), if_neg (by omega)]
    · have ex : ∃ s ∈ l, s.1 ≤ p ∧ p < s.1 + s.2 := ⟨s, e, h3, h4⟩
      split
      · exact refG_over l _ _ _ p hl ex h1 h2
      · split
        · exact refG_over l _ _ _ p hl ex (by simp only; omega) (by simp only; omega)
        · split
          · exact refG_over l _ _ _ p hl ex (by simp only; omega) (by simp only; omega)
          · split
            · exact refG_over l _ _ _ p hl ex h1 h2
            · rfl
theorem any_in {R : List (Int × Int)} (hm : mayF (-1) R = true) (p : Int) : R.any (inF p) = true ↔ ∃ s ∈ R, s.1 ≤ p ∧ p < s.1 + s.2 := by
  rw [List.any_eq_true]
  have key : ∀ s ∈ R, (inF p s = true ↔ s.1 ≤ p ∧ p < s.1 + s.2) := by
    intro s hs
    have := mayF_bounds R (-1) (by omega) hm s hs
    have hw : wr64 (s.1 + s.2) = s.1 + s.2 := StepK.wrap64 (by omega) (by omega)
    simp only [inF, hw, Bool.and_eq_true, decide_eq_true_eq]
    first | done | exact Iff.rfl
  exact ⟨fun ⟨s, hs, q⟩ => ⟨s, hs, (key s hs).1 q⟩, fun ⟨s, hs, q⟩ => ⟨s, hs, (key s hs).2 q⟩⟩
theorem give_over {R : List (Int × Int)} {p : Int} (h : hasF R p = true) : (giveF R (p, 1)).2 = false := by
  simp only [hasF, Bool.and_eq_true] at h
  unfold giveF
  split
  · rfl
  · rw [refG_over R [] (p, 1) [] p (fun s hs => (mayF_bounds R (-1) (by omega) h.1 s hs).2.1) ((any_in h.1 p).1 h.2) (Int.le_refl _) (by simp only; omega)]

theorem refuse_ans {C : Cfg} (hS : ∀ f args h, f ≠ 8 → C.S f args h = none) (hT : C.F = tab) (hlive : ∀ h, Wf h → Ans C 8 [] h fun v h' => v = .bool true ∧ Grow h h') (h : Heap) (hw : Wf h) (x : V) (R : List (Int × Int)) (n : Int) (hx : Sl h 2 x (R.map rn)) (hb : ∀ r ∈ R, -9223372036854775808 ≤ r.2 ∧ r.2 < 9223372036854775808) : Ans C 7 [x, iv n] h fun v h' => v = .bool true ∧ Grow h h' := by
  refine Ans.val (fun _ _ => hS _ _ _ (by decide)) (show C.F 7 = some a7 by rw [hT]; rfl) rfl rfl hw fun h2 g => ?_
  have hsr : slLen x = some R.length := by rw [hx.len, List.length_map]
  refine WC.seqO ?_
  (repeat (first | refine WO.ops (StepK.mv rfl) ?_ | refine WO.ops (StepK.lenSl rfl (by first | with_reducible assumption | rfl)) ?_ | refine WO.ops (StepK.fieldAddr rfl) ?_ | refine WO.ops (StepK.add rfl rfl (by omega)) ?_ | refine WO.ops (StepK.sub rfl rfl (by omega)) ?_ | refine WO.ops (StepK.bin rfl rfl rfl) ?_ | refine WO.ops (StepK.pickT rfl rfl) ?_ | refine WO.ops (StepK.pickF rfl rfl) ?_ | refine WO.ops (StepK.not rfl) ?_ | refine WO.ops (StepK.eq rfl rfl rfl) ?_ | refine WO.ops (StepK.extract rfl rfl) ?_ | refine WO.ops (StepK.build rfl rfl) ?_ | refine WO.ops (StepK.mkFn rfl rfl) ?_ | refine WO.ops (StepK.field rfl rfl) ?_ | refine WO.ops (StepK.lenStr rfl) ?_ | refine WO.ops (StepK.min2 rfl rfl) ?_ | refine WO.ops (StepK.max2 rfl rfl) ?_ | refine WO.ops (StepK.load1 rfl (by first | with_reducible assumption | rfl)) ?_ | refine WO.run rfl ?_ | refine WO.skip rfl rfl ?_ | refine WO.skipu rfl ?_))
  refine WO.nil (WC.seq (WC.seqO ?_))
  refine WO.ops (StepK.mv rfl) ?_
  refine WO.ops (StepK.lenSl rfl hsr) ?_
  (repeat (first | refine WO.ops (StepK.mv rfl) ?_ | refine WO.ops (StepK.lenSl rfl (by first | with_reducible assumption | rfl)) ?_ | refine WO.ops (StepK.fieldAddr rfl) ?_ | refine WO.ops (StepK.add rfl rfl (by omega)) ?_ | refine WO.ops (StepK.sub rfl rfl (by omega)) ?_ | refine WO.ops (StepK.bin rfl rfl rfl) ?_ | refine WO.ops (StepK.pickT rfl rfl) ?_ | refine WO.ops (StepK.pickF rfl rfl) ?_ | refine WO.ops (StepK.not rfl) ?_ | refine WO.ops (StepK.eq rfl rfl rfl) ?_ | refine WO.ops (StepK.extract rfl rfl) ?_ | refine WO.ops (StepK.build rfl rfl) ?_ | refine WO.ops (StepK.mkFn rfl rfl) ?_ | refine WO.ops (StepK.field rfl rfl) ?_ | refine WO.ops (StepK.lenStr rfl) ?_ | refine WO.ops (StepK.min2 rfl rfl) ?_ | refine WO.ops (StepK.max2 rfl rfl) ?_ | refine WO.ops (StepK.load1 rfl (by first | with_reducible assumption | rfl)) ?_ | refine WO.run rfl ?_ | refine WO.skip rfl rfl ?_ | refine WO.skipu rfl ?_))
  refine WO.nil (WC.cond rfl (fun hc => WC.seqO ?_) (fun hc => WC.skip (WC.seqO ?_)))
  · refine WO.call rfl rfl (hlive h2 g.wf) ?_
    rintro v h4 ⟨rfl, g4⟩
    (repeat (first | refine WO.ops (StepK.mv rfl) ?_ | refine WO.ops (StepK.lenSl rfl (by first | with_reducible assumption | rfl)) ?_ | refine WO.ops (StepK.fieldAddr rfl) ?_ | refine WO.ops (StepK.add rfl rfl (by omega)) ?_ | refine WO.ops (StepK.sub rfl rfl (by omega)) ?_ | refine WO.ops (StepK.bin rfl rfl rfl) ?_ | refine WO.ops (StepK.pickT rfl rfl) ?_ | refine WO.ops (StepK.pickF rfl rfl) ?_ | refine WO.ops (StepK.not rfl) ?_ | refine WO.ops (StepK.eq rfl rfl rfl) ?_ | refine WO.ops (StepK.extract rfl rfl) ?_ | refine WO.ops (StepK.build rfl rfl) ?_ | refine WO.ops (StepK.mkFn rfl rfl) ?_ | refine WO.ops (StepK.field rfl rfl) ?_ | refine WO.ops (StepK.lenStr rfl) ?_ | refine WO.ops (StepK.min2 rfl rfl) ?_ | refine WO.ops (StepK.max2 rfl rfl) ?_ | refine WO.ops (StepK.load1 rfl (by first | with_reducible assumption | rfl)) ?_ | refine WO.run rfl ?_ | refine WO.skip rfl rfl ?_ | refine WO.skipu rfl ?_))
    exact WO.nil (WC.ret ⟨trivial, g.trans g4, rfl⟩)
  have hc := of_decide_eq_false hc
  have hlr : R.length < 4611686018427387904 := by omega
  refine WO.ops (StepK.mv rfl) ?_
  refine WO.call rfl rfl (own_ans hS (f := 9) (by decide) (show C.F 9 = some a9 by rw [hT]; rfl) h2 g.wf x R (hx.grow g) (by omega)) ?_
  rintro z h3 ⟨hz, g3⟩
  have hz := hz.sl
  have g3 := g.trans g3
  (repeat (first | refine WO.ops (StepK.mv rfl) ?_ | refine WO.ops (StepK.lenSl rfl (by first | with_reducible assumption | rfl)) ?_ | refine WO.ops (StepK.fieldAddr rfl) ?_ | refine WO.ops (StepK.add rfl rfl (by omega)) ?_ | refine WO.ops (StepK.sub rfl rfl (by omega)) ?_ | refine WO.ops (StepK.bin rfl rfl rfl) ?_ | refine WO.ops (StepK.pickT rfl rfl) ?_ | refine WO.ops (StepK.pickF rfl rfl) ?_ | refine WO.ops (StepK.not rfl) ?_ | refine WO.ops (StepK.eq rfl rfl rfl) ?_ | refine WO.ops (StepK.extract rfl rfl) ?_ | refine WO.ops (StepK.build rfl rfl) ?_ | refine WO.ops (StepK.mkFn rfl rfl) ?_ | refine WO.ops (StepK.field rfl rfl) ?_ | refine WO.ops (StepK.lenStr rfl) ?_ | refine WO.ops (StepK.min2 rfl rfl) ?_ | refine WO.ops (StepK.max2 rfl rfl) ?_ | refine WO.ops (StepK.load1 rfl (by first | with_reducible assumption | rfl)) ?_ | refine WO.run rfl ?_ | refine WO.skip rfl rfl ?_ | refine WO.skipu rfl ?_))
  refine WO.nil (WC.seqO ?_)
  refine WO.ops (StepK.mv rfl) ?_
  refine WO.ops (StepK.mv rfl) ?_
  refine WO.ops (StepK.build (cs := rn (n, 1)) rfl rfl) ?_
  refine WO.call rfl rfl (give_ans hS (show C.F 22 = some a22 by rw [hT]; rfl) hT h3 g3.wf z R (n, 1) hz hb (by simp) (by omega)) ?_
  rintro v h4 ⟨u, rfl, hu, g4⟩
  have hz := hz.grow g4
  have g4 := g3.trans g4
  (repeat (first | refine WO.ops (StepK.mv rfl) ?_ | refine WO.ops (StepK.lenSl rfl (by first | with_reducible assumption | rfl)) ?_ | refine WO.ops (StepK.fieldAddr rfl) ?_ | refine WO.ops (StepK.add rfl rfl (by omega)) ?_ | refine WO.ops (StepK.sub rfl rfl (by omega)) ?_ | refine WO.ops (StepK.bin rfl rfl rfl) ?_ | refine WO.ops (StepK.pickT rfl rfl) ?_ | refine WO.ops (StepK.pickF rfl rfl) ?_ | refine WO.ops (StepK.not rfl) ?_ | refine WO.ops (StepK.eq rfl rfl rfl) ?_ | refine WO.ops (StepK.extract rfl rfl) ?_ | refine WO.ops (StepK.build rfl rfl) ?_ | refine WO.ops (StepK.mkFn rfl rfl) ?_ | refine WO.ops (StepK.field rfl rfl) ?_ | refine WO.ops (StepK.lenStr rfl) ?_ | refine WO.ops (StepK.min2 rfl rfl) ?_ | refine WO.ops (StepK.max2 rfl rfl) ?_ | refine WO.ops (StepK.load1 rfl (by first | with_reducible assumption | rfl)) ?_ | refine WO.run rfl ?_ | refine WO.skip rfl rfl ?_ | refine WO.skipu rfl ?_))
  refine WO.nil (WC.seq (WC.seqO ?_))
  refine WO.ops (StepK.mv rfl) ?_
  refine WO.call rfl rfl (may_ans hS (show C.F 10 = some a10 by rw [hT]; rfl) (show C.F 24 = some a24 by rw [hT]; rfl) h4 g4.wf z R hz hb hlr) ?_
  rintro v h5 ⟨rfl, g5⟩
  have hz := hz.grow g5
  have hu := hu.grow g5
  have g5 := g4.trans g5
  have hul : slLen u = some (giveF R (n, 1)).1.length := by rw [hu.len, List.length_map]
  have hno := giveF_no (R := R) (r := (n, 1))
  have hov := give_over (R := R) (p := n)
  have hmf : mayF (-1) R = false → (giveF R (n, 1)).2 = false := by intro q; rw [giveF, if_pos (.inl q)]
  generalize (giveF R (n, 1)).2 = gv at *
  generalize (giveF R (n, 1)).1 = out at *
  (repeat (first | refine WO.ops (StepK.mv rfl) ?_ | refine WO.ops (StepK.lenSl rfl (by first | with_reducible assumption | rfl)) ?_ | refine WO.ops (StepK.fieldAddr rfl) ?_ | refine WO.ops (StepK.add rfl rfl (by omega)) ?_ | refine WO.ops (StepK.sub rfl rfl (by omega)) ?_ | refine WO.ops (StepK.bin rfl rfl rfl) ?_ | refine WO.ops (StepK.pickT rfl rfl) ?_ | refine WO.ops (StepK.pickF rfl rfl) ?_ | refine WO.ops (StepK.not rfl) ?_ | refine WO.ops (StepK.eq rfl rfl rfl) ?_ | refine WO.ops (StepK.extract rfl rfl) ?_ | refine WO.ops (StepK.build rfl rfl) ?_ | refine WO.ops (StepK.mkFn rfl rfl) ?_ | refine WO.ops (StepK.field rfl rfl) ?_ | refine WO.ops (StepK.lenStr rfl) ?_ | refine WO.ops (StepK.min2 rfl rfl) ?_ | refine WO.ops (StepK.max2 rfl rfl) ?_ | refine WO.ops (StepK.load1 rfl (by first | with_reducible assumption | rfl)) ?_ | refine WO.run rfl ?_ | refine WO.skip rfl rfl ?_ | refine WO.skipu rfl ?_))
  refine WO.nil (WC.cond rfl (fun hc1 => ?_) (fun hc1 => WC.skip (WC.seqO ?_)))
  · have hm : mayF (-1) R = false := by simpa using hc1
    obtain rfl := hmf hm
    obtain rfl := hno rfl
    have ht : totF R = 0 := by rw [totF, if_neg (by rw [hm]; simp)]
    have hh : hasF R n = false := by rw [hasF, hm]; rfl
    refine WC.seqO ?_
    (repeat (first | refine WO.ops (StepK.mv rfl) ?_ | refine WO.ops (StepK.lenSl rfl (by first | with_reducible assumption | rfl)) ?_ | refine WO.ops (StepK.fieldAddr rfl) ?_ | refine WO.ops (StepK.add rfl rfl (by omega)) ?_ | refine WO.ops (StepK.sub rfl rfl (by omega)) ?_ | refine WO.ops (StepK.bin rfl rfl rfl) ?_ | refine WO.ops (StepK.pickT rfl rfl) ?_ | refine WO.ops (StepK.pickF rfl rfl) ?_ | refine WO.ops (StepK.not rfl) ?_ | refine WO.ops (StepK.eq rfl rfl rfl) ?_ | refine WO.ops (StepK.extract rfl rfl) ?_ | refine WO.ops (StepK.build rfl rfl) ?_ | refine WO.ops (StepK.mkFn rfl rfl) ?_ | refine WO.ops (StepK.field rfl rfl) ?_ | refine WO.ops (StepK.lenStr rfl) ?_ | refine WO.ops (StepK.min2 rfl rfl) ?_ | refine WO.ops (StepK.max2 rfl rfl) ?_ | refine WO.ops (StepK.load1 rfl (by first | with_reducible assumption | rfl)) ?_ | refine WO.run rfl ?_ | refine WO.skip rfl rfl ?_ | refine WO.skipu rfl ?_))
    refine WO.call rfl rfl (total_ans hS (show C.F 12 = some a12 by rw [hT]; rfl) (show C.F 10 = some a10 by rw [hT]; rfl) (show C.F 24 = some a24 by rw [hT]; rfl) h5 g5.wf z R hz hb hlr) ?_
    rintro v h6 ⟨rfl, g6⟩
    have hz := hz.grow g6
    have g6 := g5.trans g6
    rw [ht]
    (repeat (first | refine WO.ops (StepK.mv rfl) ?_ | refine WO.ops (StepK.lenSl rfl (by first | with_reducible assumption | rfl)) ?_ | refine WO.ops (StepK.fieldAddr rfl) ?_ | refine WO.ops (StepK.add rfl rfl (by omega)) ?_ | refine WO.ops (StepK.sub rfl rfl (by omega)) ?_ | refine WO.ops (StepK.bin rfl rfl rfl) ?_ | refine WO.ops (StepK.pickT rfl rfl) ?_ | refine WO.ops (StepK.pickF rfl rfl) ?_ | refine WO.ops (StepK.not rfl) ?_ | refine WO.ops (StepK.eq rfl rfl rfl) ?_ | refine WO.ops (StepK.extract rfl rfl) ?_ | refine WO.ops (StepK.build rfl rfl) ?_ | refine WO.ops (StepK.mkFn rfl rfl) ?_ | refine WO.ops (StepK.field rfl rfl) ?_ | refine WO.ops (StepK.lenStr rfl) ?_ | refine WO.ops (StepK.min2 rfl rfl) ?_ | refine WO.ops (StepK.max2 rfl rfl) ?_ | refine WO.ops (StepK.load1 rfl (by first | with_reducible assumption | rfl)) ?_ | refine WO.run rfl ?_ | refine WO.skip rfl rfl ?_ | refine WO.skipu rfl ?_))
    refine WO.call rfl rfl (has_ans hS (show C.F 14 = some a14 by rw [hT]; rfl) (show C.F 10 = some a10 by rw [hT]; rfl) (show C.F 24 = some a24 by rw [hT]; rfl) (show C.F 25 = some a25 by rw [hT]; rfl) (show C.F 26 = some a26 by rw [hT]; rfl) (show C.F 27 = some a27 by rw [hT]; rfl) h6 g6.wf z R n hz hb hlr) ?_
    rintro v h7 ⟨rfl, g7⟩
    have g7 := g6.trans g7
    rw [hh]
    (repeat (first | refine WO.ops (StepK.mv rfl) ?_ | refine WO.ops (StepK.lenSl rfl (by first | with_reducible assumption | rfl)) ?_ | refine WO.ops (StepK.fieldAddr rfl) ?_ | refine WO.ops (StepK.add rfl rfl (by omega)) ?_ | refine WO.ops (StepK.sub rfl rfl (by omega)) ?_ | refine WO.ops (StepK.bin rfl rfl rfl) ?_ | refine WO.ops (StepK.pickT rfl rfl) ?_ | refine WO.ops (StepK.pickF rfl rfl) ?_ | refine WO.ops (StepK.not rfl) ?_ | refine WO.ops (StepK.eq rfl rfl rfl) ?_ | refine WO.ops (StepK.extract rfl rfl) ?_ | refine WO.ops (StepK.build rfl rfl) ?_ | refine WO.ops (StepK.mkFn rfl rfl) ?_ | refine WO.ops (StepK.field rfl rfl) ?_ | refine WO.ops (StepK.lenStr rfl) ?_ | refine WO.ops (StepK.min2 rfl rfl) ?_ | refine WO.ops (StepK.max2 rfl rfl) ?_ | refine WO.ops (StepK.load1 rfl (by first | with_reducible assumption | rfl)) ?_ | refine WO.run rfl ?_ | refine WO.skip rfl rfl ?_ | refine WO.skipu rfl ?_))
    refine WO.call rfl rfl (hlive h7 g7.wf) ?_
    rintro v h8 ⟨rfl, g8⟩
    (repeat (first | refine WO.ops (StepK.mv rfl) ?_ | refine WO.ops (StepK.lenSl rfl (by first | with_reducible assumption | rfl)) ?_ | refine WO.ops (StepK.fieldAddr rfl) ?_ | refine WO.ops (StepK.add rfl rfl (by omega)) ?_ | refine WO.ops (StepK.sub rfl rfl (by omega)) ?_ | refine WO.ops (StepK.bin rfl rfl rfl) ?_ | refine WO.ops (StepK.pickT rfl rfl) ?_ | refine WO.ops (StepK.pickF rfl rfl) ?_ | refine WO.ops (StepK.not rfl) ?_ | refine WO.ops (StepK.eq rfl rfl rfl) ?_ | refine WO.ops (StepK.extract rfl rfl) ?_ | refine WO.ops (StepK.build rfl rfl) ?_ | refine WO.ops (StepK.mkFn rfl rfl) ?_ | refine WO.ops (StepK.field rfl rfl) ?_ | refine WO.ops (StepK.lenStr rfl) ?_ | refine WO.ops (StepK.min2 rfl rfl) ?_ | refine WO.ops (StepK.max2 rfl rfl) ?_ | refine WO.ops (StepK.load1 rfl (by first | with_reducible assumption | rfl)) ?_ | refine WO.run rfl ?_ | refine WO.skip rfl rfl ?_ | refine WO.skipu rfl ?_))
    exact WO.nil (WC.ret ⟨trivial, g7.trans g8, rfl⟩)
  (repeat (first | refine WO.ops (StepK.mv rfl) ?_ | refine WO.ops (StepK.lenSl rfl (by first | with_reducible assumption | rfl)) ?_ | refine WO.ops (StepK.fieldAddr rfl) ?_ | refine WO.ops (StepK.add rfl rfl (by omega)) ?_ | refine WO.ops (StepK.sub rfl rfl (by omega)) ?_ | refine WO.ops (StepK.bin rfl rfl rfl) ?_ | refine WO.ops (StepK.pickT rfl rfl) ?_ | refine WO.ops (StepK.pickF rfl rfl) ?_ | refine WO.ops (StepK.not rfl) ?_ | refine WO.ops (StepK.eq rfl rfl rfl) ?_ | refine WO.ops (StepK.extract rfl rfl) ?_ | refine WO.ops (StepK.build rfl rfl) ?_ | refine WO.ops (StepK.mkFn rfl rfl) ?_ | refine WO.ops (StepK.field rfl rfl) ?_ | refine WO.ops (StepK.lenStr rfl) ?_ | refine WO.ops (StepK.min2 rfl rfl) ?_ | refine WO.ops (StepK.max2 rfl rfl) ?_ | refine WO.ops (StepK.load1 rfl (by first | with_reducible assumption | rfl)) ?_ | refine WO.run rfl ?_ | refine WO.skip rfl rfl ?_ | refine WO.skipu rfl ?_))
  refine WO.call rfl rfl (has_ans hS (show C.F 14 = some a14 by rw [hT]; rfl) (show C.F 10 = some a10 by rw [hT]; rfl) (show C.F 24 = some a24 by rw [hT]; rfl) (show C.F 25 = some a25 by rw [hT]; rfl) (show C.F 26 = some a26 by rw [hT]; rfl) (show C.F 27 = some a27 by rw [hT]; rfl) h5 g5.wf z R n hz hb hlr) ?_
  rintro v h6 ⟨rfl, g6⟩
  have g6 := g5.trans g6
  have hbox : hasF R n = false ∨ gv = false := by
    cases hh : hasF R n with
    | false => exact .inl rfl
    | true => exact .inr (hov hh)
  generalize hasF R n = hs at *
  cases gv with
  | true =>
    have : hs = false := by simpa using hbox
    subst this
    (repeat (first | refine WO.ops (StepK.mv rfl) ?_ | refine WO.ops (StepK.lenSl rfl (by first | with_reducible assumption | rfl)) ?_ | refine WO.ops (StepK.fieldAddr rfl) ?_ | refine WO.ops (StepK.add rfl rfl (by omega)) ?_ | refine WO.ops (StepK.sub rfl rfl (by omega)) ?_ | refine WO.ops (StepK.bin rfl rfl rfl) ?_ | refine WO.ops (StepK.pickT rfl rfl) ?_ | refine WO.ops (StepK.pickF rfl rfl) ?_ | refine WO.ops (StepK.not rfl) ?_ | refine WO.ops (StepK.eq rfl rfl rfl) ?_ | refine WO.ops (StepK.extract rfl rfl) ?_ | refine WO.ops (StepK.build rfl rfl) ?_ | refine WO.ops (StepK.mkFn rfl rfl) ?_ | refine WO.ops (StepK.field rfl rfl) ?_ | refine WO.ops (StepK.lenStr rfl) ?_ | refine WO.ops (StepK.min2 rfl rfl) ?_ | refine WO.ops (StepK.max2 rfl rfl) ?_ | refine WO.ops (StepK.load1 rfl (by first | with_reducible assumption | rfl)) ?_ | refine WO.run rfl ?_ | refine WO.skip rfl rfl ?_ | refine WO.skipu rfl ?_))
    refine WO.call rfl rfl (hlive h6 g6.wf) ?_
    rintro v h7 ⟨rfl, g7⟩
    (repeat (first | refine WO.ops (StepK.mv rfl) ?_ | refine WO.ops (StepK.lenSl rfl (by first | with_reducible assumption | rfl)) ?_ | refine WO.ops (StepK.fieldAddr rfl) ?_ | refine WO.ops (StepK.add rfl rfl (by omega)) ?_ | refine WO.ops (StepK.sub rfl rfl (by omega)) ?_ | refine WO.ops (StepK.bin rfl rfl rfl) ?_ | refine WO.ops (StepK.pickT rfl rfl) ?_ | refine WO.ops (StepK.pickF rfl rfl) ?_ | refine WO.ops (StepK.not rfl) ?_ | refine WO.ops (StepK.eq rfl rfl rfl) ?_ | refine WO.ops (StepK.extract rfl rfl) ?_ | refine WO.ops (StepK.build rfl rfl) ?_ | refine WO.ops (StepK.mkFn rfl rfl) ?_ | refine WO.ops (StepK.field rfl rfl) ?_ | refine WO.ops (StepK.lenStr rfl) ?_ | refine WO.ops (StepK.min2 rfl rfl) ?_ | refine WO.ops (StepK.max2 rfl rfl) ?_ | refine WO.ops (StepK.load1 rfl (by first | with_reducible assumption | rfl)) ?_ | refine WO.run rfl ?_ | refine WO.skip rfl rfl ?_ | refine WO.skipu rfl ?_))
    exact WO.nil (WC.ret ⟨trivial, g6.trans g7, rfl⟩)
  | false =>
    obtain rfl := hno rfl
    cases hs with
    | false =>
      (repeat (first | refine WO.ops (StepK.mv rfl) ?_ | refine WO.ops (StepK.lenSl rfl (by first | with_reducible assumption | rfl)) ?_ | refine WO.ops (StepK.fieldAddr rfl) ?_ | refine WO.ops (StepK.add rfl rfl (by omega)) ?_ | refine WO.ops (StepK.sub rfl rfl (by omega)) ?_ | refine WO.ops (StepK.bin rfl rfl rfl) ?_ | refine WO.ops (StepK.pickT rfl rfl) ?_ | refine WO.ops (StepK.pickF rfl rfl) ?_ | refine WO.ops (StepK.not rfl) ?_ | refine WO.ops (StepK.eq rfl rfl rfl) ?_ | refine WO.ops (StepK.extract rfl rfl) ?_ | refine WO.ops (StepK.build rfl rfl) ?_ | refine WO.ops (StepK.mkFn rfl rfl) ?_ | refine WO.ops (StepK.field rfl rfl) ?_ | refine WO.ops (StepK.lenStr rfl) ?_ | refine WO.ops (StepK.min2 rfl rfl) ?_ | refine WO.ops (StepK.max2 rfl rfl) ?_ | refine WO.ops (StepK.load1 rfl (by first | with_reducible assumption | rfl)) ?_ | refine WO.run rfl ?_ | refine WO.skip rfl rfl ?_ | refine WO.skipu rfl ?_))
      refine WO.call rfl rfl (hlive h6 g6.wf) ?_
      rintro v h7 ⟨rfl, g7⟩
      (repeat (first | refine WO.ops (StepK.mv rfl) ?_ | refine WO.ops (StepK.lenSl rfl (by first | with_reducible assumption | rfl)) ?_ | refine WO.ops (StepK.fieldAddr rfl) ?_ | refine WO.ops (StepK.add rfl rfl (by omega)) ?_ | refine WO.ops (StepK.sub rfl rfl (by omega)) ?_ | refine WO.ops (StepK.bin rfl rfl rfl) ?_ | refine WO.ops (StepK.pickT rfl rfl) ?_ | refine WO.ops (StepK.pickF rfl rfl) ?_ | refine WO.ops (StepK.not rfl) ?_ | refine WO.ops (StepK.eq rfl rfl rfl) ?_ | refine WO.ops (StepK.extract rfl rfl) ?_ | refine WO.ops (StepK.build rfl rfl) ?_ | refine WO.ops (StepK.mkFn rfl rfl) ?_ | refine WO.ops (StepK.field rfl rfl) ?_ | refine WO.ops (StepK.lenStr rfl) ?_ | refine WO.ops (StepK.min2 rfl rfl) ?_ | refine WO.ops (StepK.max2 rfl rfl) ?_ | refine WO.ops (StepK.load1 rfl (by first | with_reducible assumption | rfl)) ?_ | refine WO.run rfl ?_ | refine WO.skip rfl rfl ?_ | refine WO.skipu rfl ?_))
      exact WO.nil (WC.ret ⟨trivial, g6.trans g7, rfl⟩)
    | true =>
      (repeat (first | refine WO.ops (StepK.mv rfl) ?_ | refine WO.ops (StepK.lenSl rfl (by first | with_reducible assumption | rfl)) ?_ | refine WO.ops (StepK.fieldAddr rfl) ?_ | refine WO.ops (StepK.add rfl rfl (by omega)) ?_ | refine WO.ops (StepK.sub rfl rfl (by omega)) ?_ | refine WO.ops (StepK.bin rfl rfl rfl) ?_ | refine WO.ops (StepK.pickT rfl rfl) ?_ | refine WO.ops (StepK.pickF rfl rfl) ?_ | refine WO.ops (StepK.not rfl) ?_ | refine WO.ops (StepK.eq rfl rfl rfl) ?_ | refine WO.ops (StepK.extract rfl rfl) ?_ | refine WO.ops (StepK.build rfl rfl) ?_ | refine WO.ops (StepK.mkFn rfl rfl) ?_ | refine WO.ops (StepK.field rfl rfl) ?_ | refine WO.ops (StepK.lenStr rfl) ?_ | refine WO.ops (StepK.min2 rfl rfl) ?_ | refine WO.ops (StepK.max2 rfl rfl) ?_ | refine WO.ops (StepK.load1 rfl (by first | with_reducible assumption | rfl)) ?_ | refine WO.run rfl ?_ | refine WO.skip rfl rfl ?_ | refine WO.skipu rfl ?_))
      refine WO.call rfl rfl (hlive h6 g6.wf) ?_
      rintro v h7 ⟨rfl, g7⟩
      (repeat (first | refine WO.ops (StepK.mv rfl) ?_ | refine WO.ops (StepK.lenSl rfl (by first | with_reducible assumption | rfl)) ?_ | refine WO.ops (StepK.fieldAddr rfl) ?_ | refine WO.ops (StepK.add rfl rfl (by omega)) ?_ | refine WO.ops (StepK.sub rfl rfl (by omega)) ?_ | refine WO.ops (StepK.bin rfl rfl rfl) ?_ | refine WO.ops (StepK.pickT rfl rfl) ?_ | refine WO.ops (StepK.pickF rfl rfl) ?_ | refine WO.ops (StepK.not rfl) ?_ | refine WO.ops (StepK.eq rfl rfl rfl) ?_ | refine WO.ops (StepK.extract rfl rfl) ?_ | refine WO.ops (StepK.build rfl rfl) ?_ | refine WO.ops (StepK.mkFn rfl rfl) ?_ | refine WO.ops (StepK.field rfl rfl) ?_ | refine WO.ops (StepK.lenStr rfl) ?_ | refine WO.ops (StepK.min2 rfl rfl) ?_ | refine WO.ops (StepK.max2 rfl rfl) ?_ | refine WO.ops (StepK.load1 rfl (by first | with_reducible assumption | rfl)) ?_ | refine WO.run rfl ?_ | refine WO.skip rfl rfl ?_ | refine WO.skipu rfl ?_))
      exact WO.nil (WC.ret ⟨trivial, g6.trans g7, rfl⟩)
end Abs
end Go.Proofs.Ytkdoemlhjhmfhaa
