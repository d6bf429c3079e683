/- Layer 7: SpaceTakes. -/
import Derived.Test.YtkdoemlhjhmfhaaC3
import Derived.Test.YtkdoemlhjhmfhaaC16
namespace Go.Proofs.Ytkdoemlhjhmfhaa
namespace Abs
set_option linter.unusedVariables false
set_option linter.unusedSimpArgs false
set_option maxHeartbeats 3200000
open Go.RowKit
attribute [local irreducible] WO WC WD StepK Ans Does Runs DoesD

theorem takeF_len (R : List (Int × Int)) (n : Int) : (takeF R n).2.1.length ≤ R.length + 1 := by
  unfold takeF
  split
  · simp
  · simp only
    split
    · simp
    · split
      · simp only [List.length_append, List.length_take, List.length_drop]
        split <;> simp <;> omega
      · simp
theorem refG_len : ∀ (R A : List (Int × Int)) (r : Int × Int) (B out : List (Int × Int)), refG A r B R = some out → out.length ≤ A.length + 1 + B.length + R.length
  | [], A, r, B, out, h => by simp only [refG] at h; cases h; simp; omega
  | s :: l, A, r, B, out, h => by
    simp only [refG] at h
    split at h
    · have := refG_len l _ _ _ _ h; simp at this ⊢; omega
    · split at h
      · have := refG_len l _ _ _ _ h; simp at this ⊢; omega
      · split at h
        · have := refG_len l _ _ _ _ h; simp at this ⊢; omega
        · split at h
          · have := refG_len l _ _ _ _ h; simp at this ⊢; omega
          · cases h
theorem giveF_len (R : List (Int × Int)) (r : Int × Int) : (giveF R r).1.length ≤ R.length + 1 := by
  unfold giveF
  split
  · simp
  · split
    · simp
    · rename_i out h
      have := refG_len _ _ _ _ _ h
      split
      · simp at this ⊢; omega
      · simp

theorem takes_ans {C : Cfg} (hS : ∀ f args h, f ≠ 8 → C.S f args h = none) (hT : C.F = tab) (hlive : ∀ h, Wf h → Ans C 8 [] h fun v h' => v = .bool true ∧ Grow h h') (h : Heap) (hw : Wf h) (x : V) (R : List (Int × Int)) (n : Int) (r : Int × Int) (hx : Sl h 2 x (R.map rn)) (hb : ∀ r ∈ R, -9223372036854775808 ≤ r.2 ∧ r.2 < 9223372036854775808) (hr : -9223372036854775808 ≤ r.2 ∧ r.2 < 9223372036854775808) : Ans C 4 [x, iv n, .agg (rn r)] h fun v h' => v = .bool true ∧ Grow h h' := by
  refine Ans.val (fun _ _ => hS _ _ _ (by decide)) (show C.F 4 = some a4 by rw [hT]; rfl) rfl rfl hw fun h2 g => ?_
  have hsr : slLen x = some R.length := by rw [hx.len, List.length_map]
  refine WC.seqO ?_
  refine WO.ops (StepK.box rfl) ?_
  have gp : Grow h2 (h2.push (.cells (rn r) (.tip [] 0))) := (Grow.refl g.wf).push _
  have hbox : (h2.push (.cells (rn r) (.tip [] 0))).get h2.size = some (.cells (rn r) (.tip [] 0)) := get_push_self _ _
  have g3 := g.trans gp
  show WO C _ _ (h2.push (.cells (rn r) (.tip [] 0))) _
  generalize h2.push (.cells (rn r) (.tip [] 0)) = h3 at *
  generalize h2.size = c at *
  (repeat (first | refine WO.ops (StepK.mv rfl) ?_ | refine WO.ops (StepK.lenSl rfl (by first | with_reducible assumption | rfl)) ?_ | refine WO.ops (StepK.fieldAddr rfl) ?_ | refine WO.ops (StepK.add rfl rfl (by omega)) ?_ | refine WO.ops (StepK.sub rfl rfl (by omega)) ?_ | refine WO.ops (StepK.bin rfl rfl rfl) ?_ | refine WO.ops (StepK.pickT rfl rfl) ?_ | refine WO.ops (StepK.pickF rfl rfl) ?_ | refine WO.ops (StepK.not rfl) ?_ | refine WO.ops (StepK.eq rfl rfl rfl) ?_ | refine WO.ops (StepK.extract rfl rfl) ?_ | refine WO.ops (StepK.build rfl rfl) ?_ | refine WO.ops (StepK.mkFn rfl rfl) ?_ | refine WO.ops (StepK.field rfl rfl) ?_ | refine WO.ops (StepK.lenStr rfl) ?_ | refine WO.ops (StepK.min2 rfl rfl) ?_ | refine WO.ops (StepK.max2 rfl rfl) ?_ | refine WO.ops (StepK.load1 rfl (by first | with_reducible assumption | rfl)) ?_ | refine WO.run rfl ?_ | refine WO.skip rfl rfl ?_ | refine WO.skipu rfl ?_))
  refine WO.nil (WC.seq (WC.seqO ?_))
  refine WO.ops (StepK.mv rfl) ?_
  refine WO.ops (StepK.lenSl rfl hsr) ?_
  (repeat (first | refine WO.ops (StepK.mv rfl) ?_ | refine WO.ops (StepK.lenSl rfl (by first | with_reducible assumption | rfl)) ?_ | refine WO.ops (StepK.fieldAddr rfl) ?_ | refine WO.ops (StepK.add rfl rfl (by omega)) ?_ | refine WO.ops (StepK.sub rfl rfl (by omega)) ?_ | refine WO.ops (StepK.bin rfl rfl rfl) ?_ | refine WO.ops (StepK.pickT rfl rfl) ?_ | refine WO.ops (StepK.pickF rfl rfl) ?_ | refine WO.ops (StepK.not rfl) ?_ | refine WO.ops (StepK.eq rfl rfl rfl) ?_ | refine WO.ops (StepK.extract rfl rfl) ?_ | refine WO.ops (StepK.build rfl rfl) ?_ | refine WO.ops (StepK.mkFn rfl rfl) ?_ | refine WO.ops (StepK.field rfl rfl) ?_ | refine WO.ops (StepK.lenStr rfl) ?_ | refine WO.ops (StepK.min2 rfl rfl) ?_ | refine WO.ops (StepK.max2 rfl rfl) ?_ | refine WO.ops (StepK.load1 rfl (by first | with_reducible assumption | rfl)) ?_ | refine WO.run rfl ?_ | refine WO.skip rfl rfl ?_ | refine WO.skipu rfl ?_))
  refine WO.nil (WC.cond rfl (fun hc => WC.seqO ?_) (fun hc => WC.skip (WC.seqO ?_)))
  · refine WO.call rfl rfl (hlive h3 g3.wf) ?_
    rintro v h4 ⟨rfl, g4⟩
    (repeat (first | refine WO.ops (StepK.mv rfl) ?_ | refine WO.ops (StepK.lenSl rfl (by first | with_reducible assumption | rfl)) ?_ | refine WO.ops (StepK.fieldAddr rfl) ?_ | refine WO.ops (StepK.add rfl rfl (by omega)) ?_ | refine WO.ops (StepK.sub rfl rfl (by omega)) ?_ | refine WO.ops (StepK.bin rfl rfl rfl) ?_ | refine WO.ops (StepK.pickT rfl rfl) ?_ | refine WO.ops (StepK.pickF rfl rfl) ?_ | refine WO.ops (StepK.not rfl) ?_ | refine WO.ops (StepK.eq rfl rfl rfl) ?_ | refine WO.ops (StepK.extract rfl rfl) ?_ | refine WO.ops (StepK.build rfl rfl) ?_ | refine WO.ops (StepK.mkFn rfl rfl) ?_ | refine WO.ops (StepK.field rfl rfl) ?_ | refine WO.ops (StepK.lenStr rfl) ?_ | refine WO.ops (StepK.min2 rfl rfl) ?_ | refine WO.ops (StepK.max2 rfl rfl) ?_ | refine WO.ops (StepK.load1 rfl (by first | with_reducible assumption | rfl)) ?_ | refine WO.run rfl ?_ | refine WO.skip rfl rfl ?_ | refine WO.skipu rfl ?_))
    exact WO.nil (WC.ret ⟨trivial, g3.trans g4, rfl⟩)
  have hc := of_decide_eq_false hc
  refine WO.ops (StepK.mv rfl) ?_
  refine WO.call rfl rfl (own_ans hS (f := 9) (by decide) (show C.F 9 = some a9 by rw [hT]; rfl) h3 g3.wf x R (hx.grow g3) (by omega)) ?_
  rintro z h4 ⟨hz, g4⟩
  have hz := hz.sl
  have hbox := g4.ext _ _ hbox
  have g4 := g3.trans g4
  (repeat (first | refine WO.ops (StepK.mv rfl) ?_ | refine WO.ops (StepK.lenSl rfl (by first | with_reducible assumption | rfl)) ?_ | refine WO.ops (StepK.fieldAddr rfl) ?_ | refine WO.ops (StepK.add rfl rfl (by omega)) ?_ | refine WO.ops (StepK.sub rfl rfl (by omega)) ?_ | refine WO.ops (StepK.bin rfl rfl rfl) ?_ | refine WO.ops (StepK.pickT rfl rfl) ?_ | refine WO.ops (StepK.pickF rfl rfl) ?_ | refine WO.ops (StepK.not rfl) ?_ | refine WO.ops (StepK.eq rfl rfl rfl) ?_ | refine WO.ops (StepK.extract rfl rfl) ?_ | refine WO.ops (StepK.build rfl rfl) ?_ | refine WO.ops (StepK.mkFn rfl rfl) ?_ | refine WO.ops (StepK.field rfl rfl) ?_ | refine WO.ops (StepK.lenStr rfl) ?_ | refine WO.ops (StepK.min2 rfl rfl) ?_ | refine WO.ops (StepK.max2 rfl rfl) ?_ | refine WO.ops (StepK.load1 rfl (by first | with_reducible assumption | rfl)) ?_ | refine WO.run rfl ?_ | refine WO.skip rfl rfl ?_ | refine WO.skipu rfl ?_))
  refine WO.call rfl rfl (take_ans hS (show C.F 20 = some a20 by rw [hT]; rfl) hT h4 g4.wf z R n hz hb (by omega)) ?_
  rintro v h5 ⟨u, rfl, hu, g5⟩
  have hbox := g5.ext _ _ hbox
  have g5 := g4.trans g5
  (repeat (first | refine WO.ops (StepK.mv rfl) ?_ | refine WO.ops (StepK.lenSl rfl (by first | with_reducible assumption | rfl)) ?_ | refine WO.ops (StepK.fieldAddr rfl) ?_ | refine WO.ops (StepK.add rfl rfl (by omega)) ?_ | refine WO.ops (StepK.sub rfl rfl (by omega)) ?_ | refine WO.ops (StepK.bin rfl rfl rfl) ?_ | refine WO.ops (StepK.pickT rfl rfl) ?_ | refine WO.ops (StepK.pickF rfl rfl) ?_ | refine WO.ops (StepK.not rfl) ?_ | refine WO.ops (StepK.eq rfl rfl rfl) ?_ | refine WO.ops (StepK.extract rfl rfl) ?_ | refine WO.ops (StepK.build rfl rfl) ?_ | refine WO.ops (StepK.mkFn rfl rfl) ?_ | refine WO.ops (StepK.field rfl rfl) ?_ | refine WO.ops (StepK.lenStr rfl) ?_ | refine WO.ops (StepK.min2 rfl rfl) ?_ | refine WO.ops (StepK.max2 rfl rfl) ?_ | refine WO.ops (StepK.load1 rfl (by first | with_reducible assumption | rfl)) ?_ | refine WO.run rfl ?_ | refine WO.skip rfl rfl ?_ | refine WO.skipu rfl ?_))
  refine WO.nil (WC.seqO ?_)
  (repeat (first | refine WO.ops (StepK.mv rfl) ?_ | refine WO.ops (StepK.lenSl rfl (by first | with_reducible assumption | rfl)) ?_ | refine WO.ops (StepK.fieldAddr rfl) ?_ | refine WO.ops (StepK.add rfl rfl (by omega)) ?_ | refine WO.ops (StepK.sub rfl rfl (by omega)) ?_ | refine WO.ops (StepK.bin rfl rfl rfl) ?_ | refine WO.ops (StepK.pickT rfl rfl) ?_ | refine WO.ops (StepK.pickF rfl rfl) ?_ | refine WO.ops (StepK.not rfl) ?_ | refine WO.ops (StepK.eq rfl rfl rfl) ?_ | refine WO.ops (StepK.extract rfl rfl) ?_ | refine WO.ops (StepK.build rfl rfl) ?_ | refine WO.ops (StepK.mkFn rfl rfl) ?_ | refine WO.ops (StepK.field rfl rfl) ?_ | refine WO.ops (StepK.lenStr rfl) ?_ | refine WO.ops (StepK.min2 rfl rfl) ?_ | refine WO.ops (StepK.max2 rfl rfl) ?_ | refine WO.ops (StepK.load1 rfl (by first | with_reducible assumption | rfl)) ?_ | refine WO.run rfl ?_ | refine WO.skip rfl rfl ?_ | refine WO.skipu rfl ?_))
  refine WO.call rfl rfl (refTake_ans hS (show C.F 21 = some a21 by rw [hT]; rfl) hT h5 g5.wf x R n (hx.grow g5) hb (by omega)) ?_
  rintro v h6 ⟨u2, rfl, hu2, g6⟩
  have hbox := g6.ext _ _ hbox
  have hu := hu.grow g6
  have g6 := g5.trans g6
  (repeat (first | refine WO.ops (StepK.mv rfl) ?_ | refine WO.ops (StepK.lenSl rfl (by first | with_reducible assumption | rfl)) ?_ | refine WO.ops (StepK.fieldAddr rfl) ?_ | refine WO.ops (StepK.add rfl rfl (by omega)) ?_ | refine WO.ops (StepK.sub rfl rfl (by omega)) ?_ | refine WO.ops (StepK.bin rfl rfl rfl) ?_ | refine WO.ops (StepK.pickT rfl rfl) ?_ | refine WO.ops (StepK.pickF rfl rfl) ?_ | refine WO.ops (StepK.not rfl) ?_ | refine WO.ops (StepK.eq rfl rfl rfl) ?_ | refine WO.ops (StepK.extract rfl rfl) ?_ | refine WO.ops (StepK.build rfl rfl) ?_ | refine WO.ops (StepK.mkFn rfl rfl) ?_ | refine WO.ops (StepK.field rfl rfl) ?_ | refine WO.ops (StepK.lenStr rfl) ?_ | refine WO.ops (StepK.min2 rfl rfl) ?_ | refine WO.ops (StepK.max2 rfl rfl) ?_ | refine WO.ops (StepK.load1 rfl (by first | with_reducible assumption | rfl)) ?_ | refine WO.run rfl ?_ | refine WO.skip rfl rfl ?_ | refine WO.skipu rfl ?_))
  refine WO.nil (WC.seqD ?_)
  have w0 : h6.rd c (0 + 0) = some (iv r.1) := rd_get hbox rfl
  have w1 : h6.rd c (0 + 1) = some (iv r.2) := rd_get hbox rfl
  refine WD.pure (StepK.mv rfl) rfl ?_
  refine WD.pure (StepK.fieldAddr rfl) rfl ?_
  refine WD.load1 rfl w0 ?_
  refine WD.pure (StepK.fieldAddr rfl) rfl ?_
  refine WD.load1 rfl w1 ?_
  refine WD.pure (StepK.build (cs := rn r) rfl rfl) rfl ?_
  refine WD.call ⟨w1, w0, trivial⟩ rfl rfl (own_ans hS (f := 9) (by decide) (show C.F 9 = some a9 by rw [hT]; rfl) h6 g6.wf x R (hx.grow g6) (by omega)) ?_
  rintro z2 h7 ⟨hz2, g7⟩
  have hz2 := hz2.sl
  have w0 := g7.rd w0
  have w1 := g7.rd w1
  have hbox := g7.ext _ _ hbox
  have hu := hu.grow g7
  have hu2 := hu2.grow g7
  have g7 := g6.trans g7
  refine WD.call ⟨w1, w0, trivial⟩ rfl rfl (give_ans hS (show C.F 22 = some a22 by rw [hT]; rfl) hT h7 g7.wf z2 R r hz2 hb hr (by omega)) ?_
  rintro v h8 ⟨u3, rfl, hu3, g8⟩
  have hbox := g8.ext _ _ hbox
  have hu := hu.grow g8
  have hu2 := hu2.grow g8
  have g8 := g7.trans g8
  (repeat (first | refine WD.pure (StepK.mv rfl) rfl ?_ | refine WD.pure (StepK.lenSl rfl (by first | with_reducible assumption | rfl)) rfl ?_ | refine WD.pure (StepK.fieldAddr rfl) rfl ?_ | refine WD.pure (StepK.add rfl rfl (by omega)) rfl ?_ | refine WD.pure (StepK.sub rfl rfl (by omega)) rfl ?_ | refine WD.pure (StepK.bin rfl rfl rfl) rfl ?_ | refine WD.pure (StepK.pickT rfl rfl) rfl ?_ | refine WD.pure (StepK.pickF rfl rfl) rfl ?_ | refine WD.pure (StepK.not rfl) rfl ?_ | refine WD.pure (StepK.eq rfl rfl rfl) rfl ?_ | refine WD.pure (StepK.extract rfl rfl) rfl ?_ | refine WD.pure (StepK.build rfl rfl) rfl ?_ | refine WD.pure (StepK.mkFn rfl rfl) rfl ?_ | refine WD.pure (StepK.field rfl rfl) rfl ?_ | refine WD.pure (StepK.lenStr rfl) rfl ?_ | refine WD.pure (StepK.min2 rfl rfl) rfl ?_ | refine WD.pure (StepK.max2 rfl rfl) rfl ?_ | refine WD.load1 rfl (by first | with_reducible assumption | rfl) ?_ | refine WD.run rfl ?_ | refine WD.skipn rfl rfl rfl ?_ | refine WD.skipun rfl rfl ?_))
  refine WD.nil trivial (WC.seqO ?_)
  have r2 : h8.rds c 0 2 = some (rn r) := rds_all hbox rfl
  refine WO.ops (StepK.mv rfl) ?_
  refine WO.ops (StepK.loadN rfl r2) ?_
  refine WO.call rfl rfl (refGive_ans hS (show C.F 23 = some a23 by rw [hT]; rfl) hT h8 g8.wf x R r (hx.grow g8) hb hr (by omega)) ?_
  rintro v h9 ⟨u4, rfl, hu4, g9⟩
  have hu := hu.grow g9
  have hu2 := hu2.grow g9
  have hu3 := hu3.grow g9
  have g9 := g8.trans g9
  (repeat (first | refine WO.ops (StepK.mv rfl) ?_ | refine WO.ops (StepK.lenSl rfl (by first | with_reducible assumption | rfl)) ?_ | refine WO.ops (StepK.fieldAddr rfl) ?_ | refine WO.ops (StepK.add rfl rfl (by omega)) ?_ | refine WO.ops (StepK.sub rfl rfl (by omega)) ?_ | refine WO.ops (StepK.bin rfl rfl rfl) ?_ | refine WO.ops (StepK.pickT rfl rfl) ?_ | refine WO.ops (StepK.pickF rfl rfl) ?_ | refine WO.ops (StepK.not rfl) ?_ | refine WO.ops (StepK.eq rfl rfl rfl) ?_ | refine WO.ops (StepK.extract rfl rfl) ?_ | refine WO.ops (StepK.build rfl rfl) ?_ | refine WO.ops (StepK.mkFn rfl rfl) ?_ | refine WO.ops (StepK.field rfl rfl) ?_ | refine WO.ops (StepK.lenStr rfl) ?_ | refine WO.ops (StepK.min2 rfl rfl) ?_ | refine WO.ops (StepK.max2 rfl rfl) ?_ | refine WO.ops (StepK.load1 rfl (by first | with_reducible assumption | rfl)) ?_ | refine WO.run rfl ?_ | refine WO.skip rfl rfl ?_ | refine WO.skipu rfl ?_))
  refine WO.nil (WC.seqO ?_)
  have e1 : ∀ m : Int, binA .eql (iv m) (iv m) = some (.bool true) := by intro m; simp [binA]
  have e2 : ∀ t : Bool, eqA (.flat .bool) (.bool t) (.bool t) = some true := by intro t; simp [eqA, flatEq]
  have l1 := takeF_len R n
  have l2 := giveF_len R r
  refine WO.ops (StepK.mv rfl) ?_
  refine WO.ops (StepK.mv rfl) ?_
  refine WO.ops (StepK.bin rfl rfl (e1 _)) ?_
  (repeat (first | refine WO.ops (StepK.mv rfl) ?_ | refine WO.ops (StepK.lenSl rfl (by first | with_reducible assumption | rfl)) ?_ | refine WO.ops (StepK.fieldAddr rfl) ?_ | refine WO.ops (StepK.add rfl rfl (by omega)) ?_ | refine WO.ops (StepK.sub rfl rfl (by omega)) ?_ | refine WO.ops (StepK.bin rfl rfl rfl) ?_ | refine WO.ops (StepK.pickT rfl rfl) ?_ | refine WO.ops (StepK.pickF rfl rfl) ?_ | refine WO.ops (StepK.not rfl) ?_ | refine WO.ops (StepK.eq rfl rfl rfl) ?_ | refine WO.ops (StepK.extract rfl rfl) ?_ | refine WO.ops (StepK.build rfl rfl) ?_ | refine WO.ops (StepK.mkFn rfl rfl) ?_ | refine WO.ops (StepK.field rfl rfl) ?_ | refine WO.ops (StepK.lenStr rfl) ?_ | refine WO.ops (StepK.min2 rfl rfl) ?_ | refine WO.ops (StepK.max2 rfl rfl) ?_ | refine WO.ops (StepK.load1 rfl (by first | with_reducible assumption | rfl)) ?_ | refine WO.run rfl ?_ | refine WO.skip rfl rfl ?_ | refine WO.skipu rfl ?_))
  refine WO.call rfl rfl (own_ans hS (f := 17) (by decide) (show C.F 17 = some a9 by rw [hT]; rfl) h9 g9.wf u _ hu (by omega)) ?_
  rintro q1 h10 ⟨hq1, g10⟩
  have hq1 := hq1.sl
  have hu2 := hu2.grow g10
  have hu3 := hu3.grow g10
  have hu4 := hu4.grow g10
  have g10 := g9.trans g10
  (repeat (first | refine WO.ops (StepK.mv rfl) ?_ | refine WO.ops (StepK.lenSl rfl (by first | with_reducible assumption | rfl)) ?_ | refine WO.ops (StepK.fieldAddr rfl) ?_ | refine WO.ops (StepK.add rfl rfl (by omega)) ?_ | refine WO.ops (StepK.sub rfl rfl (by omega)) ?_ | refine WO.ops (StepK.bin rfl rfl rfl) ?_ | refine WO.ops (StepK.pickT rfl rfl) ?_ | refine WO.ops (StepK.pickF rfl rfl) ?_ | refine WO.ops (StepK.not rfl) ?_ | refine WO.ops (StepK.eq rfl rfl rfl) ?_ | refine WO.ops (StepK.extract rfl rfl) ?_ | refine WO.ops (StepK.build rfl rfl) ?_ | refine WO.ops (StepK.mkFn rfl rfl) ?_ | refine WO.ops (StepK.field rfl rfl) ?_ | refine WO.ops (StepK.lenStr rfl) ?_ | refine WO.ops (StepK.min2 rfl rfl) ?_ | refine WO.ops (StepK.max2 rfl rfl) ?_ | refine WO.ops (StepK.load1 rfl (by first | with_reducible assumption | rfl)) ?_ | refine WO.run rfl ?_ | refine WO.skip rfl rfl ?_ | refine WO.skipu rfl ?_))
  refine WO.call rfl rfl (same_ans hS (show C.F 16 = some a16 by rw [hT]; rfl) h10 g10.wf q1 u2 _ _ hq1 hu2 (by omega) (by omega)) ?_
  rintro v h11 ⟨rfl, g11⟩
  have hu3 := hu3.grow g11
  have hu4 := hu4.grow g11
  have g11 := g10.trans g11
  rw [show decide ((takeF R n).2.1 = (takeF R n).2.1) = true from decide_eq_true rfl]
  refine WO.ops (StepK.pickT rfl rfl) ?_
  refine WO.ops (StepK.mv rfl) ?_
  refine WO.run rfl (WO.ops (StepK.mv rfl) ?_)
  refine WO.run rfl (WO.ops (StepK.mv rfl) ?_)
  refine WO.run rfl ?_
  refine WO.ops (StepK.eq rfl rfl (e2 _)) ?_
  (repeat (first | refine WO.ops (StepK.mv rfl) ?_ | refine WO.ops (StepK.lenSl rfl (by first | with_reducible assumption | rfl)) ?_ | refine WO.ops (StepK.fieldAddr rfl) ?_ | refine WO.ops (StepK.add rfl rfl (by omega)) ?_ | refine WO.ops (StepK.sub rfl rfl (by omega)) ?_ | refine WO.ops (StepK.bin rfl rfl rfl) ?_ | refine WO.ops (StepK.pickT rfl rfl) ?_ | refine WO.ops (StepK.pickF rfl rfl) ?_ | refine WO.ops (StepK.not rfl) ?_ | refine WO.ops (StepK.eq rfl rfl rfl) ?_ | refine WO.ops (StepK.extract rfl rfl) ?_ | refine WO.ops (StepK.build rfl rfl) ?_ | refine WO.ops (StepK.mkFn rfl rfl) ?_ | refine WO.ops (StepK.field rfl rfl) ?_ | refine WO.ops (StepK.lenStr rfl) ?_ | refine WO.ops (StepK.min2 rfl rfl) ?_ | refine WO.ops (StepK.max2 rfl rfl) ?_ | refine WO.ops (StepK.load1 rfl (by first | with_reducible assumption | rfl)) ?_ | refine WO.run rfl ?_ | refine WO.skip rfl rfl ?_ | refine WO.skipu rfl ?_))
  refine WO.call rfl rfl (own_ans hS (f := 17) (by decide) (show C.F 17 = some a9 by rw [hT]; rfl) h11 g11.wf u3 _ hu3 (by omega)) ?_
  rintro q3 h12 ⟨hq3, g12⟩
  have hq3 := hq3.sl
  have hu4 := hu4.grow g12
  have g12 := g11.trans g12
  (repeat (first | refine WO.ops (StepK.mv rfl) ?_ | refine WO.ops (StepK.lenSl rfl (by first | with_reducible assumption | rfl)) ?_ | refine WO.ops (StepK.fieldAddr rfl) ?_ | refine WO.ops (StepK.add rfl rfl (by omega)) ?_ | refine WO.ops (StepK.sub rfl rfl (by omega)) ?_ | refine WO.ops (StepK.bin rfl rfl rfl) ?_ | refine WO.ops (StepK.pickT rfl rfl) ?_ | refine WO.ops (StepK.pickF rfl rfl) ?_ | refine WO.ops (StepK.not rfl) ?_ | refine WO.ops (StepK.eq rfl rfl rfl) ?_ | refine WO.ops (StepK.extract rfl rfl) ?_ | refine WO.ops (StepK.build rfl rfl) ?_ | refine WO.ops (StepK.mkFn rfl rfl) ?_ | refine WO.ops (StepK.field rfl rfl) ?_ | refine WO.ops (StepK.lenStr rfl) ?_ | refine WO.ops (StepK.min2 rfl rfl) ?_ | refine WO.ops (StepK.max2 rfl rfl) ?_ | refine WO.ops (StepK.load1 rfl (by first | with_reducible assumption | rfl)) ?_ | refine WO.run rfl ?_ | refine WO.skip rfl rfl ?_ | refine WO.skipu rfl ?_))
  refine WO.call rfl rfl (same_ans hS (show C.F 16 = some a16 by rw [hT]; rfl) h12 g12.wf q3 u4 _ _ hq3 hu4 (by omega) (by omega)) ?_
  rintro v h13 ⟨rfl, g13⟩
  have g13 := g12.trans g13
  rw [show decide ((giveF R r).1 = (giveF R r).1) = true from decide_eq_true rfl]
  refine WO.ops (StepK.pickT rfl rfl) ?_
  refine WO.ops (StepK.mv rfl) ?_
  refine WO.run rfl (WO.ops (StepK.mv rfl) ?_)
  refine WO.run rfl (WO.ops (StepK.mv rfl) ?_)
  refine WO.run rfl ?_
  refine WO.ops (StepK.eq rfl rfl (e2 _)) ?_
  (repeat (first | refine WO.ops (StepK.mv rfl) ?_ | refine WO.ops (StepK.lenSl rfl (by first | with_reducible assumption | rfl)) ?_ | refine WO.ops (StepK.fieldAddr rfl) ?_ | refine WO.ops (StepK.add rfl rfl (by omega)) ?_ | refine WO.ops (StepK.sub rfl rfl (by omega)) ?_ | refine WO.ops (StepK.bin rfl rfl rfl) ?_ | refine WO.ops (StepK.pickT rfl rfl) ?_ | refine WO.ops (StepK.pickF rfl rfl) ?_ | refine WO.ops (StepK.not rfl) ?_ | refine WO.ops (StepK.eq rfl rfl rfl) ?_ | refine WO.ops (StepK.extract rfl rfl) ?_ | refine WO.ops (StepK.build rfl rfl) ?_ | refine WO.ops (StepK.mkFn rfl rfl) ?_ | refine WO.ops (StepK.field rfl rfl) ?_ | refine WO.ops (StepK.lenStr rfl) ?_ | refine WO.ops (StepK.min2 rfl rfl) ?_ | refine WO.ops (StepK.max2 rfl rfl) ?_ | refine WO.ops (StepK.load1 rfl (by first | with_reducible assumption | rfl)) ?_ | refine WO.run rfl ?_ | refine WO.skip rfl rfl ?_ | refine WO.skipu rfl ?_))
  refine WO.call rfl rfl (hlive h13 g13.wf) ?_
  rintro v h14 ⟨rfl, g14⟩
  (repeat (first | refine WO.ops (StepK.mv rfl) ?_ | refine WO.ops (StepK.lenSl rfl (by first | with_reducible assumption | rfl)) ?_ | refine WO.ops (StepK.fieldAddr rfl) ?_ | refine WO.ops (StepK.add rfl rfl (by omega)) ?_ | refine WO.ops (StepK.sub rfl rfl (by omega)) ?_ | refine WO.ops (StepK.bin rfl rfl rfl) ?_ | refine WO.ops (StepK.pickT rfl rfl) ?_ | refine WO.ops (StepK.pickF rfl rfl) ?_ | refine WO.ops (StepK.not rfl) ?_ | refine WO.ops (StepK.eq rfl rfl rfl) ?_ | refine WO.ops (StepK.extract rfl rfl) ?_ | refine WO.ops (StepK.build rfl rfl) ?_ | refine WO.ops (StepK.mkFn rfl rfl) ?_ | refine WO.ops (StepK.field rfl rfl) ?_ | refine WO.ops (StepK.lenStr rfl) ?_ | refine WO.ops (StepK.min2 rfl rfl) ?_ | refine WO.ops (StepK.max2 rfl rfl) ?_ | refine WO.ops (StepK.load1 rfl (by first | with_reducible assumption | rfl)) ?_ | refine WO.run rfl ?_ | refine WO.skip rfl rfl ?_ | refine WO.skipu rfl ?_))
  exact WO.nil (WC.ret ⟨trivial, g13.trans g14, rfl⟩)
end Abs
end Go.Proofs.Ytkdoemlhjhmfhaa
