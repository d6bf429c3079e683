/- Layer 7: the document's Give: its walk. -/
import Derived.Test.YtkdoemlhjhmfhaaC14
namespace Go.Proofs.Ytkdoemlhjhmfhaa
namespace Abs
set_option linter.unusedVariables false
set_option linter.unusedSimpArgs false
set_option maxHeartbeats 3200000
open Go.RowKit
attribute [local irreducible] WO WC WD StepK Ans Does Runs DoesD

theorem may_one {r : Int × Int} (h : mayF (-1) [r] = true) : 0 ≤ r.1 ∧ r.1 ≤ 1073741824 ∧ 1 ≤ r.2 ∧ r.2 ≤ 1073741824 ∧ r.1 + r.2 ≤ 1073741824 := by
  simp only [mayF] at h
  split at h
  · cases h
  · omega

theorem wr_snd {h : Heap} {b : Nat} {x y w : V} (hg : h.get b = some (.cells [x, y] (.tip [] 0))) (hv : V.one w = true) : h.wr b (0 + 1) [w] = some (h.put b (.cells [x, w] (.tip [] 0))) := by
  simp only [Heap.wr, hg]
  rw [if_pos ⟨by omega, by simp, by simp [hv]⟩]; rfl
theorem GI.gets {h : Heap} {c : Nat} {R : List (Int × Int)} {r0 : Int × Int} {h' : Heap} {i : Nat} {u v : V} {A B : List (Int × Int)} {r : Int × Int} (g : GI h c R r0 h' i u v A B r) (hc : h.size ≤ c) (hw : Wf h) (m : Int) :
    ∃ h2, h'.wr c (0 + 1) [iv m] = some h2 ∧ Grow h h2 ∧ h2.get c = some (.cells (rn (r.1, m)) (.tip [] 0)) ∧ Grown h2 h.size 2 u (A.map rn) ∧ Grown h2 h.size 2 v (B.map rn) := by
  have hlt := Wf.lt g.grow.wf g.box
  refine ⟨_, wr_snd g.box rfl, g.grow.put hc hlt hw _, by rw [get_put, if_pos rfl], ?_, ?_⟩
  · refine g.gu.frame fun b o hb o2 l k z e => ?_
    rw [get_put, if_neg (g.ou b o2 l k z e)]; exact hb
  · refine g.gv.frame fun b o hb o2 l k z e => ?_
    rw [get_put, if_neg (g.ov b o2 l k z e)]; exact hb
theorem refGive_ans {C : Cfg} (hS : ∀ f args h, f ≠ 8 → C.S f args h = none) (hF : C.F 23 = some a23) (hT : C.F = tab) (h : Heap) (hw : Wf h) (x : V) (R : List (Int × Int)) (r0 : Int × Int) (hx : Sl h 2 x (R.map rn)) (hb : ∀ r ∈ R, -9223372036854775808 ≤ r.2 ∧ r.2 < 9223372036854775808) (hr0 : -9223372036854775808 ≤ r0.2 ∧ r0.2 < 9223372036854775808) (hl : R.length ≤ 300) : Ans C 23 [x, .agg (rn r0)] h fun v h' => ∃ u, v = .tuple [u, .bool (giveF R r0).2] ∧ Sl h' 2 u ((giveF R r0).1.map rn) ∧ Grow h h' := by
  unfold a23 at hF
  refine Ans.fn (fun _ _ => hS _ _ _ (by decide)) hF rfl rfl hw fun h2 g => ?_
  clear hF
  have hsl : slLen x = some R.length := by rw [hx.len, List.length_map]
  refine WC.seqO ?_
  refine WO.ops (StepK.box rfl) ?_
  have gp : Grow h2 (h2.push (.cells (rn r0) (.tip [] 0))) := (Grow.refl g.wf).push _
  have hbox : (h2.push (.cells (rn r0) (.tip [] 0))).get h2.size = some (.cells (rn r0) (.tip [] 0)) := get_push_self _ _
  have g3 := g.trans gp
  have hcs := g.size
  show WO C _ _ (h2.push (.cells (rn r0) (.tip [] 0))) _
  generalize h2.push (.cells (rn r0) (.tip [] 0)) = h3 at *
  generalize h2.size = c at *
  (repeat (first | refine WO.ops (StepK.mv rfl) ?_ | refine WO.ops (StepK.lenSl rfl (by first | with_reducible assumption | rfl)) ?_ | refine WO.ops (StepK.fieldAddr rfl) ?_ | refine WO.ops (StepK.add rfl rfl (by omega)) ?_ | refine WO.ops (StepK.sub rfl rfl (by omega)) ?_ | refine WO.ops (StepK.bin rfl rfl rfl) ?_ | refine WO.ops (StepK.pickT rfl rfl) ?_ | refine WO.ops (StepK.pickF rfl rfl) ?_ | refine WO.ops (StepK.not rfl) ?_ | refine WO.ops (StepK.eq rfl rfl rfl) ?_ | refine WO.ops (StepK.extract rfl rfl) ?_ | refine WO.ops (StepK.build rfl rfl) ?_ | refine WO.ops (StepK.mkFn rfl rfl) ?_ | refine WO.ops (StepK.field rfl rfl) ?_ | refine WO.ops (StepK.lenStr rfl) ?_ | refine WO.ops (StepK.min2 rfl rfl) ?_ | refine WO.ops (StepK.max2 rfl rfl) ?_ | refine WO.ops (StepK.load1 rfl (by first | with_reducible assumption | rfl)) ?_ | refine WO.run rfl ?_ | refine WO.skip rfl rfl ?_ | refine WO.skipu rfl ?_))
  refine WO.nil (WC.seq (WC.seqO ?_))
  have none_ : ∀ (e : List (Nat × V)) (h5 : Heap) (Q : Ex → List (Nat × V) → Heap → Prop), Q .ret ((5, .bool false) :: (4, .slice none 0 0) :: e) h5 → WC C (.seq (.ops [⟨(some 4), none, .mv (.c (.slice none 0 0))⟩, ⟨(some 5), none, .mv (.c (.bool false))⟩]) (.ret)) e h5 Q := by
    intro e h5 Q hQ
    refine WC.seqO ?_
    (repeat (first | refine WO.ops (StepK.mv rfl) ?_ | refine WO.ops (StepK.lenSl rfl (by first | with_reducible assumption | rfl)) ?_ | refine WO.ops (StepK.fieldAddr rfl) ?_ | refine WO.ops (StepK.add rfl rfl (by omega)) ?_ | refine WO.ops (StepK.sub rfl rfl (by omega)) ?_ | refine WO.ops (StepK.bin rfl rfl rfl) ?_ | refine WO.ops (StepK.pickT rfl rfl) ?_ | refine WO.ops (StepK.pickF rfl rfl) ?_ | refine WO.ops (StepK.not rfl) ?_ | refine WO.ops (StepK.eq rfl rfl rfl) ?_ | refine WO.ops (StepK.extract rfl rfl) ?_ | refine WO.ops (StepK.build rfl rfl) ?_ | refine WO.ops (StepK.mkFn rfl rfl) ?_ | refine WO.ops (StepK.field rfl rfl) ?_ | refine WO.ops (StepK.lenStr rfl) ?_ | refine WO.ops (StepK.min2 rfl rfl) ?_ | refine WO.ops (StepK.max2 rfl rfl) ?_ | refine WO.ops (StepK.load1 rfl (by first | with_reducible assumption | rfl)) ?_ | refine WO.run rfl ?_ | refine WO.skip rfl rfl ?_ | refine WO.skipu rfl ?_))
    exact WO.nil (WC.ret hQ)
  have fin : giveF R r0 = ([], false) → ∀ (e : List (Nat × V)) (h5 : Heap), Grow h h5 → Fin .ret ∧ Wf h5 ∧ ∃ v, retE ((5, .bool false) :: (4, .slice none 0 0) :: e) h5 [.tmp 4, .tmp 5] = some v ∧ (∀ h3, Grow h5 h3 → ∃ u, v = .tuple [u, .bool (giveF R r0).2] ∧ Sl h3 2 u ((giveF R r0).1.map rn) ∧ Grow h h3) ∧ (v.scopd h.size = true → ∃ u, v = .tuple [u, .bool (giveF R r0).2] ∧ Sl h 2 u ((giveF R r0).1.map rn) ∧ Grow h h) := by
    intro hz e h5 g5
    rw [hz]
    exact ⟨trivial, g5.wf, _, rfl, fun h6 g6 => ⟨_, rfl, Sl.nil h6 2, g5.trans g6⟩, fun _ => ⟨_, rfl, Sl.nil h 2, Grow.refl hw⟩⟩
  refine WO.ops (StepK.mv rfl) ?_
  refine WO.call rfl rfl (refMay_ans hS (show C.F 11 = some a11 by rw [hT]; rfl) h3 g3.wf x R (hx.grow g3) hb (by omega)) ?_
  rintro v h4 ⟨rfl, g4⟩
  have hbox := g4.ext _ _ hbox
  have g4 := g3.trans g4
  (repeat (first | refine WO.ops (StepK.mv rfl) ?_ | refine WO.ops (StepK.lenSl rfl (by first | with_reducible assumption | rfl)) ?_ | refine WO.ops (StepK.fieldAddr rfl) ?_ | refine WO.ops (StepK.add rfl rfl (by omega)) ?_ | refine WO.ops (StepK.sub rfl rfl (by omega)) ?_ | refine WO.ops (StepK.bin rfl rfl rfl) ?_ | refine WO.ops (StepK.pickT rfl rfl) ?_ | refine WO.ops (StepK.pickF rfl rfl) ?_ | refine WO.ops (StepK.not rfl) ?_ | refine WO.ops (StepK.eq rfl rfl rfl) ?_ | refine WO.ops (StepK.extract rfl rfl) ?_ | refine WO.ops (StepK.build rfl rfl) ?_ | refine WO.ops (StepK.mkFn rfl rfl) ?_ | refine WO.ops (StepK.field rfl rfl) ?_ | refine WO.ops (StepK.lenStr rfl) ?_ | refine WO.ops (StepK.min2 rfl rfl) ?_ | refine WO.ops (StepK.max2 rfl rfl) ?_ | refine WO.ops (StepK.load1 rfl (by first | with_reducible assumption | rfl)) ?_ | refine WO.run rfl ?_ | refine WO.skip rfl rfl ?_ | refine WO.skipu rfl ?_))
  refine WO.splitG rfl (fun hc1 => ?_) (fun hc1 => ?_)
  · have hm : mayF (-1) R = false := by simpa using hc1
    (repeat (first | refine WO.ops (StepK.mv rfl) ?_ | refine WO.ops (StepK.lenSl rfl (by first | with_reducible assumption | rfl)) ?_ | refine WO.ops (StepK.fieldAddr rfl) ?_ | refine WO.ops (StepK.add rfl rfl (by omega)) ?_ | refine WO.ops (StepK.sub rfl rfl (by omega)) ?_ | refine WO.ops (StepK.bin rfl rfl rfl) ?_ | refine WO.ops (StepK.pickT rfl rfl) ?_ | refine WO.ops (StepK.pickF rfl rfl) ?_ | refine WO.ops (StepK.not rfl) ?_ | refine WO.ops (StepK.eq rfl rfl rfl) ?_ | refine WO.ops (StepK.extract rfl rfl) ?_ | refine WO.ops (StepK.build rfl rfl) ?_ | refine WO.ops (StepK.mkFn rfl rfl) ?_ | refine WO.ops (StepK.field rfl rfl) ?_ | refine WO.ops (StepK.lenStr rfl) ?_ | refine WO.ops (StepK.min2 rfl rfl) ?_ | refine WO.ops (StepK.max2 rfl rfl) ?_ | refine WO.ops (StepK.load1 rfl (by first | with_reducible assumption | rfl)) ?_ | refine WO.run rfl ?_ | refine WO.skip rfl rfl ?_ | refine WO.skipu rfl ?_))
    refine WO.nil (WC.condT rfl (none_ _ _ _ (fin ?_ _ _ g4)))
    rw [giveF, if_pos (.inl hm)]
  have hm : mayF (-1) R = true := by simpa using hc1
  have r2 : h4.rds c 0 2 = some (rn r0) := rds_all hbox rfl
  refine WO.run rfl ?_
  refine WO.ops (StepK.loadN rfl r2) ?_
  refine WO.run rfl ?_
  refine WO.ops (StepK.buildSl (cs := rn r0) rfl rfl) ?_
  have gp : Grow h4 (h4.push (.cells (rn r0) (.tip [] 0))) := (Grow.refl g4.wf).push _
  have hnew : Sl (h4.push (.cells (rn r0) (.tip [] 0))) 2 (.slice (some (h4.size, 0)) 1 1) ([r0].map rn) :=
    ⟨by simp, rfl, Nat.le_refl _, fun _ => rds_all (st := .tip [] 0) (by rw [get_push_self]; rfl) rfl⟩
  refine WO.run rfl ?_
  refine WO.call rfl rfl (refMay_ans hS (show C.F 11 = some a11 by rw [hT]; rfl) _ gp.wf _ [r0] hnew (by intro r hr; simp at hr; subst hr; exact hr0) (by simp)) ?_
  rintro v h5 ⟨rfl, g5⟩
  have hbox := g5.ext _ _ (gp.ext _ _ hbox)
  have g5 := (g4.trans gp).trans g5
  (repeat (first | refine WO.ops (StepK.mv rfl) ?_ | refine WO.ops (StepK.lenSl rfl (by first | with_reducible assumption | rfl)) ?_ | refine WO.ops (StepK.fieldAddr rfl) ?_ | refine WO.ops (StepK.add rfl rfl (by omega)) ?_ | refine WO.ops (StepK.sub rfl rfl (by omega)) ?_ | refine WO.ops (StepK.bin rfl rfl rfl) ?_ | refine WO.ops (StepK.pickT rfl rfl) ?_ | refine WO.ops (StepK.pickF rfl rfl) ?_ | refine WO.ops (StepK.not rfl) ?_ | refine WO.ops (StepK.eq rfl rfl rfl) ?_ | refine WO.ops (StepK.extract rfl rfl) ?_ | refine WO.ops (StepK.build rfl rfl) ?_ | refine WO.ops (StepK.mkFn rfl rfl) ?_ | refine WO.ops (StepK.field rfl rfl) ?_ | refine WO.ops (StepK.lenStr rfl) ?_ | refine WO.ops (StepK.min2 rfl rfl) ?_ | refine WO.ops (StepK.max2 rfl rfl) ?_ | refine WO.ops (StepK.load1 rfl (by first | with_reducible assumption | rfl)) ?_ | refine WO.run rfl ?_ | refine WO.skip rfl rfl ?_ | refine WO.skipu rfl ?_))
  refine WO.nil (WC.cond rfl (fun hc2 => none_ _ _ _ (fin ?_ _ _ g5)) (fun hc2 => WC.skip (WC.seqO ?_)))
  · have hm1 : mayF (-1) [r0] = false := by simpa using hc2
    rw [giveF, if_pos (.inr hm1)]
  have hm1 : mayF (-1) [r0] = true := by simpa using hc2
  have hg : giveF R r0 = match refG [] r0 [] R with
    | none => ([], false)
    | some out => if mayF (-1) out then (out, true) else ([], false) := by
    rw [giveF, if_neg (by rw [hm, hm1]; simp)]
    rfl
  have hone := may_one hm1
  (repeat (first | refine WO.ops (StepK.mv rfl) ?_ | refine WO.ops (StepK.lenSl rfl (by first | with_reducible assumption | rfl)) ?_ | refine WO.ops (StepK.fieldAddr rfl) ?_ | refine WO.ops (StepK.add rfl rfl (by omega)) ?_ | refine WO.ops (StepK.sub rfl rfl (by omega)) ?_ | refine WO.ops (StepK.bin rfl rfl rfl) ?_ | refine WO.ops (StepK.pickT rfl rfl) ?_ | refine WO.ops (StepK.pickF rfl rfl) ?_ | refine WO.ops (StepK.not rfl) ?_ | refine WO.ops (StepK.eq rfl rfl rfl) ?_ | refine WO.ops (StepK.extract rfl rfl) ?_ | refine WO.ops (StepK.build rfl rfl) ?_ | refine WO.ops (StepK.mkFn rfl rfl) ?_ | refine WO.ops (StepK.field rfl rfl) ?_ | refine WO.ops (StepK.lenStr rfl) ?_ | refine WO.ops (StepK.min2 rfl rfl) ?_ | refine WO.ops (StepK.max2 rfl rfl) ?_ | refine WO.ops (StepK.load1 rfl (by first | with_reducible assumption | rfl)) ?_ | refine WO.run rfl ?_ | refine WO.skip rfl rfl ?_ | refine WO.skipu rfl ?_))
  refine WO.nil (WC.seqO ?_)
  (repeat (first | refine WO.ops (StepK.mv rfl) ?_ | refine WO.ops (StepK.lenSl rfl (by first | with_reducible assumption | rfl)) ?_ | refine WO.ops (StepK.fieldAddr rfl) ?_ | refine WO.ops (StepK.add rfl rfl (by omega)) ?_ | refine WO.ops (StepK.sub rfl rfl (by omega)) ?_ | refine WO.ops (StepK.bin rfl rfl rfl) ?_ | refine WO.ops (StepK.pickT rfl rfl) ?_ | refine WO.ops (StepK.pickF rfl rfl) ?_ | refine WO.ops (StepK.not rfl) ?_ | refine WO.ops (StepK.eq rfl rfl rfl) ?_ | refine WO.ops (StepK.extract rfl rfl) ?_ | refine WO.ops (StepK.build rfl rfl) ?_ | refine WO.ops (StepK.mkFn rfl rfl) ?_ | refine WO.ops (StepK.field rfl rfl) ?_ | refine WO.ops (StepK.lenStr rfl) ?_ | refine WO.ops (StepK.min2 rfl rfl) ?_ | refine WO.ops (StepK.max2 rfl rfl) ?_ | refine WO.ops (StepK.load1 rfl (by first | with_reducible assumption | rfl)) ?_ | refine WO.run rfl ?_ | refine WO.skip rfl rfl ?_ | refine WO.skipu rfl ?_))
  refine WO.nil (WC.seq (WC.seqO ?_))
  (repeat (first | refine WO.ops (StepK.mv rfl) ?_ | refine WO.ops (StepK.lenSl rfl (by first | with_reducible assumption | rfl)) ?_ | refine WO.ops (StepK.fieldAddr rfl) ?_ | refine WO.ops (StepK.add rfl rfl (by omega)) ?_ | refine WO.ops (StepK.sub rfl rfl (by omega)) ?_ | refine WO.ops (StepK.bin rfl rfl rfl) ?_ | refine WO.ops (StepK.pickT rfl rfl) ?_ | refine WO.ops (StepK.pickF rfl rfl) ?_ | refine WO.ops (StepK.not rfl) ?_ | refine WO.ops (StepK.eq rfl rfl rfl) ?_ | refine WO.ops (StepK.extract rfl rfl) ?_ | refine WO.ops (StepK.build rfl rfl) ?_ | refine WO.ops (StepK.mkFn rfl rfl) ?_ | refine WO.ops (StepK.field rfl rfl) ?_ | refine WO.ops (StepK.lenStr rfl) ?_ | refine WO.ops (StepK.min2 rfl rfl) ?_ | refine WO.ops (StepK.max2 rfl rfl) ?_ | refine WO.ops (StepK.load1 rfl (by first | with_reducible assumption | rfl)) ?_ | refine WO.run rfl ?_ | refine WO.skip rfl rfl ?_ | refine WO.skipu rfl ?_))
  refine WO.nil (WC.block ?_)
  refine WC.loop (σ := Nat × V × V × List (Int × Int) × List (Int × Int) × (Int × Int)) (fun s => [(0, x), (3, .ptr (some (c, 0))), (6, s.2.1), (7, s.2.2.1), (8, iv s.1)])
    (fun s h' => GI h c R r0 h' s.1 s.2.1 s.2.2.1 s.2.2.2.1 s.2.2.2.2.1 s.2.2.2.2.2) (fun s => R.length - s.1) (0, .slice none 0 0, .slice none 0 0, [], [], r0) ?_
    ⟨g5, hbox, by omega, Grown.nil _ _ _, Grown.nil _ _ _, Off.nil _, Off.nil _, (by intro b o l k z e; cases e), (by intro b o l k z e; cases e), by simp, by simp, rfl, by simp only; omega, by simp only; omega, by simp⟩ ?_
  · exact Cov.cons rfl (Cov.cons rfl (Cov.cons rfl (Cov.cons rfl (Cov.cons rfl (Cov.nil _)))))
  rintro ⟨i, u, v, A, B, r⟩ h6 gi
  simp only at gi
  refine WC.seq (WC.seqO ?_)
  refine WO.ops (StepK.mv rfl) ?_
  refine WO.ops (StepK.mv rfl) ?_
  refine WO.ops (StepK.lenSl rfl hsl) ?_
  (repeat (first | refine WO.ops (StepK.mv rfl) ?_ | refine WO.ops (StepK.lenSl rfl (by first | with_reducible assumption | rfl)) ?_ | refine WO.ops (StepK.fieldAddr rfl) ?_ | refine WO.ops (StepK.add rfl rfl (by omega)) ?_ | refine WO.ops (StepK.sub rfl rfl (by omega)) ?_ | refine WO.ops (StepK.bin rfl rfl rfl) ?_ | refine WO.ops (StepK.pickT rfl rfl) ?_ | refine WO.ops (StepK.pickF rfl rfl) ?_ | refine WO.ops (StepK.not rfl) ?_ | refine WO.ops (StepK.eq rfl rfl rfl) ?_ | refine WO.ops (StepK.extract rfl rfl) ?_ | refine WO.ops (StepK.build rfl rfl) ?_ | refine WO.ops (StepK.mkFn rfl rfl) ?_ | refine WO.ops (StepK.field rfl rfl) ?_ | refine WO.ops (StepK.lenStr rfl) ?_ | refine WO.ops (StepK.min2 rfl rfl) ?_ | refine WO.ops (StepK.max2 rfl rfl) ?_ | refine WO.ops (StepK.load1 rfl (by first | with_reducible assumption | rfl)) ?_ | refine WO.run rfl ?_ | refine WO.skip rfl rfl ?_ | refine WO.skipu rfl ?_))
  refine WO.nil (WC.cond rfl (fun hc => WC.skip ?_) (fun hc => WC.exit (WC.seqO ?_)))
  rotate_left
  · have hc := of_decide_eq_false hc
    have hle := gi.le
    have : i = R.length := by omega
    subst this
    have heq := gi.eq
    rw [List.drop_length] at heq
    simp only [refG] at heq
    rw [heq] at hg
    simp only at hg
    obtain ⟨u2, h7, p1, p2, p3, p4, p5, p6, p7, p8⟩ := side_app hw gi.grow gi.box gi.gu gi.gv gi.ou gi.ap (by have := gi.la; omega) r
    obtain ⟨u3, h8, s1, s2, s3⟩ := p4.append hw p2 p5.sl (bytes := 16) (by decide) (by decide) (by have := gi.la; have := gi.lb; simp only [List.length_map, List.length_append, List.length_singleton, roomy, decide_eq_true_eq]; omega) ones_rn
    rw [← List.map_append] at s2
    have hout : ∀ s ∈ A ++ [r] ++ B, -9223372036854775808 ≤ s.2 ∧ s.2 < 9223372036854775808 := by
      intro s hs
      simp only [List.mem_append, List.mem_singleton] at hs
      rcases hs with (q | q) | q
      · exact hb s (gi.sub.1 s q)
      · subst q; have := gi.hi; have : (R.length : Int) ≤ 300 := by omega
        omega
      · exact hb s (gi.sub.2 s q)
    refine WO.ops (StepK.mv rfl) ?_
    refine WO.ops (StepK.loadN rfl (rds_all gi.box rfl)) ?_
    refine WO.ops (StepK.buildSl (cs := rn r) rfl rfl) ?_
    refine WO.ops (StepK.append rfl rfl p1) ?_
    refine WO.ops (StepK.mv rfl) (WO.nil (WC.seqO ?_))
    refine WO.ops (StepK.mv rfl) ?_
    refine WO.ops (StepK.mv rfl) ?_
    refine WO.ops (StepK.append rfl rfl s1) ?_
    refine WO.ops (StepK.mv rfl) (WO.nil (WC.seq (WC.seqO ?_)))
    refine WO.ops (StepK.mv rfl) ?_
    refine WO.call rfl rfl (refMay_ans hS (show C.F 11 = some a11 by rw [hT]; rfl) h8 s3.wf u3 _ s2.sl hout (by have := gi.la; have := gi.lb; simp only [List.length_append, List.length_singleton]; omega)) ?_
    rintro w h9 ⟨rfl, g9⟩
    (repeat (first | refine WO.ops (StepK.mv rfl) ?_ | refine WO.ops (StepK.lenSl rfl (by first | with_reducible assumption | rfl)) ?_ | refine WO.ops (StepK.fieldAddr rfl) ?_ | refine WO.ops (StepK.add rfl rfl (by omega)) ?_ | refine WO.ops (StepK.sub rfl rfl (by omega)) ?_ | refine WO.ops (StepK.bin rfl rfl rfl) ?_ | refine WO.ops (StepK.pickT rfl rfl) ?_ | refine WO.ops (StepK.pickF rfl rfl) ?_ | refine WO.ops (StepK.not rfl) ?_ | refine WO.ops (StepK.eq rfl rfl rfl) ?_ | refine WO.ops (StepK.extract rfl rfl) ?_ | refine WO.ops (StepK.build rfl rfl) ?_ | refine WO.ops (StepK.mkFn rfl rfl) ?_ | refine WO.ops (StepK.field rfl rfl) ?_ | refine WO.ops (StepK.lenStr rfl) ?_ | refine WO.ops (StepK.min2 rfl rfl) ?_ | refine WO.ops (StepK.max2 rfl rfl) ?_ | refine WO.ops (StepK.load1 rfl (by first | with_reducible assumption | rfl)) ?_ | refine WO.run rfl ?_ | refine WO.skip rfl rfl ?_ | refine WO.skipu rfl ?_))
    refine WO.nil (WC.cond rfl (fun hc3 => none_ _ _ _ (fin ?_ _ _ (s3.trans g9))) (fun hc3 => WC.skip (WC.seqO ?_)))
    · rw [hg, if_neg (by simpa using hc3)]
    rw [if_pos (by simpa using hc3)] at hg
    (repeat (first | refine WO.ops (StepK.mv rfl) ?_ | refine WO.ops (StepK.lenSl rfl (by first | with_reducible assumption | rfl)) ?_ | refine WO.ops (StepK.fieldAddr rfl) ?_ | refine WO.ops (StepK.add rfl rfl (by omega)) ?_ | refine WO.ops (StepK.sub rfl rfl (by omega)) ?_ | refine WO.ops (StepK.bin rfl rfl rfl) ?_ | refine WO.ops (StepK.pickT rfl rfl) ?_ | refine WO.ops (StepK.pickF rfl rfl) ?_ | refine WO.ops (StepK.not rfl) ?_ | refine WO.ops (StepK.eq rfl rfl rfl) ?_ | refine WO.ops (StepK.extract rfl rfl) ?_ | refine WO.ops (StepK.build rfl rfl) ?_ | refine WO.ops (StepK.mkFn rfl rfl) ?_ | refine WO.ops (StepK.field rfl rfl) ?_ | refine WO.ops (StepK.lenStr rfl) ?_ | refine WO.ops (StepK.min2 rfl rfl) ?_ | refine WO.ops (StepK.max2 rfl rfl) ?_ | refine WO.ops (StepK.load1 rfl (by first | with_reducible assumption | rfl)) ?_ | refine WO.run rfl ?_ | refine WO.skip rfl rfl ?_ | refine WO.skipu rfl ?_))
    refine WO.nil (WC.ret ⟨trivial, g9.wf, .tuple [u3, .bool true], rfl, fun h10 g10 => ?_, fun hsc => ?_⟩)
    · rw [hg]; exact ⟨u3, rfl, (s2.grow (g9.trans g10)).sl, (s3.trans g9).trans g10⟩
    · rw [hg]
      have hsu : u3.scopd h.size = true := by
        simp only [V.scopd, V.scopeds, Bool.and_eq_true] at hsc; exact hsc.1
      exact ⟨u3, rfl, (s2.scopd hsu h).sl, Grow.refl hw⟩
  have hc := of_decide_eq_true hc
  have hi : i < R.length := by omega
  obtain ⟨b, o, k1, k2⟩ := (hx.grow gi.grow).at (i := i) (by rw [List.length_map]; exact hi)
  rw [List.getElem_map] at k2
  have hd : R.drop i = R[i] :: R.drop (i + 1) := List.drop_eq_getElem_cons hi
  have hrb := mayF_bounds R (-1) (by omega) hm R[i] (List.getElem_mem hi)
  have hmem : R[i] ∈ R := List.getElem_mem hi
  have heq := gi.eq
  rw [hd] at heq
  generalize R[i] = s at hd hrb hmem heq k2
  obtain ⟨a, n⟩ := s
  simp only at hrb
  simp only [refG] at heq
  have rhi := gi.hi
  have rlo := gi.lo
  have hi300 : (i : Int) ≤ 300 := by omega
  have q0 : h6.rd b (o + 0) = some (iv a) := rds_rd k2 rfl
  have q1 : h6.rd b (o + 1) = some (iv n) := rds_rd k2 rfl
  have w0 : h6.rd c (0 + 0) = some (iv r.1) := rd_get gi.box rfl
  have w1 : h6.rd c (0 + 1) = some (iv r.2) := rd_get gi.box rfl
  refine WC.seq (WC.block (WC.seqD ?_))
  refine WD.pure (StepK.mv rfl) rfl ?_
  refine WD.pure (StepK.mv rfl) rfl ?_
  refine WD.pure (StepK.idxSl rfl rfl k1) rfl ?_
  refine WD.pure (StepK.fieldAddr rfl) rfl ?_
  refine WD.load1 rfl q0 ?_
  refine WD.pure (StepK.mv rfl) rfl ?_
  refine WD.pure (StepK.mv rfl) rfl ?_
  refine WD.pure (StepK.idxSl rfl rfl k1) rfl ?_
  refine WD.pure (StepK.fieldAddr rfl) rfl ?_
  refine WD.load1 rfl q1 ?_
  refine WD.pure (StepK.add rfl rfl (by omega)) rfl ?_
  refine WD.pure (StepK.mv rfl) rfl ?_
  refine WD.nil ⟨q1, q0, trivial⟩ (WC.seqO ?_)
  refine WO.ops (StepK.mv rfl) ?_
  refine WO.ops (StepK.fieldAddr rfl) ?_
  refine WO.ops (StepK.load1 rfl w0) ?_
  (repeat (first | refine WO.ops (StepK.mv rfl) ?_ | refine WO.ops (StepK.lenSl rfl (by first | with_reducible assumption | rfl)) ?_ | refine WO.ops (StepK.fieldAddr rfl) ?_ | refine WO.ops (StepK.add rfl rfl (by omega)) ?_ | refine WO.ops (StepK.sub rfl rfl (by omega)) ?_ | refine WO.ops (StepK.bin rfl rfl rfl) ?_ | refine WO.ops (StepK.pickT rfl rfl) ?_ | refine WO.ops (StepK.pickF rfl rfl) ?_ | refine WO.ops (StepK.not rfl) ?_ | refine WO.ops (StepK.eq rfl rfl rfl) ?_ | refine WO.ops (StepK.extract rfl rfl) ?_ | refine WO.ops (StepK.build rfl rfl) ?_ | refine WO.ops (StepK.mkFn rfl rfl) ?_ | refine WO.ops (StepK.field rfl rfl) ?_ | refine WO.ops (StepK.lenStr rfl) ?_ | refine WO.ops (StepK.min2 rfl rfl) ?_ | refine WO.ops (StepK.max2 rfl rfl) ?_ | refine WO.ops (StepK.load1 rfl (by first | with_reducible assumption | rfl)) ?_ | refine WO.run rfl ?_ | refine WO.skip rfl rfl ?_ | refine WO.skipu rfl ?_))
  have inc : ∀ (e : List (Nat × V)) (h7 : Heap) (u' v' : V) (A' B' : List (Int × Int)) (r' : Int × Int), Cov [(0, x), (3, .ptr (some (c, 0))), (6, u'), (7, v'), (8, iv i)] e → GI h c R r0 h7 (i + 1) u' v' A' B' r' → WC C (.ops [⟨(some 23), none, .mv (.t 8)⟩, ⟨(some 24), none, .bin .add (.t 23) (.c (.int .i64 (1)))⟩, ⟨(some 8), none, .mv (.t 24)⟩]) e h7 (fun x_1 e' h' => match x_1 with
      | .normal => ∃ s' : Nat × V × V × List (Int × Int) × List (Int × Int) × (Int × Int), Cov [(0, x), (3, .ptr (some (c, 0))), (6, s'.2.1), (7, s'.2.2.1), (8, iv s'.1)] e' ∧ GI h c R r0 h' s'.1 s'.2.1 s'.2.2.1 s'.2.2.2.1 s'.2.2.2.2.1 s'.2.2.2.2.2 ∧ R.length - s'.1 < R.length - i
      | _ => False) := by
    intro e h7 u' v' A' B' r' hcv g7
    refine WC.cov hcv (WC.ops ?_)
    (repeat (first | refine WO.ops (StepK.mv rfl) ?_ | refine WO.ops (StepK.lenSl rfl (by first | with_reducible assumption | rfl)) ?_ | refine WO.ops (StepK.fieldAddr rfl) ?_ | refine WO.ops (StepK.add rfl rfl (by omega)) ?_ | refine WO.ops (StepK.sub rfl rfl (by omega)) ?_ | refine WO.ops (StepK.bin rfl rfl rfl) ?_ | refine WO.ops (StepK.pickT rfl rfl) ?_ | refine WO.ops (StepK.pickF rfl rfl) ?_ | refine WO.ops (StepK.not rfl) ?_ | refine WO.ops (StepK.eq rfl rfl rfl) ?_ | refine WO.ops (StepK.extract rfl rfl) ?_ | refine WO.ops (StepK.build rfl rfl) ?_ | refine WO.ops (StepK.mkFn rfl rfl) ?_ | refine WO.ops (StepK.field rfl rfl) ?_ | refine WO.ops (StepK.lenStr rfl) ?_ | refine WO.ops (StepK.min2 rfl rfl) ?_ | refine WO.ops (StepK.max2 rfl rfl) ?_ | refine WO.ops (StepK.load1 rfl (by first | with_reducible assumption | rfl)) ?_ | refine WO.run rfl ?_ | refine WO.skip rfl rfl ?_ | refine WO.skipu rfl ?_))
    refine WO.nil ⟨(i + 1, u', v', A', B', r'), ?_, g7, by simp only; omega⟩
    exact Cov.cons rfl (Cov.cons rfl (Cov.cons rfl (Cov.cons rfl (Cov.cons rfl (Cov.nil _)))))
  have onlyN : ∀ (Q : Ex → List (Nat × V) → Heap → Prop) (N : List (Nat × V) → Heap → Prop), (∀ e h, N e h → Q .normal e h) → ∀ x1 e1 h1, (match x1 with
      | .normal => N e1 h1
      | _ => False : Prop) → Q x1 e1 h1 := by
    intro Q N hN x1 e1 h1 hq
    cases x1 with
    | normal => exact hN _ _ hq
    | ret => exact hq.elim
    | exit id => exact hq.elim
  refine WO.nil (WC.cond rfl (fun hc1 => WC.ops ?_) (fun hc1 => WC.seqO ?_))
  · have hc1 : a + n < r.1 := of_decide_eq_true hc1
    rw [if_pos hc1] at heq
    obtain ⟨u2, h7, p1, p2, p3, p4, p5, p6, p7, p8⟩ := side_app hw gi.grow gi.box gi.gu gi.gv gi.ou gi.ap (by have := gi.la; omega) (a, n)
    refine WO.ops (StepK.mv rfl) ?_
    refine WO.ops (StepK.mv rfl) ?_
    refine WO.ops (StepK.mv rfl) ?_
    refine WO.ops (StepK.idxSl rfl rfl k1) ?_
    refine WO.ops (StepK.loadN rfl k2) ?_
    refine WO.ops (StepK.buildSl (cs := rn (a, n)) rfl rfl) ?_
    refine WO.ops (StepK.append rfl rfl p1) ?_
    refine WO.ops (StepK.mv rfl) (WO.nil ?_)
    have gnext : GI h c R r0 h7 (i + 1) u2 v (A ++ [(a, n)]) B r :=
      ⟨p2, p3, hi, p4, p5, p6, gi.ov, p7, p8, by have := gi.la; simp; omega, by have := gi.lb; omega, heq, rlo, by push_cast; omega, by
        refine ⟨fun t ht => ?_, gi.sub.2⟩
        rcases List.mem_append.1 ht with q | q
        · exact gi.sub.1 t q
        · simp at q; subst q; exact hmem⟩
    refine (inc _ h7 u2 v _ _ _ (Cov.cons rfl (Cov.cons rfl (Cov.cons rfl (Cov.cons rfl (Cov.cons rfl (Cov.nil _)))))) gnext).mono ?_
    exact onlyN _ _ fun e1 h1 hq => hq
  have hc1 : ¬ a + n < r.1 := of_decide_eq_false hc1
  rw [if_neg hc1] at heq
  refine WO.ops (StepK.mv rfl) ?_
  refine WO.ops (StepK.fieldAddr rfl) ?_
  refine WO.ops (StepK.load1 rfl w0) ?_
  (repeat (first | refine WO.ops (StepK.mv rfl) ?_ | refine WO.ops (StepK.lenSl rfl (by first | with_reducible assumption | rfl)) ?_ | refine WO.ops (StepK.fieldAddr rfl) ?_ | refine WO.ops (StepK.add rfl rfl (by omega)) ?_ | refine WO.ops (StepK.sub rfl rfl (by omega)) ?_ | refine WO.ops (StepK.bin rfl rfl rfl) ?_ | refine WO.ops (StepK.pickT rfl rfl) ?_ | refine WO.ops (StepK.pickF rfl rfl) ?_ | refine WO.ops (StepK.not rfl) ?_ | refine WO.ops (StepK.eq rfl rfl rfl) ?_ | refine WO.ops (StepK.extract rfl rfl) ?_ | refine WO.ops (StepK.build rfl rfl) ?_ | refine WO.ops (StepK.mkFn rfl rfl) ?_ | refine WO.ops (StepK.field rfl rfl) ?_ | refine WO.ops (StepK.lenStr rfl) ?_ | refine WO.ops (StepK.min2 rfl rfl) ?_ | refine WO.ops (StepK.max2 rfl rfl) ?_ | refine WO.ops (StepK.load1 rfl (by first | with_reducible assumption | rfl)) ?_ | refine WO.run rfl ?_ | refine WO.skip rfl rfl ?_ | refine WO.skipu rfl ?_))
  refine WO.nil (WC.cond rfl (fun hc2 => WC.draw ?_) (fun hc2 => WC.seqD ?_))
  · have hc2 : a + n = r.1 := by simpa using hc2
    rw [if_pos hc2] at heq
    obtain ⟨h7, s1, s2, s3, s4, s5⟩ := gi.getv hcs hw (a, n + r.2)
    refine WD.pure (StepK.mv rfl) rfl ?_
    refine WD.pure (StepK.mv rfl) rfl ?_
    refine WD.pure (StepK.idxSl rfl rfl k1) rfl ?_
    refine WD.pure (StepK.fieldAddr rfl) rfl ?_
    refine WD.load1 rfl q0 ?_
    refine WD.pure (StepK.mv rfl) rfl ?_
    refine WD.pure (StepK.mv rfl) rfl ?_
    refine WD.pure (StepK.idxSl rfl rfl k1) rfl ?_
    refine WD.pure (StepK.fieldAddr rfl) rfl ?_
    refine WD.load1 rfl q1 ?_
    refine WD.pure (StepK.fieldAddr rfl) rfl ?_
    refine WD.load1 rfl w1 ?_
    refine WD.pure (StepK.add rfl rfl (by omega)) rfl ?_
    refine WD.pure (StepK.build (cs := rn (a, n + r.2)) rfl rfl) rfl ?_
    refine WD.opC ⟨w1, q1, q0, trivial⟩ rfl (StepK.store rfl rfl rfl s1) ?_
    refine WD.nil trivial ?_
    have gnext : GI h c R r0 h7 (i + 1) u v A B (a, n + r.2) :=
      ⟨s2, s3, hi, s4, s5, gi.ou, gi.ov, gi.ap, gi.pa, by have := gi.la; omega, by have := gi.lb; omega, heq, by simp only; omega, by simp only; push_cast; omega, gi.sub⟩
    refine (inc _ h7 u v _ _ _ (Cov.cons rfl (Cov.cons rfl (Cov.cons rfl (Cov.cons rfl (Cov.cons rfl (Cov.nil _)))))) gnext).mono ?_
    exact onlyN _ _ fun e1 h1 hq => hq
  have hc2 : a + n ≠ r.1 := by simpa using hc2
  rw [if_neg hc2] at heq
  refine WD.pure (StepK.mv rfl) rfl ?_
  refine WD.pure (StepK.mv rfl) rfl ?_
  refine WD.pure (StepK.idxSl rfl rfl k1) rfl ?_
  refine WD.pure (StepK.fieldAddr rfl) rfl ?_
  refine WD.load1 rfl q0 ?_
  refine WD.pure (StepK.fieldAddr rfl) rfl ?_
  refine WD.load1 rfl w0 ?_
  refine WD.pure (StepK.fieldAddr rfl) rfl ?_
  refine WD.load1 rfl w1 ?_
  refine WD.pure (StepK.add rfl rfl (by omega)) rfl ?_
  refine WD.pure (StepK.bin rfl rfl rfl) rfl ?_
  refine WD.nil ⟨w1, w0, q0, trivial⟩ (WC.cond rfl (fun hc3 => WC.draw ?_) (fun hc3 => WC.seqD ?_))
  · have hc3 : a = r.1 + r.2 := by simpa using hc3
    rw [if_pos hc3] at heq
    obtain ⟨h7, s1, s2, s3, s4, s5⟩ := gi.gets hcs hw (r.2 + n)
    refine WD.pure (StepK.fieldAddr rfl) rfl ?_
    refine WD.load1 rfl w1 ?_
    refine WD.pure (StepK.mv rfl) rfl ?_
    refine WD.pure (StepK.mv rfl) rfl ?_
    refine WD.pure (StepK.idxSl rfl rfl k1) rfl ?_
    refine WD.pure (StepK.fieldAddr rfl) rfl ?_
    refine WD.load1 rfl q1 ?_
    refine WD.pure (StepK.add rfl rfl (by omega)) rfl ?_
    refine WD.pure (StepK.fieldAddr rfl) rfl ?_
    refine WD.opC ⟨q1, w1, trivial⟩ rfl (StepK.store rfl rfl rfl s1) ?_
    refine WD.nil trivial ?_
    have gnext : GI h c R r0 h7 (i + 1) u v A B (r.1, r.2 + n) :=
      ⟨s2, s3, hi, s4, s5, gi.ou, gi.ov, gi.ap, gi.pa, by have := gi.la; omega, by have := gi.lb; omega, heq, rlo, by simp only; push_cast; omega, gi.sub⟩
    refine (inc _ h7 u v _ _ _ (Cov.cons rfl (Cov.cons rfl (Cov.cons rfl (Cov.cons rfl (Cov.cons rfl (Cov.nil _)))))) gnext).mono ?_
    exact onlyN _ _ fun e1 h1 hq => hq
  have hc3 : a ≠ r.1 + r.2 := by simpa using hc3
  rw [if_neg hc3] at heq
  refine WD.pure (StepK.mv rfl) rfl ?_
  refine WD.pure (StepK.mv rfl) rfl ?_
  refine WD.pure (StepK.idxSl rfl rfl k1) rfl ?_
  refine WD.pure (StepK.fieldAddr rfl) rfl ?_
  refine WD.load1 rfl q0 ?_
  refine WD.pure (StepK.fieldAddr rfl) rfl ?_
  refine WD.load1 rfl w0 ?_
  refine WD.pure (StepK.fieldAddr rfl) rfl ?_
  refine WD.load1 rfl w1 ?_
  refine WD.pure (StepK.add rfl rfl (by omega)) rfl ?_
  refine WD.pure (StepK.bin rfl rfl rfl) rfl ?_
  refine WD.nil ⟨w1, w0, q0, trivial⟩ (WC.cond rfl (fun hc4 => WC.ops ?_) (fun hc4 => none_ _ _ _ (fin ?_ _ _ gi.grow)))
  rotate_left
  · have hc4 := of_decide_eq_false hc4
    rw [if_neg hc4] at heq
    rw [hg, heq]
  have hc4 := of_decide_eq_true hc4
  rw [if_pos hc4] at heq
  obtain ⟨v2, h7, p1, p2, p3, p4, p5, p6, p7, p8⟩ := side_app hw gi.grow gi.box gi.gv gi.gu gi.ov gi.pa (by have := gi.lb; omega) (a, n)
  refine WO.ops (StepK.mv rfl) ?_
  refine WO.ops (StepK.mv rfl) ?_
  refine WO.ops (StepK.mv rfl) ?_
  refine WO.ops (StepK.idxSl rfl rfl k1) ?_
  refine WO.ops (StepK.loadN rfl k2) ?_
  refine WO.ops (StepK.buildSl (cs := rn (a, n)) rfl rfl) ?_
  refine WO.ops (StepK.append rfl rfl p1) ?_
  refine WO.ops (StepK.mv rfl) (WO.nil ?_)
  have gnext : GI h c R r0 h7 (i + 1) u v2 A (B ++ [(a, n)]) r :=
    ⟨p2, p3, hi, p5, p4, gi.ou, p6, p8, p7, by have := gi.la; omega, by have := gi.lb; simp; omega, heq, rlo, by push_cast; omega, by
      refine ⟨gi.sub.1, fun t ht => ?_⟩
      rcases List.mem_append.1 ht with q | q
      · exact gi.sub.2 t q
      · simp at q; subst q; exact hmem⟩
  refine (inc _ h7 u v2 _ _ _ (Cov.cons rfl (Cov.cons rfl (Cov.cons rfl (Cov.cons rfl (Cov.cons rfl (Cov.nil _)))))) gnext).mono ?_
  exact onlyN _ _ fun e1 h1 hq => hq
end Abs
end Go.Proofs.Ytkdoemlhjhmfhaa
