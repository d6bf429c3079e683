/- Layer 7: Give: its walk. -/
import Derived.Test.YtkdoemlhjhmfhaaC10
import Derived.Test.YtkdoemlhjhmfhaaC11
import Derived.Test.YtkdoemlhjhmfhaaC15
namespace Go.Proofs.Ytkdoemlhjhmfhaa
namespace Abs
set_option linter.unusedVariables false
set_option linter.unusedSimpArgs false
set_option maxHeartbeats 3200000
open Go.RowKit
attribute [local irreducible] WO WC WD StepK Ans Does Runs DoesD

theorem WC.seqM {C : Cfg} {a b : AC} {e : List (Nat × V)} {h : Heap} {Q : Ex → List (Nat × V) → Heap → Prop} {M : List (Nat × V) → Heap → Prop}
    (hx : WC C a e h (fun x e' h' => match x with | .normal => M e' h' | x => Q x e' h')) (hm : ∀ e' h', M e' h' → WC C b e' h' Q) : WC C (.seq a b) e h Q :=
  WC.seq (hx.mono fun x e' h' q => by
    cases x with
    | normal => exact hm _ _ q
    | exit id => exact q
    | ret => exact q)

/-- What the run, with the one ahead of its place, comes to; from where on it stands. -/
def oneF (R : List (Int × Int)) (i : Nat) (r : Int × Int) : Option (Nat × (Int × Int)) :=
  match (if 0 < i then R[i - 1]? else none) with
  | some p => if p.1 + p.2 ≥ r.1 then (if p.1 + p.2 > r.1 then none else some (i - 1, (p.1, p.2 + r.2))) else some (i, r)
  | none => some (i, r)
def twoF (R : List (Int × Int)) (i : Nat) (r1 : Int × Int) : Option (Nat × (Int × Int)) :=
  match R[i]? with
  | some q => if q.1 ≤ r1.1 + r1.2 then (if q.1 < r1.1 + r1.2 then none else some (i + 1, (r1.1, r1.2 + q.2))) else some (i, r1)
  | none => some (i, r1)
theorem joinF_steps (R : List (Int × Int)) (i : Nat) (r : Int × Int) : joinF R i r = match oneF R i r with
    | none => none
    | some (frm, r1) => match twoF R i r1 with
      | none => none
      | some (to, r2) => some (R.take frm ++ [r2] ++ R.drop to) := by
  have h : joinF R i r = match oneF R i r with
    | none => none
    | some (frm, r1) => match R[i]? with
      | some q => if q.1 ≤ r1.1 + r1.2 then (if q.1 < r1.1 + r1.2 then none else some (R.take frm ++ [(r1.1, r1.2 + q.2)] ++ R.drop (i + 1))) else some (R.take frm ++ [r1] ++ R.drop i)
      | none => some (R.take frm ++ [r1] ++ R.drop i) := rfl
  rw [h]
  cases oneF R i r with
  | none => rfl
  | some p =>
    obtain ⟨frm, r1⟩ := p
    simp only [twoF]
    cases R[i]? with
    | none => rfl
    | some q =>
      simp only
      by_cases e1 : q.1 ≤ r1.1 + r1.2
      · rw [if_pos e1, if_pos e1]
        by_cases e2 : q.1 < r1.1 + r1.2
        · rw [if_pos e2, if_pos e2]
        · rw [if_neg e2, if_neg e2]
      · rw [if_neg e1, if_neg e1]

theorem give_ans {C : Cfg} (hS : ∀ f args h, f ≠ 8 → C.S f args h = none) (hF : C.F 22 = some a22) (hT : C.F = tab) (h : Heap) (hw : Wf h) (x : V) (R : List (Int × Int)) (r0 : Int × Int) (hx : Sl h 2 x (R.map rn)) (hb : ∀ r ∈ R, -9223372036854775808 ≤ r.2 ∧ r.2 < 9223372036854775808) (hr0 : -9223372036854775808 ≤ r0.2 ∧ r0.2 < 9223372036854775808) (hl : R.length ≤ 300) : Ans C 22 [x, .agg (rn r0)] h fun v h' => ∃ u, v = .tuple [u, .bool (giveF R r0).2] ∧ Sl h' 2 u ((giveF R r0).1.map rn) ∧ Grow h h' := by
  unfold a22 at hF
  refine Ans.fn (fun _ _ => hS _ _ _ (by decide)) hF rfl rfl hw fun h2 g => ?_
  clear hF
  have hsl : slLen x = some R.length := by rw [hx.len, List.length_map]
  refine WC.seqO ?_
  refine WO.ops (StepK.box rfl) ?_
  have gp : Grow h2 (h2.push (.cells (rn r0) (.tip [] 0))) := (Grow.refl g.wf).push _
  have hbox : (h2.push (.cells (rn r0) (.tip [] 0))).get h2.size = some (.cells (rn r0) (.tip [] 0)) := get_push_self _ _
  have g3 := g.trans gp
  have hcs := g.size
  show WO C _ _ (h2.push (.cells (rn r0) (.tip [] 0))) _
  generalize h2.push (.cells (rn r0) (.tip [] 0)) = h3 at *
  generalize h2.size = c at *
  (repeat (first | refine WO.ops (StepK.mv rfl) ?_ | refine WO.ops (StepK.lenSl rfl (by first | with_reducible assumption | rfl)) ?_ | refine WO.ops (StepK.fieldAddr rfl) ?_ | refine WO.ops (StepK.add rfl rfl (by omega)) ?_ | refine WO.ops (StepK.sub rfl rfl (by omega)) ?_ | refine WO.ops (StepK.bin rfl rfl rfl) ?_ | refine WO.ops (StepK.pickT rfl rfl) ?_ | refine WO.ops (StepK.pickF rfl rfl) ?_ | refine WO.ops (StepK.not rfl) ?_ | refine WO.ops (StepK.eq rfl rfl rfl) ?_ | refine WO.ops (StepK.extract rfl rfl) ?_ | refine WO.ops (StepK.build rfl rfl) ?_ | refine WO.ops (StepK.mkFn rfl rfl) ?_ | refine WO.ops (StepK.field rfl rfl) ?_ | refine WO.ops (StepK.lenStr rfl) ?_ | refine WO.ops (StepK.min2 rfl rfl) ?_ | refine WO.ops (StepK.max2 rfl rfl) ?_ | refine WO.ops (StepK.load1 rfl (by first | with_reducible assumption | rfl)) ?_ | refine WO.run rfl ?_ | refine WO.skip rfl rfl ?_ | refine WO.skipu rfl ?_))
  refine WO.nil (WC.seq (WC.seqO ?_))
  have none_ : ∀ (e : List (Nat × V)) (h5 : Heap) (Q : Ex → List (Nat × V) → Heap → Prop), Q .ret ((5, .bool false) :: (4, .slice none 0 0) :: e) h5 → WC C (.seq (.ops [⟨(some 4), none, .mv (.c (.slice none 0 0))⟩, ⟨(some 5), none, .mv (.c (.bool false))⟩]) (.ret)) e h5 Q := by
    intro e h5 Q hQ
    refine WC.seqO ?_
    (repeat (first | refine WO.ops (StepK.mv rfl) ?_ | refine WO.ops (StepK.lenSl rfl (by first | with_reducible assumption | rfl)) ?_ | refine WO.ops (StepK.fieldAddr rfl) ?_ | refine WO.ops (StepK.add rfl rfl (by omega)) ?_ | refine WO.ops (StepK.sub rfl rfl (by omega)) ?_ | refine WO.ops (StepK.bin rfl rfl rfl) ?_ | refine WO.ops (StepK.pickT rfl rfl) ?_ | refine WO.ops (StepK.pickF rfl rfl) ?_ | refine WO.ops (StepK.not rfl) ?_ | refine WO.ops (StepK.eq rfl rfl rfl) ?_ | refine WO.ops (StepK.extract rfl rfl) ?_ | refine WO.ops (StepK.build rfl rfl) ?_ | refine WO.ops (StepK.mkFn rfl rfl) ?_ | refine WO.ops (StepK.field rfl rfl) ?_ | refine WO.ops (StepK.lenStr rfl) ?_ | refine WO.ops (StepK.min2 rfl rfl) ?_ | refine WO.ops (StepK.max2 rfl rfl) ?_ | refine WO.ops (StepK.load1 rfl (by first | with_reducible assumption | rfl)) ?_ | refine WO.run rfl ?_ | refine WO.skip rfl rfl ?_ | refine WO.skipu rfl ?_))
    exact WO.nil (WC.ret hQ)
  have fin : giveF R r0 = ([], false) → ∀ (e : List (Nat × V)) (h5 : Heap), Grow h h5 → Fin .ret ∧ Wf h5 ∧ ∃ v, retE ((5, .bool false) :: (4, .slice none 0 0) :: e) h5 [.tmp 4, .tmp 5] = some v ∧ (∀ h3, Grow h5 h3 → ∃ u, v = .tuple [u, .bool (giveF R r0).2] ∧ Sl h3 2 u ((giveF R r0).1.map rn) ∧ Grow h h3) ∧ (v.scopd h.size = true → ∃ u, v = .tuple [u, .bool (giveF R r0).2] ∧ Sl h 2 u ((giveF R r0).1.map rn) ∧ Grow h h) := by
    intro hz e h5 g5
    rw [hz]
    exact ⟨trivial, g5.wf, _, rfl, fun h6 g6 => ⟨_, rfl, Sl.nil h6 2, g5.trans g6⟩, fun _ => ⟨_, rfl, Sl.nil h 2, Grow.refl hw⟩⟩
  refine WO.ops (StepK.mv rfl) ?_
  refine WO.call rfl rfl (may_ans hS (show C.F 10 = some a10 by rw [hT]; rfl) (show C.F 24 = some a24 by rw [hT]; rfl) h3 g3.wf x R (hx.grow g3) hb (by omega)) ?_
  rintro v h4 ⟨rfl, g4⟩
  have hbox := g4.ext _ _ hbox
  have g4 := g3.trans g4
  (repeat (first | refine WO.ops (StepK.mv rfl) ?_ | refine WO.ops (StepK.lenSl rfl (by first | with_reducible assumption | rfl)) ?_ | refine WO.ops (StepK.fieldAddr rfl) ?_ | refine WO.ops (StepK.add rfl rfl (by omega)) ?_ | refine WO.ops (StepK.sub rfl rfl (by omega)) ?_ | refine WO.ops (StepK.bin rfl rfl rfl) ?_ | refine WO.ops (StepK.pickT rfl rfl) ?_ | refine WO.ops (StepK.pickF rfl rfl) ?_ | refine WO.ops (StepK.not rfl) ?_ | refine WO.ops (StepK.eq rfl rfl rfl) ?_ | refine WO.ops (StepK.extract rfl rfl) ?_ | refine WO.ops (StepK.build rfl rfl) ?_ | refine WO.ops (StepK.mkFn rfl rfl) ?_ | refine WO.ops (StepK.field rfl rfl) ?_ | refine WO.ops (StepK.lenStr rfl) ?_ | refine WO.ops (StepK.min2 rfl rfl) ?_ | refine WO.ops (StepK.max2 rfl rfl) ?_ | refine WO.ops (StepK.load1 rfl (by first | with_reducible assumption | rfl)) ?_ | refine WO.run rfl ?_ | refine WO.skip rfl rfl ?_ | refine WO.skipu rfl ?_))
  refine WO.splitG rfl (fun hc1 => ?_) (fun hc1 => ?_)
  · have hm : mayF (-1) R = false := by simpa using hc1
    (repeat (first | refine WO.ops (StepK.mv rfl) ?_ | refine WO.ops (StepK.lenSl rfl (by first | with_reducible assumption | rfl)) ?_ | refine WO.ops (StepK.fieldAddr rfl) ?_ | refine WO.ops (StepK.add rfl rfl (by omega)) ?_ | refine WO.ops (StepK.sub rfl rfl (by omega)) ?_ | refine WO.ops (StepK.bin rfl rfl rfl) ?_ | refine WO.ops (StepK.pickT rfl rfl) ?_ | refine WO.ops (StepK.pickF rfl rfl) ?_ | refine WO.ops (StepK.not rfl) ?_ | refine WO.ops (StepK.eq rfl rfl rfl) ?_ | refine WO.ops (StepK.extract rfl rfl) ?_ | refine WO.ops (StepK.build rfl rfl) ?_ | refine WO.ops (StepK.mkFn rfl rfl) ?_ | refine WO.ops (StepK.field rfl rfl) ?_ | refine WO.ops (StepK.lenStr rfl) ?_ | refine WO.ops (StepK.min2 rfl rfl) ?_ | refine WO.ops (StepK.max2 rfl rfl) ?_ | refine WO.ops (StepK.load1 rfl (by first | with_reducible assumption | rfl)) ?_ | refine WO.run rfl ?_ | refine WO.skip rfl rfl ?_ | refine WO.skipu rfl ?_))
    refine WO.nil (WC.condT rfl (none_ _ _ _ (fin ?_ _ _ g4)))
    rw [giveF, if_pos (.inl hm)]
  have hm : mayF (-1) R = true := by simpa using hc1
  have r2 : h4.rds c 0 2 = some (rn r0) := rds_all hbox rfl
  refine WO.run rfl ?_
  refine WO.ops (StepK.loadN rfl r2) ?_
  refine WO.run rfl ?_
  refine WO.ops (StepK.buildSl (cs := rn r0) rfl rfl) ?_
  have gp : Grow h4 (h4.push (.cells (rn r0) (.tip [] 0))) := (Grow.refl g4.wf).push _
  have hnew : Sl (h4.push (.cells (rn r0) (.tip [] 0))) 2 (.slice (some (h4.size, 0)) 1 1) ([r0].map rn) :=
    ⟨by simp, rfl, Nat.le_refl _, fun _ => rds_all (st := .tip [] 0) (by rw [get_push_self]; rfl) rfl⟩
  refine WO.run rfl ?_
  refine WO.call rfl rfl (may_ans hS (show C.F 10 = some a10 by rw [hT]; rfl) (show C.F 24 = some a24 by rw [hT]; rfl) _ gp.wf _ [r0] hnew (by intro r hr; simp at hr; subst hr; exact hr0) (by simp)) ?_
  rintro v h5 ⟨rfl, g5⟩
  have hbox := g5.ext _ _ (gp.ext _ _ hbox)
  have g5 := (g4.trans gp).trans g5
  (repeat (first | refine WO.ops (StepK.mv rfl) ?_ | refine WO.ops (StepK.lenSl rfl (by first | with_reducible assumption | rfl)) ?_ | refine WO.ops (StepK.fieldAddr rfl) ?_ | refine WO.ops (StepK.add rfl rfl (by omega)) ?_ | refine WO.ops (StepK.sub rfl rfl (by omega)) ?_ | refine WO.ops (StepK.bin rfl rfl rfl) ?_ | refine WO.ops (StepK.pickT rfl rfl) ?_ | refine WO.ops (StepK.pickF rfl rfl) ?_ | refine WO.ops (StepK.not rfl) ?_ | refine WO.ops (StepK.eq rfl rfl rfl) ?_ | refine WO.ops (StepK.extract rfl rfl) ?_ | refine WO.ops (StepK.build rfl rfl) ?_ | refine WO.ops (StepK.mkFn rfl rfl) ?_ | refine WO.ops (StepK.field rfl rfl) ?_ | refine WO.ops (StepK.lenStr rfl) ?_ | refine WO.ops (StepK.min2 rfl rfl) ?_ | refine WO.ops (StepK.max2 rfl rfl) ?_ | refine WO.ops (StepK.load1 rfl (by first | with_reducible assumption | rfl)) ?_ | refine WO.run rfl ?_ | refine WO.skip rfl rfl ?_ | refine WO.skipu rfl ?_))
  refine WO.nil (WC.cond rfl (fun hc2 => none_ _ _ _ (fin ?_ _ _ g5)) (fun hc2 => WC.skip (WC.seqO ?_)))
  · have hm1 : mayF (-1) [r0] = false := by simpa using hc2
    rw [giveF, if_pos (.inr hm1)]
  have hm1 : mayF (-1) [r0] = true := by simpa using hc2
  have hone := may_one hm1
  have hbd := mayF_bounds R (-1) (by omega) hm
  have r2 : h5.rds c 0 2 = some (rn r0) := rds_all hbox rfl
  refine WO.ops (StepK.mv rfl) ?_
  refine WO.ops (StepK.loadN rfl r2) ?_
  refine WO.call rfl rfl (search_ans hS (show C.F 30 = some a30 by rw [hT]; rfl) (show C.F 31 = some a31 by rw [hT]; rfl) h5 g5.wf x R r0 (hx.grow g5) hl (fun r hr => by have := hbd r hr; omega) (by omega) (mayF_mono R (-1) (by omega) hm).2) ?_
  rintro v h6 ⟨i, bb, rfl, hcut, g6⟩
  have hbox := g6.ext _ _ hbox
  have g6 := g5.trans g6
  have hj : refG [] r0 [] R = joinF R i r0 := by
    rw [refG_join R [] r0 i (-1) hone.2.2.1 (Sorted.of_may R (-1) hm) hcut]
    cases joinF R i r0 <;> simp
  have hg : giveF R r0 = match joinF R i r0 with
    | none => ([], false)
    | some out => if mayF (-1) out then (out, true) else ([], false) := by
    rw [giveF, if_neg (by rw [hm, hm1]; simp), hj]
    rfl
  rw [joinF_steps] at hg
  have hil := hcut.1
  clear hj hcut
  (repeat (first | refine WO.ops (StepK.mv rfl) ?_ | refine WO.ops (StepK.lenSl rfl (by first | with_reducible assumption | rfl)) ?_ | refine WO.ops (StepK.fieldAddr rfl) ?_ | refine WO.ops (StepK.add rfl rfl (by omega)) ?_ | refine WO.ops (StepK.sub rfl rfl (by omega)) ?_ | refine WO.ops (StepK.bin rfl rfl rfl) ?_ | refine WO.ops (StepK.pickT rfl rfl) ?_ | refine WO.ops (StepK.pickF rfl rfl) ?_ | refine WO.ops (StepK.not rfl) ?_ | refine WO.ops (StepK.eq rfl rfl rfl) ?_ | refine WO.ops (StepK.extract rfl rfl) ?_ | refine WO.ops (StepK.build rfl rfl) ?_ | refine WO.ops (StepK.mkFn rfl rfl) ?_ | refine WO.ops (StepK.field rfl rfl) ?_ | refine WO.ops (StepK.lenStr rfl) ?_ | refine WO.ops (StepK.min2 rfl rfl) ?_ | refine WO.ops (StepK.max2 rfl rfl) ?_ | refine WO.ops (StepK.load1 rfl (by first | with_reducible assumption | rfl)) ?_ | refine WO.run rfl ?_ | refine WO.skip rfl rfl ?_ | refine WO.skipu rfl ?_))
  refine WO.nil (WC.seqO ?_)
  (repeat (first | refine WO.ops (StepK.mv rfl) ?_ | refine WO.ops (StepK.lenSl rfl (by first | with_reducible assumption | rfl)) ?_ | refine WO.ops (StepK.fieldAddr rfl) ?_ | refine WO.ops (StepK.add rfl rfl (by omega)) ?_ | refine WO.ops (StepK.sub rfl rfl (by omega)) ?_ | refine WO.ops (StepK.bin rfl rfl rfl) ?_ | refine WO.ops (StepK.pickT rfl rfl) ?_ | refine WO.ops (StepK.pickF rfl rfl) ?_ | refine WO.ops (StepK.not rfl) ?_ | refine WO.ops (StepK.eq rfl rfl rfl) ?_ | refine WO.ops (StepK.extract rfl rfl) ?_ | refine WO.ops (StepK.build rfl rfl) ?_ | refine WO.ops (StepK.mkFn rfl rfl) ?_ | refine WO.ops (StepK.field rfl rfl) ?_ | refine WO.ops (StepK.lenStr rfl) ?_ | refine WO.ops (StepK.min2 rfl rfl) ?_ | refine WO.ops (StepK.max2 rfl rfl) ?_ | refine WO.ops (StepK.load1 rfl (by first | with_reducible assumption | rfl)) ?_ | refine WO.run rfl ?_ | refine WO.skip rfl rfl ?_ | refine WO.skipu rfl ?_))
  refine WO.nil ?_
  have w0 : h6.rd c (0 + 0) = some (iv r0.1) := rd_get hbox rfl
  have w1 : h6.rd c (0 + 1) = some (iv r0.2) := rd_get hbox rfl
  -- the run ahead
  refine WC.seqM (M := fun e' h' => ∃ (frm : Nat) (r1 : Int × Int), oneF R i r0 = some (frm, r1) ∧ Cov [(0, x), (3, .ptr (some (c, 0))), (6, iv i), (8, iv frm), (9, iv i)] e' ∧ Grow h h' ∧ h'.get c = some (.cells (rn r1) (.tip [] 0)) ∧ frm ≤ i ∧ (0 ≤ r1.1 ∧ r1.1 ≤ 1073741824) ∧ 1 ≤ r1.2 ∧ r1.2 ≤ 2147483648) ?_ ?_
  · refine WC.seqD ?_
    (repeat (first | refine WD.pure (StepK.mv rfl) rfl ?_ | refine WD.pure (StepK.lenSl rfl (by first | with_reducible assumption | rfl)) rfl ?_ | refine WD.pure (StepK.fieldAddr rfl) rfl ?_ | refine WD.pure (StepK.add rfl rfl (by omega)) rfl ?_ | refine WD.pure (StepK.sub rfl rfl (by omega)) rfl ?_ | refine WD.pure (StepK.bin rfl rfl rfl) rfl ?_ | refine WD.pure (StepK.pickT rfl rfl) rfl ?_ | refine WD.pure (StepK.pickF rfl rfl) rfl ?_ | refine WD.pure (StepK.not rfl) rfl ?_ | refine WD.pure (StepK.eq rfl rfl rfl) rfl ?_ | refine WD.pure (StepK.extract rfl rfl) rfl ?_ | refine WD.pure (StepK.build rfl rfl) rfl ?_ | refine WD.pure (StepK.mkFn rfl rfl) rfl ?_ | refine WD.pure (StepK.field rfl rfl) rfl ?_ | refine WD.pure (StepK.lenStr rfl) rfl ?_ | refine WD.pure (StepK.min2 rfl rfl) rfl ?_ | refine WD.pure (StepK.max2 rfl rfl) rfl ?_ | refine WD.load1 rfl (by first | with_reducible assumption | rfl) ?_ | refine WD.run rfl ?_ | refine WD.skipn rfl rfl rfl ?_ | refine WD.skipun rfl rfl ?_))
    refine WD.splitG rfl (fun hc3 => ?_) (fun hc3 => ?_)
    rotate_left
    · have hc3 := of_decide_eq_false hc3
      (repeat (first | refine WD.pure (StepK.mv rfl) rfl ?_ | refine WD.pure (StepK.lenSl rfl (by first | with_reducible assumption | rfl)) rfl ?_ | refine WD.pure (StepK.fieldAddr rfl) rfl ?_ | refine WD.pure (StepK.add rfl rfl (by omega)) rfl ?_ | refine WD.pure (StepK.sub rfl rfl (by omega)) rfl ?_ | refine WD.pure (StepK.bin rfl rfl rfl) rfl ?_ | refine WD.pure (StepK.pickT rfl rfl) rfl ?_ | refine WD.pure (StepK.pickF rfl rfl) rfl ?_ | refine WD.pure (StepK.not rfl) rfl ?_ | refine WD.pure (StepK.eq rfl rfl rfl) rfl ?_ | refine WD.pure (StepK.extract rfl rfl) rfl ?_ | refine WD.pure (StepK.build rfl rfl) rfl ?_ | refine WD.pure (StepK.mkFn rfl rfl) rfl ?_ | refine WD.pure (StepK.field rfl rfl) rfl ?_ | refine WD.pure (StepK.lenStr rfl) rfl ?_ | refine WD.pure (StepK.min2 rfl rfl) rfl ?_ | refine WD.pure (StepK.max2 rfl rfl) rfl ?_ | refine WD.load1 rfl (by first | with_reducible assumption | rfl) ?_ | refine WD.run rfl ?_ | refine WD.skipn rfl rfl rfl ?_ | refine WD.skipun rfl rfl ?_))
      refine WD.skip (fun _ => trivial) rfl rfl ?_
      (repeat (first | refine WD.pure (StepK.mv rfl) rfl ?_ | refine WD.pure (StepK.lenSl rfl (by first | with_reducible assumption | rfl)) rfl ?_ | refine WD.pure (StepK.fieldAddr rfl) rfl ?_ | refine WD.pure (StepK.add rfl rfl (by omega)) rfl ?_ | refine WD.pure (StepK.sub rfl rfl (by omega)) rfl ?_ | refine WD.pure (StepK.bin rfl rfl rfl) rfl ?_ | refine WD.pure (StepK.pickT rfl rfl) rfl ?_ | refine WD.pure (StepK.pickF rfl rfl) rfl ?_ | refine WD.pure (StepK.not rfl) rfl ?_ | refine WD.pure (StepK.eq rfl rfl rfl) rfl ?_ | refine WD.pure (StepK.extract rfl rfl) rfl ?_ | refine WD.pure (StepK.build rfl rfl) rfl ?_ | refine WD.pure (StepK.mkFn rfl rfl) rfl ?_ | refine WD.pure (StepK.field rfl rfl) rfl ?_ | refine WD.pure (StepK.lenStr rfl) rfl ?_ | refine WD.pure (StepK.min2 rfl rfl) rfl ?_ | refine WD.pure (StepK.max2 rfl rfl) rfl ?_ | refine WD.load1 rfl (by first | with_reducible assumption | rfl) ?_ | refine WD.run rfl ?_ | refine WD.skipn rfl rfl rfl ?_ | refine WD.skipun rfl rfl ?_))
      refine WD.nil trivial (WC.condF rfl (WC.skip ⟨i, r0, ?_, Cov.cons rfl (Cov.cons rfl (Cov.cons rfl (Cov.cons rfl (Cov.cons rfl (Cov.nil _))))), g6, hbox, Nat.le_refl _, by omega, by omega, by omega⟩))
      rw [oneF, if_neg (by omega)]
    have hc3 := of_decide_eq_true hc3
    have hi1 : i - 1 < R.length := by omega
    have hcast : (i : Int) - 1 = ((i - 1 : Nat) : Int) := by omega
    obtain ⟨b, o, k1, k2⟩ := (hx.grow g6).at (i := i - 1) (by rw [List.length_map]; exact hi1)
    rw [List.getElem_map] at k2
    have hmem : R[i - 1] ∈ R := List.getElem_mem hi1
    have hri : R[i - 1]? = some R[i - 1] := List.getElem?_eq_getElem hi1
    generalize R[i - 1] = s at hmem hri k2
    have hsb := hbd s hmem
    have ho : oneF R i r0 = if s.1 + s.2 ≥ r0.1 then (if s.1 + s.2 > r0.1 then none else some (i - 1, (s.1, s.2 + r0.2))) else some (i, r0) := by
      rw [oneF, if_pos (by omega), hri]
    obtain ⟨a, n⟩ := s
    simp only at hsb ho
    refine WD.run rfl (WD.pure (StepK.mv rfl) rfl ?_)
    refine WD.run rfl (WD.pure (StepK.mv rfl) rfl ?_)
    refine WD.run rfl (WD.pure (StepK.sub rfl rfl (by omega)) rfl ?_)
    rw [hcast]
    refine WD.run rfl (WD.pure (StepK.idxSl rfl rfl k1) rfl ?_)
    refine WD.run rfl (WD.loadN rfl k2 ?_)
    refine WD.run rfl (WD.pure (StepK.fieldAddr rfl) rfl ?_)
    refine WD.run rfl (WD.load1 rfl w0 ?_)
    refine WD.run rfl (WD.call ⟨w0, k2, trivial⟩ rfl rfl (end_ans hS (show C.F 24 = some a24 by rw [hT]; rfl) h6 g6.wf a n) ?_)
    rintro v h7 ⟨rfl, g7⟩
    have k2 := g7.rds k2
    have w0 := g7.rd w0
    have w1 := g7.rd w1
    have hbox := g7.ext _ _ hbox
    have g7 := g6.trans g7
    rw [StepK.wrap64 (by omega) (by omega)]
    (repeat (first | refine WD.pure (StepK.mv rfl) rfl ?_ | refine WD.pure (StepK.lenSl rfl (by first | with_reducible assumption | rfl)) rfl ?_ | refine WD.pure (StepK.fieldAddr rfl) rfl ?_ | refine WD.pure (StepK.add rfl rfl (by omega)) rfl ?_ | refine WD.pure (StepK.sub rfl rfl (by omega)) rfl ?_ | refine WD.pure (StepK.bin rfl rfl rfl) rfl ?_ | refine WD.pure (StepK.pickT rfl rfl) rfl ?_ | refine WD.pure (StepK.pickF rfl rfl) rfl ?_ | refine WD.pure (StepK.not rfl) rfl ?_ | refine WD.pure (StepK.eq rfl rfl rfl) rfl ?_ | refine WD.pure (StepK.extract rfl rfl) rfl ?_ | refine WD.pure (StepK.build rfl rfl) rfl ?_ | refine WD.pure (StepK.mkFn rfl rfl) rfl ?_ | refine WD.pure (StepK.field rfl rfl) rfl ?_ | refine WD.pure (StepK.lenStr rfl) rfl ?_ | refine WD.pure (StepK.min2 rfl rfl) rfl ?_ | refine WD.pure (StepK.max2 rfl rfl) rfl ?_ | refine WD.load1 rfl (by first | with_reducible assumption | rfl) ?_ | refine WD.run rfl ?_ | refine WD.skipn rfl rfl rfl ?_ | refine WD.skipun rfl rfl ?_))
    refine WD.nil ⟨w0, trivial⟩ (WC.cond rfl (fun hc4 => WC.seq (WC.seqD ?_)) (fun hc4 => WC.skip ?_))
    rotate_left
    · have hc4 := of_decide_eq_false hc4
      refine ⟨i, r0, by rw [ho, if_neg hc4], Cov.cons rfl (Cov.cons rfl (Cov.cons rfl (Cov.cons rfl (Cov.cons rfl (Cov.nil _))))), g7, hbox, Nat.le_refl _, by omega, by omega, by omega⟩
    have hc4 := of_decide_eq_true hc4
    rw [if_pos hc4] at ho
    refine WD.pure (StepK.mv rfl) rfl ?_
    refine WD.pure (StepK.mv rfl) rfl ?_
    refine WD.pure (StepK.sub rfl rfl (by omega)) rfl ?_
    rw [hcast]
    refine WD.pure (StepK.idxSl rfl rfl k1) rfl ?_
    refine WD.loadN rfl k2 ?_
    refine WD.pure (StepK.fieldAddr rfl) rfl ?_
    refine WD.load1 rfl w0 ?_
    refine WD.call ⟨w0, k2, trivial⟩ rfl rfl (end_ans hS (show C.F 24 = some a24 by rw [hT]; rfl) h7 g7.wf a n) ?_
    rintro v h8 ⟨rfl, g8⟩
    have k2 := g8.rds k2
    have w0 := g8.rd w0
    have w1 := g8.rd w1
    have hbox := g8.ext _ _ hbox
    have g8 := g7.trans g8
    rw [StepK.wrap64 (by omega) (by omega)]
    (repeat (first | refine WD.pure (StepK.mv rfl) rfl ?_ | refine WD.pure (StepK.lenSl rfl (by first | with_reducible assumption | rfl)) rfl ?_ | refine WD.pure (StepK.fieldAddr rfl) rfl ?_ | refine WD.pure (StepK.add rfl rfl (by omega)) rfl ?_ | refine WD.pure (StepK.sub rfl rfl (by omega)) rfl ?_ | refine WD.pure (StepK.bin rfl rfl rfl) rfl ?_ | refine WD.pure (StepK.pickT rfl rfl) rfl ?_ | refine WD.pure (StepK.pickF rfl rfl) rfl ?_ | refine WD.pure (StepK.not rfl) rfl ?_ | refine WD.pure (StepK.eq rfl rfl rfl) rfl ?_ | refine WD.pure (StepK.extract rfl rfl) rfl ?_ | refine WD.pure (StepK.build rfl rfl) rfl ?_ | refine WD.pure (StepK.mkFn rfl rfl) rfl ?_ | refine WD.pure (StepK.field rfl rfl) rfl ?_ | refine WD.pure (StepK.lenStr rfl) rfl ?_ | refine WD.pure (StepK.min2 rfl rfl) rfl ?_ | refine WD.pure (StepK.max2 rfl rfl) rfl ?_ | refine WD.load1 rfl (by first | with_reducible assumption | rfl) ?_ | refine WD.run rfl ?_ | refine WD.skipn rfl rfl rfl ?_ | refine WD.skipun rfl rfl ?_))
    refine WD.nil ⟨w0, trivial⟩ (WC.cond rfl (fun hc5 => none_ _ _ _ (fin ?_ _ _ g8)) (fun hc5 => WC.skip (WC.draw ?_)))
    · have hc5 := of_decide_eq_true hc5
      rw [if_pos hc5] at ho
      rw [hg, ho]
    have hc5 := of_decide_eq_false hc5
    rw [if_neg hc5] at ho
    have q0 : h8.rd b (o + 0) = some (iv a) := rds_rd k2 rfl
    have q1 : h8.rd b (o + 1) = some (iv n) := rds_rd k2 rfl
    have s1 := wr_two (u := iv a) (w := iv (n + r0.2)) hbox rfl rfl
    refine WD.pure (StepK.mv rfl) rfl ?_
    refine WD.pure (StepK.sub rfl rfl (by omega)) rfl ?_
    rw [hcast]
    refine WD.pure (StepK.mv rfl) rfl ?_
    refine WD.pure (StepK.mv rfl) rfl ?_
    refine WD.pure (StepK.sub rfl rfl (by omega)) rfl ?_
    rw [hcast]
    refine WD.pure (StepK.idxSl rfl rfl k1) rfl ?_
    refine WD.pure (StepK.fieldAddr rfl) rfl ?_
    refine WD.load1 rfl q0 ?_
    refine WD.pure (StepK.mv rfl) rfl ?_
    refine WD.pure (StepK.mv rfl) rfl ?_
    refine WD.pure (StepK.sub rfl rfl (by omega)) rfl ?_
    rw [hcast]
    refine WD.pure (StepK.idxSl rfl rfl k1) rfl ?_
    refine WD.pure (StepK.fieldAddr rfl) rfl ?_
    refine WD.load1 rfl q1 ?_
    refine WD.pure (StepK.fieldAddr rfl) rfl ?_
    refine WD.load1 rfl w1 ?_
    refine WD.pure (StepK.add rfl rfl (by omega)) rfl ?_
    refine WD.pure (StepK.build (cs := rn (a, n + r0.2)) rfl rfl) rfl ?_
    refine WD.pure (StepK.mv rfl) rfl ?_
    refine WD.opC ⟨w1, q1, q0, trivial⟩ rfl (StepK.store rfl rfl rfl s1) ?_
    refine WD.nil trivial ⟨i - 1, (a, n + r0.2), ho, Cov.cons rfl (Cov.cons rfl (Cov.cons rfl (Cov.cons rfl (Cov.cons rfl (Cov.nil _))))), g8.put hcs (Wf.lt g8.wf hbox) hw _, by rw [get_put, if_pos rfl], by omega, by simp only; omega, by simp only; omega, by simp only; omega⟩
  clear hbox w0 w1 r2
  rintro e1 h7 ⟨frm, r1, ho, hcov, g7, hbox, hfrm, b1, b2, b3⟩
  rw [ho] at hg
  simp only at hg
  clear ho
  refine WC.cov hcov ?_
  clear hcov
  have w0 : h7.rd c (0 + 0) = some (iv r1.1) := rd_get hbox rfl
  have w1 : h7.rd c (0 + 1) = some (iv r1.2) := rd_get hbox rfl
  have r2 : h7.rds c 0 2 = some (rn r1) := rds_all hbox rfl
  -- the run behind
  refine WC.seqM (M := fun e' h' => ∃ (to : Nat) (r2 : Int × Int), twoF R i r1 = some (to, r2) ∧ Cov [(0, x), (3, .ptr (some (c, 0))), (8, iv frm), (9, iv to)] e' ∧ Grow h h' ∧ h'.get c = some (.cells (rn r2) (.tip [] 0)) ∧ to ≤ R.length ∧ 1 ≤ r2.2 ∧ r2.2 ≤ 4294967296) ?_ ?_
  · refine WC.seqD ?_
    refine WD.pure (StepK.mv rfl) rfl ?_
    refine WD.pure (StepK.mv rfl) rfl ?_
    refine WD.pure (StepK.lenSl rfl hsl) rfl ?_
    (repeat (first | refine WD.pure (StepK.mv rfl) rfl ?_ | refine WD.pure (StepK.lenSl rfl (by first | with_reducible assumption | rfl)) rfl ?_ | refine WD.pure (StepK.fieldAddr rfl) rfl ?_ | refine WD.pure (StepK.add rfl rfl (by omega)) rfl ?_ | refine WD.pure (StepK.sub rfl rfl (by omega)) rfl ?_ | refine WD.pure (StepK.bin rfl rfl rfl) rfl ?_ | refine WD.pure (StepK.pickT rfl rfl) rfl ?_ | refine WD.pure (StepK.pickF rfl rfl) rfl ?_ | refine WD.pure (StepK.not rfl) rfl ?_ | refine WD.pure (StepK.eq rfl rfl rfl) rfl ?_ | refine WD.pure (StepK.extract rfl rfl) rfl ?_ | refine WD.pure (StepK.build rfl rfl) rfl ?_ | refine WD.pure (StepK.mkFn rfl rfl) rfl ?_ | refine WD.pure (StepK.field rfl rfl) rfl ?_ | refine WD.pure (StepK.lenStr rfl) rfl ?_ | refine WD.pure (StepK.min2 rfl rfl) rfl ?_ | refine WD.pure (StepK.max2 rfl rfl) rfl ?_ | refine WD.load1 rfl (by first | with_reducible assumption | rfl) ?_ | refine WD.run rfl ?_ | refine WD.skipn rfl rfl rfl ?_ | refine WD.skipun rfl rfl ?_))
    refine WD.splitG rfl (fun hc3 => ?_) (fun hc3 => ?_)
    rotate_left
    · have hc3 := of_decide_eq_false hc3
      (repeat (first | refine WD.pure (StepK.mv rfl) rfl ?_ | refine WD.pure (StepK.lenSl rfl (by first | with_reducible assumption | rfl)) rfl ?_ | refine WD.pure (StepK.fieldAddr rfl) rfl ?_ | refine WD.pure (StepK.add rfl rfl (by omega)) rfl ?_ | refine WD.pure (StepK.sub rfl rfl (by omega)) rfl ?_ | refine WD.pure (StepK.bin rfl rfl rfl) rfl ?_ | refine WD.pure (StepK.pickT rfl rfl) rfl ?_ | refine WD.pure (StepK.pickF rfl rfl) rfl ?_ | refine WD.pure (StepK.not rfl) rfl ?_ | refine WD.pure (StepK.eq rfl rfl rfl) rfl ?_ | refine WD.pure (StepK.extract rfl rfl) rfl ?_ | refine WD.pure (StepK.build rfl rfl) rfl ?_ | refine WD.pure (StepK.mkFn rfl rfl) rfl ?_ | refine WD.pure (StepK.field rfl rfl) rfl ?_ | refine WD.pure (StepK.lenStr rfl) rfl ?_ | refine WD.pure (StepK.min2 rfl rfl) rfl ?_ | refine WD.pure (StepK.max2 rfl rfl) rfl ?_ | refine WD.load1 rfl (by first | with_reducible assumption | rfl) ?_ | refine WD.run rfl ?_ | refine WD.skipn rfl rfl rfl ?_ | refine WD.skipun rfl rfl ?_))
      refine WD.skip (fun _ => trivial) rfl rfl ?_
      (repeat (first | refine WD.pure (StepK.mv rfl) rfl ?_ | refine WD.pure (StepK.lenSl rfl (by first | with_reducible assumption | rfl)) rfl ?_ | refine WD.pure (StepK.fieldAddr rfl) rfl ?_ | refine WD.pure (StepK.add rfl rfl (by omega)) rfl ?_ | refine WD.pure (StepK.sub rfl rfl (by omega)) rfl ?_ | refine WD.pure (StepK.bin rfl rfl rfl) rfl ?_ | refine WD.pure (StepK.pickT rfl rfl) rfl ?_ | refine WD.pure (StepK.pickF rfl rfl) rfl ?_ | refine WD.pure (StepK.not rfl) rfl ?_ | refine WD.pure (StepK.eq rfl rfl rfl) rfl ?_ | refine WD.pure (StepK.extract rfl rfl) rfl ?_ | refine WD.pure (StepK.build rfl rfl) rfl ?_ | refine WD.pure (StepK.mkFn rfl rfl) rfl ?_ | refine WD.pure (StepK.field rfl rfl) rfl ?_ | refine WD.pure (StepK.lenStr rfl) rfl ?_ | refine WD.pure (StepK.min2 rfl rfl) rfl ?_ | refine WD.pure (StepK.max2 rfl rfl) rfl ?_ | refine WD.load1 rfl (by first | with_reducible assumption | rfl) ?_ | refine WD.run rfl ?_ | refine WD.skipn rfl rfl rfl ?_ | refine WD.skipun rfl rfl ?_))
      refine WD.nil trivial (WC.condF rfl (WC.skip ⟨i, r1, ?_, Cov.cons rfl (Cov.cons rfl (Cov.cons rfl (Cov.cons rfl (Cov.nil _)))), g7, hbox, hil, by omega, by omega⟩))
      rw [twoF, List.getElem?_eq_none (by omega)]
    have hc3 := of_decide_eq_true hc3
    have hi1 : i < R.length := by omega
    obtain ⟨b, o, k1, k2⟩ := (hx.grow g7).at (i := i) (by rw [List.length_map]; exact hi1)
    rw [List.getElem_map] at k2
    have hmem : R[i] ∈ R := List.getElem_mem hi1
    have hri : R[i]? = some R[i] := List.getElem?_eq_getElem hi1
    generalize R[i] = s at hmem hri k2
    have hsb := hbd s hmem
    have ho : twoF R i r1 = if s.1 ≤ r1.1 + r1.2 then (if s.1 < r1.1 + r1.2 then none else some (i + 1, (r1.1, r1.2 + s.2))) else some (i, r1) := by
      rw [twoF, hri]
    obtain ⟨a, n⟩ := s
    obtain ⟨p, m⟩ := r1
    simp only at hsb ho b1 b2 b3 w0 w1
    have q0 : h7.rd b (o + 0) = some (iv a) := rds_rd k2 rfl
    refine WD.run rfl (WD.pure (StepK.mv rfl) rfl ?_)
    refine WD.run rfl (WD.pure (StepK.mv rfl) rfl ?_)
    refine WD.run rfl (WD.pure (StepK.idxSl rfl rfl k1) rfl ?_)
    refine WD.run rfl (WD.pure (StepK.fieldAddr rfl) rfl ?_)
    refine WD.run rfl (WD.load1 rfl q0 ?_)
    refine WD.run rfl (WD.loadN rfl r2 ?_)
    refine WD.run rfl (WD.call ⟨r2, q0, trivial⟩ rfl rfl (end_ans hS (show C.F 24 = some a24 by rw [hT]; rfl) h7 g7.wf p m) ?_)
    rintro v h8 ⟨rfl, g8⟩
    have q0 := g8.rd q0
    have k2 := g8.rds k2
    have w0 := g8.rd w0
    have w1 := g8.rd w1
    have r2 := g8.rds r2
    have hbox := g8.ext _ _ hbox
    have g8 := g7.trans g8
    rw [StepK.wrap64 (by omega) (by omega)]
    (repeat (first | refine WD.pure (StepK.mv rfl) rfl ?_ | refine WD.pure (StepK.lenSl rfl (by first | with_reducible assumption | rfl)) rfl ?_ | refine WD.pure (StepK.fieldAddr rfl) rfl ?_ | refine WD.pure (StepK.add rfl rfl (by omega)) rfl ?_ | refine WD.pure (StepK.sub rfl rfl (by omega)) rfl ?_ | refine WD.pure (StepK.bin rfl rfl rfl) rfl ?_ | refine WD.pure (StepK.pickT rfl rfl) rfl ?_ | refine WD.pure (StepK.pickF rfl rfl) rfl ?_ | refine WD.pure (StepK.not rfl) rfl ?_ | refine WD.pure (StepK.eq rfl rfl rfl) rfl ?_ | refine WD.pure (StepK.extract rfl rfl) rfl ?_ | refine WD.pure (StepK.build rfl rfl) rfl ?_ | refine WD.pure (StepK.mkFn rfl rfl) rfl ?_ | refine WD.pure (StepK.field rfl rfl) rfl ?_ | refine WD.pure (StepK.lenStr rfl) rfl ?_ | refine WD.pure (StepK.min2 rfl rfl) rfl ?_ | refine WD.pure (StepK.max2 rfl rfl) rfl ?_ | refine WD.load1 rfl (by first | with_reducible assumption | rfl) ?_ | refine WD.run rfl ?_ | refine WD.skipn rfl rfl rfl ?_ | refine WD.skipun rfl rfl ?_))
    refine WD.nil ⟨q0, trivial⟩ (WC.cond rfl (fun hc4 => WC.seq (WC.seqD ?_)) (fun hc4 => WC.skip ?_))
    rotate_left
    · have hc4 := of_decide_eq_false hc4
      refine ⟨i, (p, m), by rw [ho, if_neg hc4], Cov.cons rfl (Cov.cons rfl (Cov.cons rfl (Cov.cons rfl (Cov.nil _)))), g8, hbox, hil, b2, by simp only; omega⟩
    have hc4 := of_decide_eq_true hc4
    rw [if_pos hc4] at ho
    refine WD.pure (StepK.mv rfl) rfl ?_
    refine WD.pure (StepK.mv rfl) rfl ?_
    refine WD.pure (StepK.idxSl rfl rfl k1) rfl ?_
    refine WD.pure (StepK.fieldAddr rfl) rfl ?_
    refine WD.load1 rfl q0 ?_
    refine WD.loadN rfl r2 ?_
    refine WD.call ⟨r2, q0, trivial⟩ rfl rfl (end_ans hS (show C.F 24 = some a24 by rw [hT]; rfl) h8 g8.wf p m) ?_
    rintro v h9 ⟨rfl, g9⟩
    have q0 := g9.rd q0
    have k2 := g9.rds k2
    have w0 := g9.rd w0
    have w1 := g9.rd w1
    have hbox := g9.ext _ _ hbox
    have g9 := g8.trans g9
    rw [StepK.wrap64 (by omega) (by omega)]
    (repeat (first | refine WD.pure (StepK.mv rfl) rfl ?_ | refine WD.pure (StepK.lenSl rfl (by first | with_reducible assumption | rfl)) rfl ?_ | refine WD.pure (StepK.fieldAddr rfl) rfl ?_ | refine WD.pure (StepK.add rfl rfl (by omega)) rfl ?_ | refine WD.pure (StepK.sub rfl rfl (by omega)) rfl ?_ | refine WD.pure (StepK.bin rfl rfl rfl) rfl ?_ | refine WD.pure (StepK.pickT rfl rfl) rfl ?_ | refine WD.pure (StepK.pickF rfl rfl) rfl ?_ | refine WD.pure (StepK.not rfl) rfl ?_ | refine WD.pure (StepK.eq rfl rfl rfl) rfl ?_ | refine WD.pure (StepK.extract rfl rfl) rfl ?_ | refine WD.pure (StepK.build rfl rfl) rfl ?_ | refine WD.pure (StepK.mkFn rfl rfl) rfl ?_ | refine WD.pure (StepK.field rfl rfl) rfl ?_ | refine WD.pure (StepK.lenStr rfl) rfl ?_ | refine WD.pure (StepK.min2 rfl rfl) rfl ?_ | refine WD.pure (StepK.max2 rfl rfl) rfl ?_ | refine WD.load1 rfl (by first | with_reducible assumption | rfl) ?_ | refine WD.run rfl ?_ | refine WD.skipn rfl rfl rfl ?_ | refine WD.skipun rfl rfl ?_))
    refine WD.nil ⟨q0, trivial⟩ (WC.cond rfl (fun hc5 => none_ _ _ _ (fin ?_ _ _ g9)) (fun hc5 => WC.skip (WC.draw ?_)))
    · have hc5 := of_decide_eq_true hc5
      rw [if_pos hc5] at ho
      rw [hg, ho]
    have hc5 := of_decide_eq_false hc5
    rw [if_neg hc5] at ho
    have q1 : h9.rd b (o + 1) = some (iv n) := rds_rd k2 rfl
    have s1 := wr_two (u := iv p) (w := iv (m + n)) hbox rfl rfl
    refine WD.pure (StepK.mv rfl) rfl ?_
    refine WD.pure (StepK.add rfl rfl (by omega)) rfl ?_
    refine WD.pure (StepK.fieldAddr rfl) rfl ?_
    refine WD.load1 rfl w0 ?_
    refine WD.pure (StepK.fieldAddr rfl) rfl ?_
    refine WD.load1 rfl w1 ?_
    refine WD.pure (StepK.mv rfl) rfl ?_
    refine WD.pure (StepK.mv rfl) rfl ?_
    refine WD.pure (StepK.idxSl rfl rfl k1) rfl ?_
    refine WD.pure (StepK.fieldAddr rfl) rfl ?_
    refine WD.load1 rfl q1 ?_
    refine WD.pure (StepK.add rfl rfl (by omega)) rfl ?_
    refine WD.pure (StepK.build (cs := rn (p, m + n)) rfl rfl) rfl ?_
    refine WD.pure (StepK.mv rfl) rfl ?_
    refine WD.opC ⟨q1, w1, w0, trivial⟩ rfl (StepK.store rfl rfl rfl s1) ?_
    refine WD.nil trivial ⟨i + 1, (p, m + n), ho, Cov.cons rfl (Cov.cons rfl (Cov.cons rfl (Cov.cons rfl (Cov.nil _)))), g9.put hcs (Wf.lt g9.wf hbox) hw _, by rw [get_put, if_pos rfl], by omega, by simp only; omega, by simp only; omega⟩
  rintro e2 h8 ⟨to, r2, ho, hcov, g8, hbox, hto, b4, b5⟩
  rw [ho] at hg
  simp only at hg
  refine WC.cov hcov ?_
  clear hcov
  have rr : h8.rds c 0 2 = some (rn r2) := rds_all hbox rfl
  refine WC.seq (WC.seqO ?_)
  refine WO.ops (StepK.mv rfl) ?_
  refine WO.ops (StepK.mv rfl) ?_
  refine WO.ops (StepK.mv rfl) ?_
  refine WO.ops (StepK.loadN rfl rr) ?_
  refine WO.ops (StepK.buildSl (cs := rn r2) rfl rfl) ?_
  have gp : Grow h8 (h8.push (.cells (rn r2) (.tip [] 0))) := (Grow.refl g8.wf).push _
  have hnew : Sl (h8.push (.cells (rn r2) (.tip [] 0))) 2 (.slice (some (h8.size, 0)) 1 1) ([r2].map rn) :=
    ⟨by simp, rfl, Nat.le_refl _, fun _ => rds_all (st := .tip [] 0) (by rw [get_push_self]; rfl) rfl⟩
  refine WO.call rfl rfl (swapped_ans hS (show C.F 29 = some a29 by rw [hT]; rfl) (show C.F 32 = some a32 by rw [hT]; rfl) _ gp.wf x _ R [r2] (hx.grow (g8.trans gp)) hnew frm to (by omega) hto hl (by simp)) ?_
  rintro u h9 ⟨u1, g9, u2⟩
  have g8p := g8.trans gp
  have g9 := g8p.trans g9
  have hout : ∀ s ∈ R.take frm ++ [r2] ++ R.drop to, -9223372036854775808 ≤ s.2 ∧ s.2 < 9223372036854775808 := by
    intro s hs
    simp only [List.mem_append, List.mem_singleton] at hs
    rcases hs with (q | q) | q
    · exact hb s (List.mem_of_mem_take q)
    · subst q; omega
    · exact hb s (List.mem_of_mem_drop q)
  refine WO.ops (StepK.mv rfl) (WO.nil (WC.seqO ?_))
  refine WO.ops (StepK.mv rfl) ?_
  refine WO.call rfl rfl (may_ans hS (show C.F 10 = some a10 by rw [hT]; rfl) (show C.F 24 = some a24 by rw [hT]; rfl) h9 g9.wf u _ u1 hout (by simp only [List.length_append, List.length_singleton, List.length_take, List.length_drop]; omega)) ?_
  rintro w h10 ⟨rfl, g10⟩
  have u1 := u1.grow g10
  have g10 := g9.trans g10
  (repeat (first | refine WO.ops (StepK.mv rfl) ?_ | refine WO.ops (StepK.lenSl rfl (by first | with_reducible assumption | rfl)) ?_ | refine WO.ops (StepK.fieldAddr rfl) ?_ | refine WO.ops (StepK.add rfl rfl (by omega)) ?_ | refine WO.ops (StepK.sub rfl rfl (by omega)) ?_ | refine WO.ops (StepK.bin rfl rfl rfl) ?_ | refine WO.ops (StepK.pickT rfl rfl) ?_ | refine WO.ops (StepK.pickF rfl rfl) ?_ | refine WO.ops (StepK.not rfl) ?_ | refine WO.ops (StepK.eq rfl rfl rfl) ?_ | refine WO.ops (StepK.extract rfl rfl) ?_ | refine WO.ops (StepK.build rfl rfl) ?_ | refine WO.ops (StepK.mkFn rfl rfl) ?_ | refine WO.ops (StepK.field rfl rfl) ?_ | refine WO.ops (StepK.lenStr rfl) ?_ | refine WO.ops (StepK.min2 rfl rfl) ?_ | refine WO.ops (StepK.max2 rfl rfl) ?_ | refine WO.ops (StepK.load1 rfl (by first | with_reducible assumption | rfl)) ?_ | refine WO.run rfl ?_ | refine WO.skip rfl rfl ?_ | refine WO.skipu rfl ?_))
  refine WO.nil (WC.cond rfl (fun hc6 => none_ _ _ _ (fin ?_ _ _ g10)) (fun hc6 => WC.skip (WC.seqO ?_)))
  · rw [hg, if_neg (by simpa using hc6)]
  rw [if_pos (by simpa using hc6)] at hg
  (repeat (first | refine WO.ops (StepK.mv rfl) ?_ | refine WO.ops (StepK.lenSl rfl (by first | with_reducible assumption | rfl)) ?_ | refine WO.ops (StepK.fieldAddr rfl) ?_ | refine WO.ops (StepK.add rfl rfl (by omega)) ?_ | refine WO.ops (StepK.sub rfl rfl (by omega)) ?_ | refine WO.ops (StepK.bin rfl rfl rfl) ?_ | refine WO.ops (StepK.pickT rfl rfl) ?_ | refine WO.ops (StepK.pickF rfl rfl) ?_ | refine WO.ops (StepK.not rfl) ?_ | refine WO.ops (StepK.eq rfl rfl rfl) ?_ | refine WO.ops (StepK.extract rfl rfl) ?_ | refine WO.ops (StepK.build rfl rfl) ?_ | refine WO.ops (StepK.mkFn rfl rfl) ?_ | refine WO.ops (StepK.field rfl rfl) ?_ | refine WO.ops (StepK.lenStr rfl) ?_ | refine WO.ops (StepK.min2 rfl rfl) ?_ | refine WO.ops (StepK.max2 rfl rfl) ?_ | refine WO.ops (StepK.load1 rfl (by first | with_reducible assumption | rfl)) ?_ | refine WO.run rfl ?_ | refine WO.skip rfl rfl ?_ | refine WO.skipu rfl ?_))
  refine WO.nil (WC.ret ⟨trivial, g10.wf, .tuple [u, .bool true], rfl, fun h11 g11 => ?_, fun hsc => ?_⟩)
  · rw [hg]; exact ⟨u, rfl, u1.grow g11, g10.trans g11⟩
  · rw [hg]
    have hsu : u.scopd h.size = true := by
      simp only [V.scopd, V.scopeds, Bool.and_eq_true] at hsc; exact hsc.1
    obtain ⟨rfl, q⟩ := u2 (scoped_up u1 g8p.size hsu)
    exact ⟨_, rfl, by rw [q]; exact Sl.nil h 2, Grow.refl hw⟩
end Abs
end Go.Proofs.Ytkdoemlhjhmfhaa
