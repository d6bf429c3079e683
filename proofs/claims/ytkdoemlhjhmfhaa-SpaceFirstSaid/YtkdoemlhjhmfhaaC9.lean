/- Layer 7: Clone, swapped, Take. -/
import Derived.Test.YtkdoemlhjhmfhaaC4
import Derived.Test.YtkdoemlhjhmfhaaC5
import Derived.Test.YtkdoemlhjhmfhaaA23
namespace Go.Proofs.Ytkdoemlhjhmfhaa
namespace Abs
set_option linter.unusedVariables false
set_option linter.unusedSimpArgs false
set_option maxHeartbeats 1600000
open Go.RowKit
attribute [local irreducible] WO WC WD StepK Ans Does Runs DoesD
variable {C : Cfg} (hS : ∀ f args h, f ≠ 8 → C.S f args h = none)

/-- A list that is the call's own. -/
def NewS (h : Heap) (v : V) (es : List (List V)) : Prop := v.scopd h.size = true → v = .slice none 0 0 ∧ es = []
theorem ones_rn {R : List (Int × Int)} : ∀ c ∈ R.map rn, ∀ v ∈ c, V.one v = true := by
  intro c hc v hv
  obtain ⟨r, _, rfl⟩ := List.mem_map.1 hc
  simp at hv; rcases hv with e | e <;> subst e <;> rfl

theorem scoped_up {h : Heap} {sz : Nat} {v : V} {es : List (List V)} (s : Sl h sz v es) {n m : Nat} (hnm : n ≤ m) (hs : v.scopd n = true) : v.scopd m = true := by
  have h1 := s.2
  split at h1
  · rfl
  · simp [V.scopd] at hs ⊢; omega
  · simp [V.scopd] at hs ⊢; omega
  · exact h1.elim
include hS
theorem clone_ans (hF : C.F 32 = some a32) (h : Heap) (hw : Wf h) (y : V) (R : List (Int × Int)) (hy : Sl h 2 y (R.map rn)) (hl : R.length ≤ 2000) : Ans C 32 [y] h fun v h' => Sl h' 2 v (R.map rn) ∧ Grow h h' ∧ NewS h v (R.map rn) := by
  unfold a32 at hF
  refine Ans.fn (fun _ _ => hS _ _ _ (by decide)) hF rfl rfl hw fun h2 g => ?_
  clear hF
  have hy2 := hy.grow g
  refine WC.seqO ?_
  (repeat (first | refine WO.ops (StepK.mv rfl) ?_ | refine WO.ops (StepK.lenSl rfl (by first | with_reducible assumption | rfl)) ?_ | refine WO.ops (StepK.fieldAddr rfl) ?_ | refine WO.ops (StepK.add rfl rfl (by omega)) ?_ | refine WO.ops (StepK.sub rfl rfl (by omega)) ?_ | refine WO.ops (StepK.bin rfl rfl rfl) ?_ | refine WO.ops (StepK.pickT rfl rfl) ?_ | refine WO.ops (StepK.pickF rfl rfl) ?_ | refine WO.ops (StepK.not rfl) ?_ | refine WO.ops (StepK.eq rfl rfl rfl) ?_ | refine WO.ops (StepK.extract rfl rfl) ?_ | refine WO.ops (StepK.build rfl rfl) ?_ | refine WO.ops (StepK.mkFn rfl rfl) ?_ | refine WO.ops (StepK.field rfl rfl) ?_ | refine WO.ops (StepK.lenStr rfl) ?_ | refine WO.ops (StepK.min2 rfl rfl) ?_ | refine WO.ops (StepK.max2 rfl rfl) ?_ | refine WO.ops (StepK.load1 rfl (by first | with_reducible assumption | rfl)) ?_ | refine WO.run rfl ?_ | refine WO.skip rfl rfl ?_ | refine WO.skipu rfl ?_))
  refine WO.nil (WC.seq (WC.seqO ?_))
  refine WO.ops (StepK.mv rfl) ?_
  have go : ∀ e : List (Nat × V), Cov [(0, y)] e → WC C (.seq (.ops [⟨(some 5), none, .buildSl [] 0 []⟩,
    ⟨(some 6), none, .mv (.t 0)⟩,
    ⟨(some 7), none, .append 2 16 (.t 5) (.t 6)⟩,
    ⟨(some 2), none, .mv (.t 7)⟩]) (.ret)) e h2 (fun x e' h1 => Fin x ∧ Wf h1 ∧ ∃ v, retE e' h1 [.tmp 2] = some v ∧ (∀ h3, Grow h1 h3 → Sl h3 2 v (R.map rn) ∧ Grow h h3 ∧ NewS h v (R.map rn)) ∧ (v.scopd h.size = true → Sl h 2 v (R.map rn) ∧ Grow h h ∧ NewS h v (R.map rn))) := by
    intro e hcv
    refine WC.cov hcv (WC.seqO ?_)
    refine WO.ops (StepK.buildSl (cs := []) rfl rfl) ?_
    refine WO.ops (StepK.mv rfl) ?_
    have gp : Grow h2 (h2.push (.cells [] (.tip [] 0))) := (Grow.refl g.wf).push _
    have hfit : Fit (h2.push (.cells [] (.tip [] 0))) 2 (.slice (some (h2.size, 0)) 0 0) [] := ⟨⟨by simp, rfl, Nat.le_refl _, by simp⟩, _, rfl⟩
    obtain ⟨v, h4, p1, p2, p3⟩ := hfit.append (g.trans gp) (hy2.grow gp) (bytes := 16) (by decide) (by decide) (by simp only [List.length_nil, List.length_map, roomy, decide_eq_true_eq]; omega) ones_rn
    refine WO.ops (StepK.append rfl rfl p1) ?_
    refine WO.ops (StepK.mv rfl) (WO.nil (WC.ret ?_))
    have hsl : Sl h4 2 v (R.map rn) := by
      rcases p3 with ⟨q1, rfl, rfl⟩ | q
      · rw [q1]; exact hfit.1
      · simpa using q.sl
    have hns : v.scopd h.size = true → v = .slice none 0 0 ∧ R.map rn = [] := by
      intro hsc
      rcases p3 with ⟨q1, rfl, rfl⟩ | q
      · have := g.size; simp [V.scopd] at hsc; omega
      · obtain ⟨_, ⟨rfl, q2⟩ | ⟨b, S, rfl, _, q3, _⟩⟩ := q
        · exact ⟨rfl, by simpa using q2⟩
        · simp [V.scopd] at hsc; have := q3.1; omega
    refine ⟨trivial, p2.wf, v, rfl, fun h3 g3 => ⟨hsl.grow g3, p2.trans g3, hns⟩, fun hsc => ?_⟩
    obtain ⟨rfl, q2⟩ := hns hsc
    rw [q2]; exact ⟨Sl.nil h 2, Grow.refl hw, fun _ => ⟨rfl, rfl⟩⟩
  have hy3 := hy.2
  split at hy3
  · obtain ⟨rfl, rfl, hnil⟩ := hy3
    refine WO.ops (StepK.eq rfl rfl rfl) (WO.nil (WC.condT rfl (WC.seqO ?_)))
    (repeat (first | refine WO.ops (StepK.mv rfl) ?_ | refine WO.ops (StepK.lenSl rfl (by first | with_reducible assumption | rfl)) ?_ | refine WO.ops (StepK.fieldAddr rfl) ?_ | refine WO.ops (StepK.add rfl rfl (by omega)) ?_ | refine WO.ops (StepK.sub rfl rfl (by omega)) ?_ | refine WO.ops (StepK.bin rfl rfl rfl) ?_ | refine WO.ops (StepK.pickT rfl rfl) ?_ | refine WO.ops (StepK.pickF rfl rfl) ?_ | refine WO.ops (StepK.not rfl) ?_ | refine WO.ops (StepK.eq rfl rfl rfl) ?_ | refine WO.ops (StepK.extract rfl rfl) ?_ | refine WO.ops (StepK.build rfl rfl) ?_ | refine WO.ops (StepK.mkFn rfl rfl) ?_ | refine WO.ops (StepK.field rfl rfl) ?_ | refine WO.ops (StepK.lenStr rfl) ?_ | refine WO.ops (StepK.min2 rfl rfl) ?_ | refine WO.ops (StepK.max2 rfl rfl) ?_ | refine WO.ops (StepK.load1 rfl (by first | with_reducible assumption | rfl)) ?_ | refine WO.run rfl ?_ | refine WO.skip rfl rfl ?_ | refine WO.skipu rfl ?_))
    rw [hnil]
    exact WO.nil (WC.ret ⟨trivial, g.wf, _, rfl, fun h3 g3 => ⟨Sl.nil h3 2, g.trans g3, fun _ => ⟨rfl, rfl⟩⟩, fun _ => ⟨Sl.nil h 2, Grow.refl hw, fun _ => ⟨rfl, rfl⟩⟩⟩)
  · refine WO.ops (StepK.eq rfl rfl rfl) (WO.nil (WC.condF rfl (WC.skip ?_)))
    exact go _ (Cov.cons rfl (Cov.nil _))
  · refine WO.ops (StepK.eq rfl rfl rfl) (WO.nil (WC.condF rfl (WC.skip ?_)))
    exact go _ (Cov.cons rfl (Cov.nil _))
  · exact hy3.elim

theorem swapped_ans (hF : C.F 29 = some a29) (hF32 : C.F 32 = some a32) (h : Heap) (hw : Wf h) (x y : V) (R W : List (Int × Int)) (hx : Sl h 2 x (R.map rn)) (hy : Sl h 2 y (W.map rn)) (i j : Nat) (hi : i ≤ R.length) (hj : j ≤ R.length) (hl : R.length ≤ 300) (hl2 : W.length ≤ 100) : Ans C 29 [x, iv i, iv j, y] h fun v h' => Sl h' 2 v ((R.take i ++ W ++ R.drop j).map rn) ∧ Grow h h' ∧ NewS h v ((R.take i ++ W ++ R.drop j).map rn) := by
  unfold a29 at hF
  refine Ans.fn (fun _ _ => hS _ _ _ (by decide)) hF rfl rfl hw fun h2 g => ?_
  clear hF
  refine WC.seqO ?_
  (repeat (first | refine WO.ops (StepK.mv rfl) ?_ | refine WO.ops (StepK.lenSl rfl (by first | with_reducible assumption | rfl)) ?_ | refine WO.ops (StepK.fieldAddr rfl) ?_ | refine WO.ops (StepK.add rfl rfl (by omega)) ?_ | refine WO.ops (StepK.sub rfl rfl (by omega)) ?_ | refine WO.ops (StepK.bin rfl rfl rfl) ?_ | refine WO.ops (StepK.pickT rfl rfl) ?_ | refine WO.ops (StepK.pickF rfl rfl) ?_ | refine WO.ops (StepK.not rfl) ?_ | refine WO.ops (StepK.eq rfl rfl rfl) ?_ | refine WO.ops (StepK.extract rfl rfl) ?_ | refine WO.ops (StepK.build rfl rfl) ?_ | refine WO.ops (StepK.mkFn rfl rfl) ?_ | refine WO.ops (StepK.field rfl rfl) ?_ | refine WO.ops (StepK.lenStr rfl) ?_ | refine WO.ops (StepK.min2 rfl rfl) ?_ | refine WO.ops (StepK.max2 rfl rfl) ?_ | refine WO.ops (StepK.load1 rfl (by first | with_reducible assumption | rfl)) ?_ | refine WO.run rfl ?_ | refine WO.skip rfl rfl ?_ | refine WO.skipu rfl ?_))
  refine WO.nil (WC.seqD ?_)
  obtain ⟨u, k1, k2⟩ := (hx.grow g).take3 (i := i) (by rw [List.length_map]; exact hi)
  obtain ⟨u', k3, k4⟩ := (hx.grow g).drop1 (i := j) (by rw [List.length_map]; exact hj)
  rw [← List.map_take] at k2
  rw [← List.map_drop] at k4
  refine WD.pure (StepK.mv rfl) rfl ?_
  refine WD.pure (StepK.mv rfl) rfl ?_
  refine WD.pure (StepK.mv rfl) rfl ?_
  refine WD.pure (StepK.sliceSl rfl rfl rfl rfl k1) rfl ?_
  refine WD.pure (StepK.mv rfl) rfl ?_
  refine WD.pure (StepK.mv rfl) rfl ?_
  refine WD.pure (StepK.mv rfl) rfl ?_
  refine WD.pure (StepK.sliceSl rfl rfl rfl rfl k3) rfl ?_
  have hlt : (R.take i).length = i := by rw [List.length_take]; omega
  have hld : (R.drop j).length = R.length - j := List.length_drop
  obtain ⟨v1, h3, v2, h4, p1, g3, p2, g4, p3⟩ := two_append (bytes := 16) hw g k2 (hy.grow g) k4 (by decide) (by decide) (by simp only [List.length_map, roomy, decide_eq_true_eq]; omega) (by simp only [List.length_map, roomy, decide_eq_true_eq]; omega) ones_rn ones_rn
  rw [← List.map_append, ← List.map_append] at p3
  refine WD.opC trivial rfl (StepK.append rfl rfl p1) ?_
  refine WD.opC trivial rfl (StepK.append rfl rfl p2) ?_
  refine WD.call trivial rfl rfl (clone_ans hS hF32 h4 g4.wf v2 _ p3 (by simp only [List.length_append]; omega)) ?_
  rintro v h5 ⟨q1, g5, q2⟩
  refine WD.pure (StepK.mv rfl) rfl ?_
  refine WD.nil trivial (WC.ret ⟨trivial, g5.wf, v, rfl, fun h6 g6 => ⟨q1.grow g6, (g4.trans g5).trans g6, ?_⟩, fun hsc => ?_⟩)
  · exact fun hsc => q2 (scoped_up q1 g4.size hsc)
  · have hsc' : v.scopd h4.size = true := scoped_up q1 g4.size hsc
    obtain ⟨rfl, q3⟩ := q2 hsc'
    rw [q3]
    exact ⟨Sl.nil h 2, Grow.refl hw, fun _ => ⟨rfl, rfl⟩⟩

theorem takeIn_ans (hF : C.F 28 = some a28) (h : Heap) (hw : Wf h) (b : Nat) (n : Int) (hb : h.rd b 0 = some (iv n)) (r : Int × Int) : Ans C 28 ([] ++ [.agg (rn r)] ++ [.ptr (some (b, 0))]) h fun v h' => v = .bool (decide (r.2 ≥ n)) ∧ Grow h h' := by
  unfold a28 at hF
  refine Ans.val (fun _ _ => hS _ _ _ (by decide)) hF rfl rfl hw fun h2 g => ?_
  clear hF
  obtain ⟨a, m⟩ := r
  refine WC.seqO ?_
  refine WO.ops (StepK.box rfl) ?_
  (repeat (first | refine WO.ops (StepK.mv rfl) ?_ | refine WO.ops (StepK.lenSl rfl (by first | with_reducible assumption | rfl)) ?_ | refine WO.ops (StepK.fieldAddr rfl) ?_ | refine WO.ops (StepK.add rfl rfl (by omega)) ?_ | refine WO.ops (StepK.sub rfl rfl (by omega)) ?_ | refine WO.ops (StepK.bin rfl rfl rfl) ?_ | refine WO.ops (StepK.pickT rfl rfl) ?_ | refine WO.ops (StepK.pickF rfl rfl) ?_ | refine WO.ops (StepK.not rfl) ?_ | refine WO.ops (StepK.eq rfl rfl rfl) ?_ | refine WO.ops (StepK.extract rfl rfl) ?_ | refine WO.ops (StepK.build rfl rfl) ?_ | refine WO.ops (StepK.mkFn rfl rfl) ?_ | refine WO.ops (StepK.field rfl rfl) ?_ | refine WO.ops (StepK.lenStr rfl) ?_ | refine WO.ops (StepK.min2 rfl rfl) ?_ | refine WO.ops (StepK.max2 rfl rfl) ?_ | refine WO.ops (StepK.load1 rfl (by first | with_reducible assumption | rfl)) ?_ | refine WO.run rfl ?_ | refine WO.skip rfl rfl ?_ | refine WO.skipu rfl ?_))
  refine WO.nil (WC.seqO ?_)
  have gp : Grow h2 (h2.push (.cells (V.agg (rn (a, m))).cellsOf (.tip [] 0))) := (Grow.refl g.wf).push _
  have q1 : (h2.push (.cells (V.agg (rn (a, m))).cellsOf (.tip [] 0))).rd h2.size (0 + 1) = some (iv m) := rd_get (get_push_self _ _) rfl
  have g3 := g.trans gp
  have hb := g3.rd hb
  refine WO.ops (StepK.fieldAddr rfl) ?_
  refine WO.ops (StepK.load1 rfl q1) ?_
  refine WO.ops (StepK.load1 rfl hb) ?_
  (repeat (first | refine WO.ops (StepK.mv rfl) ?_ | refine WO.ops (StepK.lenSl rfl (by first | with_reducible assumption | rfl)) ?_ | refine WO.ops (StepK.fieldAddr rfl) ?_ | refine WO.ops (StepK.add rfl rfl (by omega)) ?_ | refine WO.ops (StepK.sub rfl rfl (by omega)) ?_ | refine WO.ops (StepK.bin rfl rfl rfl) ?_ | refine WO.ops (StepK.pickT rfl rfl) ?_ | refine WO.ops (StepK.pickF rfl rfl) ?_ | refine WO.ops (StepK.not rfl) ?_ | refine WO.ops (StepK.eq rfl rfl rfl) ?_ | refine WO.ops (StepK.extract rfl rfl) ?_ | refine WO.ops (StepK.build rfl rfl) ?_ | refine WO.ops (StepK.mkFn rfl rfl) ?_ | refine WO.ops (StepK.field rfl rfl) ?_ | refine WO.ops (StepK.lenStr rfl) ?_ | refine WO.ops (StepK.min2 rfl rfl) ?_ | refine WO.ops (StepK.max2 rfl rfl) ?_ | refine WO.ops (StepK.load1 rfl (by first | with_reducible assumption | rfl)) ?_ | refine WO.run rfl ?_ | refine WO.skip rfl rfl ?_ | refine WO.skipu rfl ?_))
  exact WO.nil (WC.ret ⟨trivial, g3, rfl⟩)

/-- What is taken. -/
def takeF (R : List (Int × Int)) (n : Int) : Int × List (Int × Int) × Bool :=
  if mayF (-1) R = false ∨ n < 1 ∨ 1073741824 < n then (0, [], false)
  else let i := idxF (fun r => decide (r.2 ≥ n)) 0 R
    if i < 0 then (0, [], false)
    else match R[i.toNat]? with
      | some r => (r.1, R.take i.toNat ++ (if r.2 = n then [] else [(r.1 + n, r.2 - n)]) ++ R.drop (i.toNat + 1), true)
      | none => (0, [], false)
omit hS in
theorem idxF_at (p : Int × Int → Bool) (R : List (Int × Int)) : ∀ i : Int, 0 ≤ i → idxF p i R = -1 ∨ ∃ k r, idxF p i R = i + (k : Nat) ∧ R[k]? = some r ∧ p r = true := by
  induction R with
  | nil => intro i hi; exact .inl rfl
  | cons r l ih =>
    intro i hi
    simp only [idxF]
    by_cases hp : p r = true
    · exact .inr ⟨0, r, by rw [if_pos hp]; simp, rfl, hp⟩
    · rw [if_neg hp]
      rcases ih (i + 1) (by omega) with q | ⟨k, s, q1, q2, q3⟩
      · exact .inl q
      · exact .inr ⟨k + 1, s, by rw [q1]; push_cast; omega, q2, q3⟩
omit hS in
theorem mayF_bounds : ∀ (R : List (Int × Int)) (last : Int), -1 ≤ last → mayF last R = true → ∀ r ∈ R, 0 ≤ r.1 ∧ 1 ≤ r.2 ∧ r.2 ≤ 1073741824 ∧ r.1 + r.2 ≤ 1073741824
  | [], _, _, _, r, hr => by cases hr
  | s :: l, last, hl, hm, r, hr => by
    simp only [mayF] at hm
    split at hm
    · cases hm
    · rename_i hc
      rcases List.mem_cons.1 hr with e | e
      · subst e; omega
      · exact mayF_bounds l _ (by omega) hm r e

theorem take_ans (hF : C.F 20 = some a20) (hT : C.F = tab) (h : Heap) (hw : Wf h) (x : V) (R : List (Int × Int)) (n : Int) (hx : Sl h 2 x (R.map rn)) (hb : ∀ r ∈ R, -9223372036854775808 ≤ r.2 ∧ r.2 < 9223372036854775808) (hl : R.length ≤ 300) : Ans C 20 [x, iv n] h fun v h' => ∃ u, v = .tuple [iv (takeF R n).1, u, .bool (takeF R n).2.2] ∧ Sl h' 2 u ((takeF R n).2.1.map rn) ∧ Grow h h' := by
  unfold a20 at hF
  refine Ans.fn (fun _ _ => hS _ _ _ (by decide)) hF rfl rfl hw fun h2 g => ?_
  clear hF
  refine WC.seqO ?_
  refine WO.ops (StepK.box rfl) ?_
  (repeat (first | refine WO.ops (StepK.mv rfl) ?_ | refine WO.ops (StepK.lenSl rfl (by first | with_reducible assumption | rfl)) ?_ | refine WO.ops (StepK.fieldAddr rfl) ?_ | refine WO.ops (StepK.add rfl rfl (by omega)) ?_ | refine WO.ops (StepK.sub rfl rfl (by omega)) ?_ | refine WO.ops (StepK.bin rfl rfl rfl) ?_ | refine WO.ops (StepK.pickT rfl rfl) ?_ | refine WO.ops (StepK.pickF rfl rfl) ?_ | refine WO.ops (StepK.not rfl) ?_ | refine WO.ops (StepK.eq rfl rfl rfl) ?_ | refine WO.ops (StepK.extract rfl rfl) ?_ | refine WO.ops (StepK.build rfl rfl) ?_ | refine WO.ops (StepK.mkFn rfl rfl) ?_ | refine WO.ops (StepK.field rfl rfl) ?_ | refine WO.ops (StepK.lenStr rfl) ?_ | refine WO.ops (StepK.min2 rfl rfl) ?_ | refine WO.ops (StepK.max2 rfl rfl) ?_ | refine WO.ops (StepK.load1 rfl (by first | with_reducible assumption | rfl)) ?_ | refine WO.run rfl ?_ | refine WO.skip rfl rfl ?_ | refine WO.skipu rfl ?_))
  refine WO.nil ?_
  have gp : Grow h2 (h2.push (.cells (iv n).cellsOf (.tip [] 0))) := (Grow.refl g.wf).push _
  have q0 : (h2.push (.cells (iv n).cellsOf (.tip [] 0))).rd h2.size 0 = some (iv n) := rd_get (get_push_self _ _) rfl
  have g3 := g.trans gp
  generalize h2.push (.cells (iv n).cellsOf (.tip [] 0)) = h3 at *
  generalize h2.size = c at *
  refine WC.seq (WC.seqO ?_)
  refine WO.ops (StepK.mv rfl) ?_
  refine WO.call rfl rfl (may_ans hS (show C.F 10 = some a10 by rw [hT]; rfl) (show C.F 24 = some a24 by rw [hT]; rfl) h3 g3.wf x R (hx.grow g3) hb (by omega)) ?_
  rintro v h4 ⟨rfl, g4⟩
  have hq := g4.rd q0
  have g4 := g3.trans g4
  have none_ : ∀ (e : List (Nat × V)) (h5 : Heap) (Q : Ex → List (Nat × V) → Heap → Prop), Q .ret ((6, .bool false) :: (5, .slice none 0 0) :: (4, iv 0) :: e) h5 → WC C (.seq (.ops [⟨(some 4), none, .mv (.c (.int .i64 (0)))⟩, ⟨(some 5), none, .mv (.c (.slice none 0 0))⟩, ⟨(some 6), none, .mv (.c (.bool false))⟩]) (.ret)) e h5 Q := by
    intro e h5 Q hQ
    refine WC.seqO ?_
    (repeat (first | refine WO.ops (StepK.mv rfl) ?_ | refine WO.ops (StepK.lenSl rfl (by first | with_reducible assumption | rfl)) ?_ | refine WO.ops (StepK.fieldAddr rfl) ?_ | refine WO.ops (StepK.add rfl rfl (by omega)) ?_ | refine WO.ops (StepK.sub rfl rfl (by omega)) ?_ | refine WO.ops (StepK.bin rfl rfl rfl) ?_ | refine WO.ops (StepK.pickT rfl rfl) ?_ | refine WO.ops (StepK.pickF rfl rfl) ?_ | refine WO.ops (StepK.not rfl) ?_ | refine WO.ops (StepK.eq rfl rfl rfl) ?_ | refine WO.ops (StepK.extract rfl rfl) ?_ | refine WO.ops (StepK.build rfl rfl) ?_ | refine WO.ops (StepK.mkFn rfl rfl) ?_ | refine WO.ops (StepK.field rfl rfl) ?_ | refine WO.ops (StepK.lenStr rfl) ?_ | refine WO.ops (StepK.min2 rfl rfl) ?_ | refine WO.ops (StepK.max2 rfl rfl) ?_ | refine WO.ops (StepK.load1 rfl (by first | with_reducible assumption | rfl)) ?_ | refine WO.run rfl ?_ | refine WO.skip rfl rfl ?_ | refine WO.skipu rfl ?_))
    exact WO.nil (WC.ret hQ)
  have fin : takeF R n = (0, [], false) → ∀ (e : List (Nat × V)) (h5 : Heap), Grow h h5 → Fin .ret ∧ Wf h5 ∧ ∃ v, retE ((6, .bool false) :: (5, .slice none 0 0) :: (4, iv 0) :: e) h5 [.tmp 4, .tmp 5, .tmp 6] = some v ∧ (∀ h3, Grow h5 h3 → ∃ u, v = .tuple [iv (takeF R n).1, u, .bool (takeF R n).2.2] ∧ Sl h3 2 u ((takeF R n).2.1.map rn) ∧ Grow h h3) ∧ (v.scopd h.size = true → ∃ u, v = .tuple [iv (takeF R n).1, u, .bool (takeF R n).2.2] ∧ Sl h 2 u ((takeF R n).2.1.map rn) ∧ Grow h h) := by
    intro hz e h5 g5
    rw [hz]
    exact ⟨trivial, g5.wf, _, rfl, fun h6 g6 => ⟨_, rfl, Sl.nil h6 2, g5.trans g6⟩, fun _ => ⟨_, rfl, Sl.nil h 2, Grow.refl hw⟩⟩
  (repeat (first | refine WO.ops (StepK.mv rfl) ?_ | refine WO.ops (StepK.lenSl rfl (by first | with_reducible assumption | rfl)) ?_ | refine WO.ops (StepK.fieldAddr rfl) ?_ | refine WO.ops (StepK.add rfl rfl (by omega)) ?_ | refine WO.ops (StepK.sub rfl rfl (by omega)) ?_ | refine WO.ops (StepK.bin rfl rfl rfl) ?_ | refine WO.ops (StepK.pickT rfl rfl) ?_ | refine WO.ops (StepK.pickF rfl rfl) ?_ | refine WO.ops (StepK.not rfl) ?_ | refine WO.ops (StepK.eq rfl rfl rfl) ?_ | refine WO.ops (StepK.extract rfl rfl) ?_ | refine WO.ops (StepK.build rfl rfl) ?_ | refine WO.ops (StepK.mkFn rfl rfl) ?_ | refine WO.ops (StepK.field rfl rfl) ?_ | refine WO.ops (StepK.lenStr rfl) ?_ | refine WO.ops (StepK.min2 rfl rfl) ?_ | refine WO.ops (StepK.max2 rfl rfl) ?_ | refine WO.ops (StepK.load1 rfl (by first | with_reducible assumption | rfl)) ?_ | refine WO.run rfl ?_ | refine WO.skip rfl rfl ?_ | refine WO.skipu rfl ?_))
  refine WO.splitG rfl (fun hc1 => ?_) (fun hc1 => ?_)
  · (repeat (first | refine WO.ops (StepK.mv rfl) ?_ | refine WO.ops (StepK.lenSl rfl (by first | with_reducible assumption | rfl)) ?_ | refine WO.ops (StepK.fieldAddr rfl) ?_ | refine WO.ops (StepK.add rfl rfl (by omega)) ?_ | refine WO.ops (StepK.sub rfl rfl (by omega)) ?_ | refine WO.ops (StepK.bin rfl rfl rfl) ?_ | refine WO.ops (StepK.pickT rfl rfl) ?_ | refine WO.ops (StepK.pickF rfl rfl) ?_ | refine WO.ops (StepK.not rfl) ?_ | refine WO.ops (StepK.eq rfl rfl rfl) ?_ | refine WO.ops (StepK.extract rfl rfl) ?_ | refine WO.ops (StepK.build rfl rfl) ?_ | refine WO.ops (StepK.mkFn rfl rfl) ?_ | refine WO.ops (StepK.field rfl rfl) ?_ | refine WO.ops (StepK.lenStr rfl) ?_ | refine WO.ops (StepK.min2 rfl rfl) ?_ | refine WO.ops (StepK.max2 rfl rfl) ?_ | refine WO.ops (StepK.load1 rfl (by first | with_reducible assumption | rfl)) ?_ | refine WO.run rfl ?_ | refine WO.skip rfl rfl ?_ | refine WO.skipu rfl ?_))
    have hm : mayF (-1) R = false := by simpa using hc1
    refine WO.nil (WC.condT rfl (none_ _ _ _ (fin ?_ _ _ g4)))
    rw [takeF, if_pos (.inl hm)]
  have hm : mayF (-1) R = true := by simpa using hc1
  refine WO.run rfl ?_
  refine WO.ops (StepK.load1 rfl hq) ?_
  (repeat (first | refine WO.ops (StepK.mv rfl) ?_ | refine WO.ops (StepK.lenSl rfl (by first | with_reducible assumption | rfl)) ?_ | refine WO.ops (StepK.fieldAddr rfl) ?_ | refine WO.ops (StepK.add rfl rfl (by omega)) ?_ | refine WO.ops (StepK.sub rfl rfl (by omega)) ?_ | refine WO.ops (StepK.bin rfl rfl rfl) ?_ | refine WO.ops (StepK.pickT rfl rfl) ?_ | refine WO.ops (StepK.pickF rfl rfl) ?_ | refine WO.ops (StepK.not rfl) ?_ | refine WO.ops (StepK.eq rfl rfl rfl) ?_ | refine WO.ops (StepK.extract rfl rfl) ?_ | refine WO.ops (StepK.build rfl rfl) ?_ | refine WO.ops (StepK.mkFn rfl rfl) ?_ | refine WO.ops (StepK.field rfl rfl) ?_ | refine WO.ops (StepK.lenStr rfl) ?_ | refine WO.ops (StepK.min2 rfl rfl) ?_ | refine WO.ops (StepK.max2 rfl rfl) ?_ | refine WO.ops (StepK.load1 rfl (by first | with_reducible assumption | rfl)) ?_ | refine WO.run rfl ?_ | refine WO.skip rfl rfl ?_ | refine WO.skipu rfl ?_))
  refine WO.splitG rfl (fun hc2 => ?_) (fun hc2 => ?_)
  · have hc2 := of_decide_eq_true hc2
    (repeat (first | refine WO.ops (StepK.mv rfl) ?_ | refine WO.ops (StepK.lenSl rfl (by first | with_reducible assumption | rfl)) ?_ | refine WO.ops (StepK.fieldAddr rfl) ?_ | refine WO.ops (StepK.add rfl rfl (by omega)) ?_ | refine WO.ops (StepK.sub rfl rfl (by omega)) ?_ | refine WO.ops (StepK.bin rfl rfl rfl) ?_ | refine WO.ops (StepK.pickT rfl rfl) ?_ | refine WO.ops (StepK.pickF rfl rfl) ?_ | refine WO.ops (StepK.not rfl) ?_ | refine WO.ops (StepK.eq rfl rfl rfl) ?_ | refine WO.ops (StepK.extract rfl rfl) ?_ | refine WO.ops (StepK.build rfl rfl) ?_ | refine WO.ops (StepK.mkFn rfl rfl) ?_ | refine WO.ops (StepK.field rfl rfl) ?_ | refine WO.ops (StepK.lenStr rfl) ?_ | refine WO.ops (StepK.min2 rfl rfl) ?_ | refine WO.ops (StepK.max2 rfl rfl) ?_ | refine WO.ops (StepK.load1 rfl (by first | with_reducible assumption | rfl)) ?_ | refine WO.run rfl ?_ | refine WO.skip rfl rfl ?_ | refine WO.skipu rfl ?_))
    refine WO.nil (WC.condT rfl (none_ _ _ _ (fin ?_ _ _ g4)))
    rw [takeF, if_pos (.inr (.inl hc2))]
  have hc2 := of_decide_eq_false hc2
  refine WO.run rfl ?_
  refine WO.ops (StepK.load1 rfl hq) ?_
  (repeat (first | refine WO.ops (StepK.mv rfl) ?_ | refine WO.ops (StepK.lenSl rfl (by first | with_reducible assumption | rfl)) ?_ | refine WO.ops (StepK.fieldAddr rfl) ?_ | refine WO.ops (StepK.add rfl rfl (by omega)) ?_ | refine WO.ops (StepK.sub rfl rfl (by omega)) ?_ | refine WO.ops (StepK.bin rfl rfl rfl) ?_ | refine WO.ops (StepK.pickT rfl rfl) ?_ | refine WO.ops (StepK.pickF rfl rfl) ?_ | refine WO.ops (StepK.not rfl) ?_ | refine WO.ops (StepK.eq rfl rfl rfl) ?_ | refine WO.ops (StepK.extract rfl rfl) ?_ | refine WO.ops (StepK.build rfl rfl) ?_ | refine WO.ops (StepK.mkFn rfl rfl) ?_ | refine WO.ops (StepK.field rfl rfl) ?_ | refine WO.ops (StepK.lenStr rfl) ?_ | refine WO.ops (StepK.min2 rfl rfl) ?_ | refine WO.ops (StepK.max2 rfl rfl) ?_ | refine WO.ops (StepK.load1 rfl (by first | with_reducible assumption | rfl)) ?_ | refine WO.run rfl ?_ | refine WO.skip rfl rfl ?_ | refine WO.skipu rfl ?_))
  refine WO.nil (WC.cond rfl (fun hc3 => none_ _ _ _ (fin ?_ _ _ g4)) (fun hc3 => WC.skip (WC.seqO ?_)))
  · have hc3 := of_decide_eq_true hc3
    rw [takeF, if_pos (.inr (.inr hc3))]
  have hc3 := of_decide_eq_false hc3
  have hx4 := hx.grow g4
  refine WO.ops (StepK.mv rfl) ?_
  refine WO.ops (StepK.mkFn rfl rfl) ?_
  refine WO.call rfl rfl (index_ans hS (show C.F 27 = some a27 by rw [hT]; rfl) h4 g4.wf x R hx4 (by omega) 28 [.ptr (some (c, 0))] (fun r => decide (r.2 ≥ n)) fun r h1 g1 => takeIn_ans hS (show C.F 28 = some a28 by rw [hT]; rfl) h1 g1.wf c n (g1.rd hq) r) ?_
  rintro v h5 ⟨rfl, g5⟩
  have hq := g5.rd hq
  have g5 := g4.trans g5
  refine WO.ops (StepK.mv rfl) (WO.nil (WC.seq (WC.seqO ?_)))
  have ht : takeF R n = if idxF (fun r => decide (r.2 ≥ n)) 0 R < 0 then (0, [], false)
    else match R[(idxF (fun r => decide (r.2 ≥ n)) 0 R).toNat]? with
      | some r => (r.1, R.take (idxF (fun r => decide (r.2 ≥ n)) 0 R).toNat ++ (if r.2 = n then [] else [(r.1 + n, r.2 - n)]) ++ R.drop ((idxF (fun r => decide (r.2 ≥ n)) 0 R).toNat + 1), true)
      | none => (0, [], false) := by
    rw [takeF, if_neg (by rw [hm]; simp; omega)]
  have hat := idxF_at (fun r => decide (r.2 ≥ n)) R 0 (Int.le_refl _)
  generalize idxF (fun r => decide (r.2 ≥ n)) 0 R = ix at *
  (repeat (first | refine WO.ops (StepK.mv rfl) ?_ | refine WO.ops (StepK.lenSl rfl (by first | with_reducible assumption | rfl)) ?_ | refine WO.ops (StepK.fieldAddr rfl) ?_ | refine WO.ops (StepK.add rfl rfl (by omega)) ?_ | refine WO.ops (StepK.sub rfl rfl (by omega)) ?_ | refine WO.ops (StepK.bin rfl rfl rfl) ?_ | refine WO.ops (StepK.pickT rfl rfl) ?_ | refine WO.ops (StepK.pickF rfl rfl) ?_ | refine WO.ops (StepK.not rfl) ?_ | refine WO.ops (StepK.eq rfl rfl rfl) ?_ | refine WO.ops (StepK.extract rfl rfl) ?_ | refine WO.ops (StepK.build rfl rfl) ?_ | refine WO.ops (StepK.mkFn rfl rfl) ?_ | refine WO.ops (StepK.field rfl rfl) ?_ | refine WO.ops (StepK.lenStr rfl) ?_ | refine WO.ops (StepK.min2 rfl rfl) ?_ | refine WO.ops (StepK.max2 rfl rfl) ?_ | refine WO.ops (StepK.load1 rfl (by first | with_reducible assumption | rfl)) ?_ | refine WO.run rfl ?_ | refine WO.skip rfl rfl ?_ | refine WO.skipu rfl ?_))
  refine WO.nil (WC.cond rfl (fun hc4 => none_ _ _ _ (fin ?_ _ _ g5)) (fun hc4 => WC.skip (WC.seqO ?_)))
  · have hc4 := of_decide_eq_true hc4
    rw [ht, if_pos hc4]
  have hc4 := of_decide_eq_false hc4
  rcases hat with hat | ⟨k, r, rfl, hr, hp⟩
  · omega
  have hk : k < R.length := (List.getElem?_eq_some_iff.1 hr).1
  have hkr : R[k] = r := (List.getElem?_eq_some_iff.1 hr).2
  have hp := of_decide_eq_true hp
  have hrm : r ∈ R := by rw [← hkr]; exact List.getElem_mem hk
  have hrb := mayF_bounds R (-1) (by omega) hm r hrm
  rw [if_neg hc4] at ht
  simp only [Int.zero_add, Int.toNat_natCast, hr] at ht
  simp only [Int.zero_add]
  obtain ⟨b, o, k1, k2⟩ := (hx.grow g5).at (i := k) (by rw [List.length_map]; exact hk)
  rw [List.getElem_map, hkr] at k2
  obtain ⟨a, m⟩ := r
  simp only at hp hrb ht
  refine WO.ops (StepK.mv rfl) ?_
  refine WO.ops (StepK.mv rfl) ?_
  refine WO.ops (StepK.idxSl rfl rfl k1) ?_
  refine WO.ops (StepK.loadN rfl k2) ?_
  refine WO.ops StepK.alloc ?_
  obtain ⟨h6, w6, g6, g56, r6⟩ := box_two (x := iv 0) (y := iv 0) (u := iv a) (w := iv m) g5 rfl rfl
  have hq := g56.rd hq
  refine WO.op (StepK.store rfl rfl rfl w6) (WO.nil (WC.seq (WC.seqO ?_)))
  have r0 : h6.rd h5.size (0 + 0) = some (iv a) := rd_get r6 rfl
  have r1 : h6.rd h5.size (0 + 1) = some (iv m) := rd_get r6 rfl
  generalize h5.size = b5 at *
  refine WO.ops (StepK.fieldAddr rfl) ?_
  refine WO.ops (StepK.load1 rfl r1) ?_
  refine WO.ops (StepK.load1 rfl hq) ?_
  (repeat (first | refine WO.ops (StepK.mv rfl) ?_ | refine WO.ops (StepK.lenSl rfl (by first | with_reducible assumption | rfl)) ?_ | refine WO.ops (StepK.fieldAddr rfl) ?_ | refine WO.ops (StepK.add rfl rfl (by omega)) ?_ | refine WO.ops (StepK.sub rfl rfl (by omega)) ?_ | refine WO.ops (StepK.bin rfl rfl rfl) ?_ | refine WO.ops (StepK.pickT rfl rfl) ?_ | refine WO.ops (StepK.pickF rfl rfl) ?_ | refine WO.ops (StepK.not rfl) ?_ | refine WO.ops (StepK.eq rfl rfl rfl) ?_ | refine WO.ops (StepK.extract rfl rfl) ?_ | refine WO.ops (StepK.build rfl rfl) ?_ | refine WO.ops (StepK.mkFn rfl rfl) ?_ | refine WO.ops (StepK.field rfl rfl) ?_ | refine WO.ops (StepK.lenStr rfl) ?_ | refine WO.ops (StepK.min2 rfl rfl) ?_ | refine WO.ops (StepK.max2 rfl rfl) ?_ | refine WO.ops (StepK.load1 rfl (by first | with_reducible assumption | rfl)) ?_ | refine WO.run rfl ?_ | refine WO.skip rfl rfl ?_ | refine WO.skipu rfl ?_))
  have hx6 := hx.grow g6
  have done : ∀ (W : List (Int × Int)) (u : V) (h7 h8 : Heap) (e : List (Nat × V)), (if m = n then [] else [(a + n, m - n)]) = W → Grow h h7 → Grow h7 h8 → Sl h8 2 u ((R.take k ++ W ++ R.drop (k + 1)).map rn) → NewS h7 u ((R.take k ++ W ++ R.drop (k + 1)).map rn) →
      Fin .ret ∧ Wf h8 ∧ ∃ v, retE ((6, .bool true) :: (5, u) :: (4, iv a) :: e) h8 [.tmp 4, .tmp 5, .tmp 6] = some v ∧ (∀ h3, Grow h8 h3 → ∃ u, v = .tuple [iv (takeF R n).1, u, .bool (takeF R n).2.2] ∧ Sl h3 2 u ((takeF R n).2.1.map rn) ∧ Grow h h3) ∧ (v.scopd h.size = true → ∃ u, v = .tuple [iv (takeF R n).1, u, .bool (takeF R n).2.2] ∧ Sl h 2 u ((takeF R n).2.1.map rn) ∧ Grow h h) := by
    intro W u h7 h8 e hW g7 g8 hu hn
    rw [ht, hW]
    refine ⟨trivial, g8.wf, .tuple [iv a, u, .bool true], rfl, fun h9 g9 => ⟨u, rfl, hu.grow g9, (g7.trans g8).trans g9⟩, fun hsc => ?_⟩
    have hsu : u.scopd h.size = true := by
      simp only [V.scopd, V.scopeds, Bool.and_eq_true] at hsc; exact hsc.2.1
    obtain ⟨rfl, q⟩ := hn (scoped_up hu g7.size hsu)
    exact ⟨_, rfl, by rw [q]; exact Sl.nil h 2, Grow.refl hw⟩
  refine WO.nil (WC.cond rfl (fun hc5 => WC.seqD ?_) (fun hc5 => WC.skip (WC.seqD ?_)))
  · have hc5 : m = n := by simpa using hc5
    refine WD.pure (StepK.fieldAddr rfl) rfl ?_
    refine WD.load1 rfl r0 ?_
    refine WD.pure (StepK.mv rfl) rfl ?_
    refine WD.pure (StepK.mv rfl) rfl ?_
    refine WD.pure (StepK.mv rfl) rfl ?_
    refine WD.pure (StepK.add rfl rfl (by omega)) rfl ?_
    refine WD.call ⟨r0, trivial⟩ rfl rfl (swapped_ans hS (show C.F 29 = some a29 by rw [hT]; rfl) (show C.F 32 = some a32 by rw [hT]; rfl) h6 g6.wf x (.slice none 0 0) R [] hx6 (Sl.nil h6 2) k (k + 1) (by omega) (by omega) hl (by simp)) ?_
    rintro u h7 ⟨u1, g7, u2⟩
    refine WD.pure (StepK.mv rfl) rfl ?_
    refine WD.pure (StepK.mv rfl) rfl ?_
    refine WD.pure (StepK.mv rfl) rfl ?_
    exact WD.nil ⟨g7.rd r0, trivial⟩ (WC.ret (done [] u h6 h7 _ (by rw [if_pos hc5]) g6 g7 u1 u2))
  · have hc5 : m ≠ n := by simpa using hc5
    refine WD.pure (StepK.fieldAddr rfl) rfl ?_
    refine WD.load1 rfl r0 ?_
    refine WD.pure (StepK.mv rfl) rfl ?_
    refine WD.pure (StepK.mv rfl) rfl ?_
    refine WD.pure (StepK.mv rfl) rfl ?_
    refine WD.pure (StepK.add rfl rfl (by omega)) rfl ?_
    refine WD.pure (StepK.fieldAddr rfl) rfl ?_
    refine WD.load1 rfl r0 ?_
    refine WD.load1 rfl hq ?_
    refine WD.pure (StepK.add rfl rfl (by omega)) rfl ?_
    refine WD.pure (StepK.fieldAddr rfl) rfl ?_
    refine WD.load1 rfl r1 ?_
    refine WD.load1 rfl hq ?_
    refine WD.pure (StepK.sub rfl rfl (by omega)) rfl ?_
    refine WD.pure (StepK.build (cs := rn (a + n, m - n)) rfl rfl) rfl ?_
    refine WD.alloc rfl (StepK.buildSl (cs := rn (a + n, m - n)) rfl rfl) ?_
    have gp : Grow h6 (h6.push (.cells (rn (a + n, m - n)) (.tip [] 0))) := (Grow.refl g6.wf).push _
    have hnew : Sl (h6.push (.cells (rn (a + n, m - n)) (.tip [] 0))) 2 (.slice (some (h6.size, 0)) 1 1) ([(a + n, m - n)].map rn) :=
      ⟨by simp, rfl, Nat.le_refl _, fun _ => rds_all (st := .tip [] 0) (by rw [get_push_self]; rfl) rfl⟩
    refine WD.call ⟨get_push_self _ _, gp.rd hq, gp.rd r1, gp.rd hq, gp.rd r0, gp.rd r0, trivial⟩ rfl rfl (swapped_ans hS (show C.F 29 = some a29 by rw [hT]; rfl) (show C.F 32 = some a32 by rw [hT]; rfl) _ gp.wf x (.slice (some (h6.size, 0)) 1 1) R [(a + n, m - n)] (hx6.grow gp) hnew k (k + 1) (by omega) (by omega) hl (by simp)) ?_
    rintro u h7 ⟨u1, g7, u2⟩
    refine WD.pure (StepK.mv rfl) rfl ?_
    refine WD.pure (StepK.mv rfl) rfl ?_
    refine WD.pure (StepK.mv rfl) rfl ?_
    exact WD.nil ⟨g7.rd (gp.rd r0), trivial⟩ (WC.ret (done _ u _ h7 _ (by rw [if_neg hc5]) (g6.trans gp) g7 u1 u2))
end Abs
end Go.Proofs.Ytkdoemlhjhmfhaa
