/- Layer 7: the document's runs of places. -/
import Derived.Test.YtkdoemlhjhmfhaaC5
namespace Go.Proofs.Ytkdoemlhjhmfhaa
namespace Abs
set_option linter.unusedVariables false
set_option linter.unusedSimpArgs false
set_option maxHeartbeats 1600000
open Go.RowKit
attribute [local irreducible] WO WC WD StepK Ans Does Runs DoesD
variable {C : Cfg} (hS : ∀ f args h, f ≠ 8 → C.S f args h = none)

/-- The last run ends at i just where the place ahead of i is not used. -/
def KF (U : List Bool) (R : List (Int × Int)) (i : Nat) : Prop :=
  (0 < i → U[i - 1]? = some false → ∃ r, R.getLast? = some r ∧ r.1 + r.2 = i) ∧ (∀ r, R.getLast? = some r → r.1 + r.2 = i → 0 < i ∧ U[i - 1]? = some false)

include hS
theorem refOf_ans (hF : C.F 19 = some a19) (h : Heap) (hw : Wf h) (x : V) (U : List Bool) (hx : Sl h 1 x (U.map fun u => [.bool u])) (hl : U.length ≤ 900) : Ans C 19 [x] h fun v h' => Grown h' h.size 2 v ((ofF 0 [] U).map rn) ∧ Grow h h' := by
  unfold a19 at hF
  refine Ans.fn (fun _ _ => hS _ _ _ (by decide)) hF rfl rfl hw fun h2 g => ?_
  clear hF
  have hsx : slLen x = some U.length := by rw [hx.len, List.length_map]
  refine WC.seqO ?_
  (repeat (first | refine WO.ops (StepK.mv rfl) ?_ | refine WO.ops (StepK.lenSl rfl (by first | with_reducible assumption | rfl)) ?_ | refine WO.ops (StepK.fieldAddr rfl) ?_ | refine WO.ops (StepK.add rfl rfl (by omega)) ?_ | refine WO.ops (StepK.sub rfl rfl (by omega)) ?_ | refine WO.ops (StepK.bin rfl rfl rfl) ?_ | refine WO.ops (StepK.pickT rfl rfl) ?_ | refine WO.ops (StepK.pickF rfl rfl) ?_ | refine WO.ops (StepK.not rfl) ?_ | refine WO.ops (StepK.eq rfl rfl rfl) ?_ | refine WO.ops (StepK.extract rfl rfl) ?_ | refine WO.ops (StepK.build rfl rfl) ?_ | refine WO.ops (StepK.mkFn rfl rfl) ?_ | refine WO.ops (StepK.field rfl rfl) ?_ | refine WO.ops (StepK.lenStr rfl) ?_ | refine WO.ops (StepK.min2 rfl rfl) ?_ | refine WO.ops (StepK.max2 rfl rfl) ?_ | refine WO.ops (StepK.load1 rfl (by first | with_reducible assumption | rfl)) ?_ | refine WO.run rfl ?_ | refine WO.skip rfl rfl ?_ | refine WO.skipu rfl ?_))
  refine WO.nil (WC.seqO ?_)
  (repeat (first | refine WO.ops (StepK.mv rfl) ?_ | refine WO.ops (StepK.lenSl rfl (by first | with_reducible assumption | rfl)) ?_ | refine WO.ops (StepK.fieldAddr rfl) ?_ | refine WO.ops (StepK.add rfl rfl (by omega)) ?_ | refine WO.ops (StepK.sub rfl rfl (by omega)) ?_ | refine WO.ops (StepK.bin rfl rfl rfl) ?_ | refine WO.ops (StepK.pickT rfl rfl) ?_ | refine WO.ops (StepK.pickF rfl rfl) ?_ | refine WO.ops (StepK.not rfl) ?_ | refine WO.ops (StepK.eq rfl rfl rfl) ?_ | refine WO.ops (StepK.extract rfl rfl) ?_ | refine WO.ops (StepK.build rfl rfl) ?_ | refine WO.ops (StepK.mkFn rfl rfl) ?_ | refine WO.ops (StepK.field rfl rfl) ?_ | refine WO.ops (StepK.lenStr rfl) ?_ | refine WO.ops (StepK.min2 rfl rfl) ?_ | refine WO.ops (StepK.max2 rfl rfl) ?_ | refine WO.ops (StepK.load1 rfl (by first | with_reducible assumption | rfl)) ?_ | refine WO.run rfl ?_ | refine WO.skip rfl rfl ?_ | refine WO.skipu rfl ?_))
  refine WO.nil (WC.seq (WC.seqO ?_))
  (repeat (first | refine WO.ops (StepK.mv rfl) ?_ | refine WO.ops (StepK.lenSl rfl (by first | with_reducible assumption | rfl)) ?_ | refine WO.ops (StepK.fieldAddr rfl) ?_ | refine WO.ops (StepK.add rfl rfl (by omega)) ?_ | refine WO.ops (StepK.sub rfl rfl (by omega)) ?_ | refine WO.ops (StepK.bin rfl rfl rfl) ?_ | refine WO.ops (StepK.pickT rfl rfl) ?_ | refine WO.ops (StepK.pickF rfl rfl) ?_ | refine WO.ops (StepK.not rfl) ?_ | refine WO.ops (StepK.eq rfl rfl rfl) ?_ | refine WO.ops (StepK.extract rfl rfl) ?_ | refine WO.ops (StepK.build rfl rfl) ?_ | refine WO.ops (StepK.mkFn rfl rfl) ?_ | refine WO.ops (StepK.field rfl rfl) ?_ | refine WO.ops (StepK.lenStr rfl) ?_ | refine WO.ops (StepK.min2 rfl rfl) ?_ | refine WO.ops (StepK.max2 rfl rfl) ?_ | refine WO.ops (StepK.load1 rfl (by first | with_reducible assumption | rfl)) ?_ | refine WO.run rfl ?_ | refine WO.skip rfl rfl ?_ | refine WO.skipu rfl ?_))
  refine WO.nil (WC.block ?_)
  refine WC.loop (σ := Nat × V × List (Int × Int)) (fun s => [(0, x), (3, s.2.1), (4, iv s.1)]) (fun s h' => Grow h h' ∧ s.1 ≤ U.length ∧ Grown h' h.size 2 s.2.1 (s.2.2.map rn) ∧ ofF 0 [] U = ofF s.1 s.2.2 (U.drop s.1) ∧ JF s.2.2 s.1 ∧ KF U s.2.2 s.1) (fun s => U.length - s.1) (0, .slice none 0 0, []) ?_ ⟨g, by omega, Grown.nil _ _ _, rfl, by simp [JF], by simp [KF]⟩ ?_
  · exact Cov.cons rfl (Cov.cons rfl (Cov.cons rfl (Cov.nil _)))
  rintro ⟨i, u, R⟩ h3 ⟨g3, hi, hg, hm, hj, hk⟩
  simp only at hi hg hm hj hk
  have hsu : slLen u = some R.length := by rw [hg.sl.len, List.length_map]
  refine WC.seq (WC.seqO ?_)
  refine WO.ops (StepK.mv rfl) ?_
  refine WO.ops (StepK.mv rfl) ?_
  refine WO.ops (StepK.lenSl rfl hsx) ?_
  (repeat (first | refine WO.ops (StepK.mv rfl) ?_ | refine WO.ops (StepK.lenSl rfl (by first | with_reducible assumption | rfl)) ?_ | refine WO.ops (StepK.fieldAddr rfl) ?_ | refine WO.ops (StepK.add rfl rfl (by omega)) ?_ | refine WO.ops (StepK.sub rfl rfl (by omega)) ?_ | refine WO.ops (StepK.bin rfl rfl rfl) ?_ | refine WO.ops (StepK.pickT rfl rfl) ?_ | refine WO.ops (StepK.pickF rfl rfl) ?_ | refine WO.ops (StepK.not rfl) ?_ | refine WO.ops (StepK.eq rfl rfl rfl) ?_ | refine WO.ops (StepK.extract rfl rfl) ?_ | refine WO.ops (StepK.build rfl rfl) ?_ | refine WO.ops (StepK.mkFn rfl rfl) ?_ | refine WO.ops (StepK.field rfl rfl) ?_ | refine WO.ops (StepK.lenStr rfl) ?_ | refine WO.ops (StepK.min2 rfl rfl) ?_ | refine WO.ops (StepK.max2 rfl rfl) ?_ | refine WO.ops (StepK.load1 rfl (by first | with_reducible assumption | rfl)) ?_ | refine WO.run rfl ?_ | refine WO.skip rfl rfl ?_ | refine WO.skipu rfl ?_))
  refine WO.nil ?_
  refine WC.cond rfl (fun hc => WC.skip ?_) (fun hc => WC.exit ?_)
  rotate_left
  · have hc := of_decide_eq_false hc
    have : i = U.length := by omega
    subst this
    refine WC.seqO ?_
    (repeat (first | refine WO.ops (StepK.mv rfl) ?_ | refine WO.ops (StepK.lenSl rfl (by first | with_reducible assumption | rfl)) ?_ | refine WO.ops (StepK.fieldAddr rfl) ?_ | refine WO.ops (StepK.add rfl rfl (by omega)) ?_ | refine WO.ops (StepK.sub rfl rfl (by omega)) ?_ | refine WO.ops (StepK.bin rfl rfl rfl) ?_ | refine WO.ops (StepK.pickT rfl rfl) ?_ | refine WO.ops (StepK.pickF rfl rfl) ?_ | refine WO.ops (StepK.not rfl) ?_ | refine WO.ops (StepK.eq rfl rfl rfl) ?_ | refine WO.ops (StepK.extract rfl rfl) ?_ | refine WO.ops (StepK.build rfl rfl) ?_ | refine WO.ops (StepK.mkFn rfl rfl) ?_ | refine WO.ops (StepK.field rfl rfl) ?_ | refine WO.ops (StepK.lenStr rfl) ?_ | refine WO.ops (StepK.min2 rfl rfl) ?_ | refine WO.ops (StepK.max2 rfl rfl) ?_ | refine WO.ops (StepK.load1 rfl (by first | with_reducible assumption | rfl)) ?_ | refine WO.run rfl ?_ | refine WO.skip rfl rfl ?_ | refine WO.skipu rfl ?_))
    rw [List.drop_length] at hm
    simp only [ofF] at hm
    refine WO.nil (WC.ret ⟨trivial, g3.wf, u, rfl, fun h5 g5 => ⟨by rw [hm]; exact hg.grow g5, g3.trans g5⟩, fun hs => ⟨by rw [hm]; exact hg.scopd hs h, Grow.refl hw⟩⟩)
  have hc := of_decide_eq_true hc
  have hi : i < U.length := by omega
  have hRl : R.length ≤ 1000 := by have := hj.1; omega
  obtain ⟨b, o, k1, k2⟩ := (hx.grow g3).at (i := i) (by rw [List.length_map]; exact hi)
  rw [List.getElem_map] at k2
  have hd : U.drop i = U[i] :: U.drop (i + 1) := List.drop_eq_getElem_cons hi
  have hui : U[i]? = some U[i] := List.getElem?_eq_getElem hi
  rw [hd] at hm
  generalize U[i] = is at *
  simp only [ofF] at hm
  have r0 : h3.rd b o = some (.bool is) := by have := rds_rd k2 (j := 0) rfl; simpa using this
  have push : ∀ (e : List (Nat × V)) (v : V) (h4 : Heap) (R' : List (Int × Int)), Cov [(0, x), (3, v), (4, iv i)] e → Grow h h4 → Grown h4 h.size 2 v (R'.map rn) → (if is = true then R else addF R i) = R' → JF R' (i + 1) → KF U R' (i + 1) →
      WC C (.ops [⟨(some 9), none, .mv (.t 4)⟩, ⟨(some 10), none, .bin .add (.t 9) (.c (.int .i64 (1)))⟩, ⟨(some 4), none, .mv (.t 10)⟩]) e h4 (fun x_1 e' h' => match x_1 with
        | .normal => ∃ s' : Nat × V × List (Int × Int), Cov [(0, x), (3, s'.2.1), (4, iv s'.1)] e' ∧ (Grow h h' ∧ s'.1 ≤ U.length ∧ Grown h' h.size 2 s'.2.1 (s'.2.2.map rn) ∧ ofF 0 [] U = ofF s'.1 s'.2.2 (U.drop s'.1) ∧ JF s'.2.2 s'.1 ∧ KF U s'.2.2 s'.1) ∧ U.length - s'.1 < U.length - i
        | _ => False) := by
    intro e v h4 R' hcv g4 hg4 hR' hj' hk'
    refine WC.cov hcv (WC.ops ?_)
    (repeat (first | refine WO.ops (StepK.mv rfl) ?_ | refine WO.ops (StepK.lenSl rfl (by first | with_reducible assumption | rfl)) ?_ | refine WO.ops (StepK.fieldAddr rfl) ?_ | refine WO.ops (StepK.add rfl rfl (by omega)) ?_ | refine WO.ops (StepK.sub rfl rfl (by omega)) ?_ | refine WO.ops (StepK.bin rfl rfl rfl) ?_ | refine WO.ops (StepK.pickT rfl rfl) ?_ | refine WO.ops (StepK.pickF rfl rfl) ?_ | refine WO.ops (StepK.not rfl) ?_ | refine WO.ops (StepK.eq rfl rfl rfl) ?_ | refine WO.ops (StepK.extract rfl rfl) ?_ | refine WO.ops (StepK.build rfl rfl) ?_ | refine WO.ops (StepK.mkFn rfl rfl) ?_ | refine WO.ops (StepK.field rfl rfl) ?_ | refine WO.ops (StepK.lenStr rfl) ?_ | refine WO.ops (StepK.min2 rfl rfl) ?_ | refine WO.ops (StepK.max2 rfl rfl) ?_ | refine WO.ops (StepK.load1 rfl (by first | with_reducible assumption | rfl)) ?_ | refine WO.run rfl ?_ | refine WO.skip rfl rfl ?_ | refine WO.skipu rfl ?_))
    refine WO.nil ⟨(i + 1, v, R'), ?_, ⟨g4, hi, hg4, by rw [hm, hR']; rfl, hj', hk'⟩, by simp only; omega⟩
    exact Cov.cons rfl (Cov.cons rfl (Cov.cons rfl (Cov.nil _)))
  refine WC.seq (WC.block (WC.seq (WC.seqO ?_)))
  refine WO.ops (StepK.mv rfl) ?_
  refine WO.ops (StepK.mv rfl) ?_
  refine WO.ops (StepK.idxSl rfl rfl k1) ?_
  refine WO.ops (StepK.load1 rfl r0) ?_
  refine WO.nil (WC.cond rfl (fun hc1 => WC.exit ?_) (fun hc1 => WC.skip (WC.seqO ?_)))
  · subst hc1
    refine (push _ u h3 R ?_ g3 hg rfl hj.up ?_).mono ?_
    · exact Cov.cons rfl (Cov.cons rfl (Cov.cons rfl (Cov.nil _)))
    · refine ⟨fun _ hq => ?_, fun r hr he => ?_⟩
      · simp only [Nat.add_sub_cancel] at hq; rw [hui] at hq; cases hq
      · have := hj.2 r (List.mem_of_getLast? hr); omega
    · intro x1 e1 h1 hq; cases x1 <;> first | exact hq | exact hq.elim
  subst hc1
  have hkn : ∀ R' : List (Int × Int), (∃ r, R'.getLast? = some r ∧ r.1 + r.2 = ((i + 1 : Nat) : Int)) → KF U R' (i + 1) := by
    intro R' hr
    refine ⟨fun _ _ => hr, fun r _ _ => ⟨by omega, by simp only [Nat.add_sub_cancel]; exact hui⟩⟩
  (repeat (first | refine WO.ops (StepK.mv rfl) ?_ | refine WO.ops (StepK.lenSl rfl (by first | with_reducible assumption | rfl)) ?_ | refine WO.ops (StepK.fieldAddr rfl) ?_ | refine WO.ops (StepK.add rfl rfl (by omega)) ?_ | refine WO.ops (StepK.sub rfl rfl (by omega)) ?_ | refine WO.ops (StepK.bin rfl rfl rfl) ?_ | refine WO.ops (StepK.pickT rfl rfl) ?_ | refine WO.ops (StepK.pickF rfl rfl) ?_ | refine WO.ops (StepK.not rfl) ?_ | refine WO.ops (StepK.eq rfl rfl rfl) ?_ | refine WO.ops (StepK.extract rfl rfl) ?_ | refine WO.ops (StepK.build rfl rfl) ?_ | refine WO.ops (StepK.mkFn rfl rfl) ?_ | refine WO.ops (StepK.field rfl rfl) ?_ | refine WO.ops (StepK.lenStr rfl) ?_ | refine WO.ops (StepK.min2 rfl rfl) ?_ | refine WO.ops (StepK.max2 rfl rfl) ?_ | refine WO.ops (StepK.load1 rfl (by first | with_reducible assumption | rfl)) ?_ | refine WO.run rfl ?_ | refine WO.skip rfl rfl ?_ | refine WO.skipu rfl ?_))
  have app : (R.getLast? = none ∨ ∃ r, R.getLast? = some r ∧ r.1 + r.2 ≠ i) → ∀ e, Cov [(0, x), (3, u), (4, iv i)] e → WC C (.ops [⟨(some 35), none, .mv (.t 3)⟩,
        ⟨(some 36), none, .mv (.t 4)⟩,
        ⟨(some 37), none, .build [(.int .i64 (0)), (.int .i64 (0))] [(0, 1, (.t 36)), (1, 1, (.c (.int .i64 (1))))]⟩,
        ⟨(some 38), none, .buildSl [(.int .i64 (0)), (.int .i64 (0))] 1 [(0, 2, (.t 37))]⟩,
        ⟨(some 39), none, .append 2 16 (.t 35) (.t 38)⟩,
        ⟨(some 3), none, .mv (.t 39)⟩]) e h3 (fun x_1 e' h' => match x_1 with
        | .normal => ∃ v R', Cov [(0, x), (3, v), (4, iv i)] e' ∧ Grow h h' ∧ Grown h' h.size 2 v (R'.map rn) ∧ addF R i = R' ∧ JF R' (i + 1) ∧ KF U R' (i + 1)
        | _ => False) := by
    intro ha e hcv
    refine WC.cov hcv (WC.ops ?_)
    refine WO.ops (StepK.mv rfl) ?_
    refine WO.ops (StepK.mv rfl) ?_
    refine WO.ops (StepK.build (cs := rn (i, 1)) rfl rfl) ?_
    refine WO.ops (StepK.buildSl (cs := rn (i, 1)) rfl rfl) ?_
    obtain ⟨v, h6, s1, s2, s3⟩ := grow_one hw g3 hg hRl (i, 1)
    refine WO.ops (StepK.append rfl rfl s1) ?_
    refine WO.ops (StepK.mv rfl) (WO.nil ?_)
    refine ⟨v, R ++ [((i : Int), 1)], Cov.cons rfl (Cov.cons rfl (Cov.cons rfl (Cov.nil _))), s3, s2, ?_, hj.app, hkn _ ⟨_, by rw [List.getLast?_concat], by simp⟩⟩
    rcases ha with ha | ⟨r, ha, hb⟩
    · rw [addF, ha]
    · rw [addF, ha]; simp [hb]
  have fin : ∀ x_1 e' h', (match x_1 with
        | .normal => ∃ v R', Cov [(0, x), (3, v), (4, iv i)] e' ∧ Grow h h' ∧ Grown h' h.size 2 v (R'.map rn) ∧ addF R i = R' ∧ JF R' (i + 1) ∧ KF U R' (i + 1)
        | _ => False : Prop) → x_1 = Ex.normal ∧ WC C (.ops [⟨(some 9), none, .mv (.t 4)⟩, ⟨(some 10), none, .bin .add (.t 9) (.c (.int .i64 (1)))⟩, ⟨(some 4), none, .mv (.t 10)⟩]) e' h' (fun x_1 e' h' => match x_1 with
        | .normal => ∃ s' : Nat × V × List (Int × Int), Cov [(0, x), (3, s'.2.1), (4, iv s'.1)] e' ∧ (Grow h h' ∧ s'.1 ≤ U.length ∧ Grown h' h.size 2 s'.2.1 (s'.2.2.map rn) ∧ ofF 0 [] U = ofF s'.1 s'.2.2 (U.drop s'.1) ∧ JF s'.2.2 s'.1 ∧ KF U s'.2.2 s'.1) ∧ U.length - s'.1 < U.length - i
        | _ => False) := by
    intro x1 e1 h1 hq
    cases x1 with
    | normal =>
      obtain ⟨v, R', q1, q2, q3, q4, q5, q6⟩ := hq
      exact ⟨rfl, push e1 v h1 R' q1 q2 q3 (by rw [← q4]; rfl) q5 q6⟩
    | ret => exact hq.elim
    | exit id => exact hq.elim
  refine WO.splitG rfl (fun hc2 => ?_) (fun hc2 => ?_)
  rotate_left
  · have hc2 := of_decide_eq_false hc2
    have hi0 : i = 0 := by omega
    (repeat (first | refine WO.ops (StepK.mv rfl) ?_ | refine WO.ops (StepK.lenSl rfl (by first | with_reducible assumption | rfl)) ?_ | refine WO.ops (StepK.fieldAddr rfl) ?_ | refine WO.ops (StepK.add rfl rfl (by omega)) ?_ | refine WO.ops (StepK.sub rfl rfl (by omega)) ?_ | refine WO.ops (StepK.bin rfl rfl rfl) ?_ | refine WO.ops (StepK.pickT rfl rfl) ?_ | refine WO.ops (StepK.pickF rfl rfl) ?_ | refine WO.ops (StepK.not rfl) ?_ | refine WO.ops (StepK.eq rfl rfl rfl) ?_ | refine WO.ops (StepK.extract rfl rfl) ?_ | refine WO.ops (StepK.build rfl rfl) ?_ | refine WO.ops (StepK.mkFn rfl rfl) ?_ | refine WO.ops (StepK.field rfl rfl) ?_ | refine WO.ops (StepK.lenStr rfl) ?_ | refine WO.ops (StepK.min2 rfl rfl) ?_ | refine WO.ops (StepK.max2 rfl rfl) ?_ | refine WO.ops (StepK.load1 rfl (by first | with_reducible assumption | rfl)) ?_ | refine WO.run rfl ?_ | refine WO.skip rfl rfl ?_ | refine WO.skipu rfl ?_))
    refine WO.nil (WC.condF rfl ((app ?_ _ (Cov.cons rfl (Cov.cons rfl (Cov.cons rfl (Cov.nil _))))).mono fun x1 e1 h1 hq => ?_))
    · left
      have : R = [] := List.length_eq_zero_iff.1 (by have := hj.1; omega)
      subst this; rfl
    · obtain ⟨rfl, hq2⟩ := fin x1 e1 h1 hq
      refine hq2.mono fun x2 e2 h2 hq3 => ?_
      cases x2 with
      | normal => exact hq3
      | ret => exact hq3.elim
      | exit id => exact hq3.elim
  have hc2 := of_decide_eq_true hc2
  obtain ⟨b', o', k1', k2'⟩ := (hx.grow g3).at (i := i - 1) (by rw [List.length_map]; omega)
  rw [List.getElem_map] at k2'
  have hup : U[i - 1]? = some U[i - 1] := List.getElem?_eq_getElem (by omega)
  generalize U[i - 1] = was at *
  have r0' : h3.rd b' o' = some (.bool was) := by have := rds_rd k2' (j := 0) rfl; simpa using this
  have k1' : idxSlA 1 x (iv ((i : Int) - 1)) = some (.ptr (some (b', o'))) := by
    rw [← k1']; congr 2; omega
  (repeat (first | refine WO.ops (StepK.mv rfl) ?_ | refine WO.ops (StepK.lenSl rfl (by first | with_reducible assumption | rfl)) ?_ | refine WO.ops (StepK.fieldAddr rfl) ?_ | refine WO.ops (StepK.add rfl rfl (by omega)) ?_ | refine WO.ops (StepK.sub rfl rfl (by omega)) ?_ | refine WO.ops (StepK.bin rfl rfl rfl) ?_ | refine WO.ops (StepK.pickT rfl rfl) ?_ | refine WO.ops (StepK.pickF rfl rfl) ?_ | refine WO.ops (StepK.not rfl) ?_ | refine WO.ops (StepK.eq rfl rfl rfl) ?_ | refine WO.ops (StepK.extract rfl rfl) ?_ | refine WO.ops (StepK.build rfl rfl) ?_ | refine WO.ops (StepK.mkFn rfl rfl) ?_ | refine WO.ops (StepK.field rfl rfl) ?_ | refine WO.ops (StepK.lenStr rfl) ?_ | refine WO.ops (StepK.min2 rfl rfl) ?_ | refine WO.ops (StepK.max2 rfl rfl) ?_ | refine WO.ops (StepK.load1 rfl (by first | with_reducible assumption | rfl)) ?_ | refine WO.run rfl ?_ | refine WO.skip rfl rfl ?_ | refine WO.skipu rfl ?_))
  refine WO.ops (StepK.idxSl rfl rfl k1') ?_
  refine WO.run rfl ?_
  refine WO.ops (StepK.load1 rfl r0') ?_
  (repeat (first | refine WO.ops (StepK.mv rfl) ?_ | refine WO.ops (StepK.lenSl rfl (by first | with_reducible assumption | rfl)) ?_ | refine WO.ops (StepK.fieldAddr rfl) ?_ | refine WO.ops (StepK.add rfl rfl (by omega)) ?_ | refine WO.ops (StepK.sub rfl rfl (by omega)) ?_ | refine WO.ops (StepK.bin rfl rfl rfl) ?_ | refine WO.ops (StepK.pickT rfl rfl) ?_ | refine WO.ops (StepK.pickF rfl rfl) ?_ | refine WO.ops (StepK.not rfl) ?_ | refine WO.ops (StepK.eq rfl rfl rfl) ?_ | refine WO.ops (StepK.extract rfl rfl) ?_ | refine WO.ops (StepK.build rfl rfl) ?_ | refine WO.ops (StepK.mkFn rfl rfl) ?_ | refine WO.ops (StepK.field rfl rfl) ?_ | refine WO.ops (StepK.lenStr rfl) ?_ | refine WO.ops (StepK.min2 rfl rfl) ?_ | refine WO.ops (StepK.max2 rfl rfl) ?_ | refine WO.ops (StepK.load1 rfl (by first | with_reducible assumption | rfl)) ?_ | refine WO.run rfl ?_ | refine WO.skip rfl rfl ?_ | refine WO.skipu rfl ?_))
  refine WO.nil (WC.cond rfl (fun hc3 => WC.ops ?_) (fun hc3 => ?_))
  rotate_left
  · have hw3 : was = true := by simpa using hc3
    subst hw3
    refine (app ?_ _ (Cov.cons rfl (Cov.cons rfl (Cov.cons rfl (Cov.nil _))))).mono fun x1 e1 h1 hq => ?_
    · rcases hR : R.getLast? with _ | r
      · exact .inl rfl
      · refine .inr ⟨r, rfl, fun he => ?_⟩
        have := (hk.2 r hR he).2; rw [hup] at this; cases this
    · obtain ⟨rfl, hq2⟩ := fin x1 e1 h1 hq
      refine hq2.mono fun x2 e2 h2 hq3 => ?_
      cases x2 with
      | normal => exact hq3
      | ret => exact hq3.elim
      | exit id => exact hq3.elim
  have hw3 : was = false := by simpa using hc3
  subst hw3
  obtain ⟨r, hr, hre⟩ := hk.1 (by omega) hup
  have hlp : 0 < R.length := by
    rcases Nat.eq_zero_or_pos R.length with q | q
    · have : R = [] := List.length_eq_zero_iff.1 q
      subst this; cases hr
    · exact q
  have hrm : r ∈ R := List.mem_of_getLast? hr
  have hrb := hj.2 r hrm
  obtain ⟨b1, o1, h4, p1, p2, p3, p4, p5⟩ := grow_last hw g3 hg hlp hr
  have p6 : h3.rd b1 (o1 + 1) = some (iv r.2) := rds_rd p2 rfl
  refine WO.ops (StepK.mv rfl) ?_
  refine WO.ops (StepK.mv rfl) ?_
  refine WO.ops (StepK.lenSl rfl hsu) ?_
  (repeat (first | refine WO.ops (StepK.mv rfl) ?_ | refine WO.ops (StepK.lenSl rfl (by first | with_reducible assumption | rfl)) ?_ | refine WO.ops (StepK.fieldAddr rfl) ?_ | refine WO.ops (StepK.add rfl rfl (by omega)) ?_ | refine WO.ops (StepK.sub rfl rfl (by omega)) ?_ | refine WO.ops (StepK.bin rfl rfl rfl) ?_ | refine WO.ops (StepK.pickT rfl rfl) ?_ | refine WO.ops (StepK.pickF rfl rfl) ?_ | refine WO.ops (StepK.not rfl) ?_ | refine WO.ops (StepK.eq rfl rfl rfl) ?_ | refine WO.ops (StepK.extract rfl rfl) ?_ | refine WO.ops (StepK.build rfl rfl) ?_ | refine WO.ops (StepK.mkFn rfl rfl) ?_ | refine WO.ops (StepK.field rfl rfl) ?_ | refine WO.ops (StepK.lenStr rfl) ?_ | refine WO.ops (StepK.min2 rfl rfl) ?_ | refine WO.ops (StepK.max2 rfl rfl) ?_ | refine WO.ops (StepK.load1 rfl (by first | with_reducible assumption | rfl)) ?_ | refine WO.run rfl ?_ | refine WO.skip rfl rfl ?_ | refine WO.skipu rfl ?_))
  refine WO.ops (StepK.idxSl rfl rfl p1) ?_
  refine WO.ops (StepK.fieldAddr rfl) ?_
  refine WO.ops (StepK.load1 rfl p6) ?_
  (repeat (first | refine WO.ops (StepK.mv rfl) ?_ | refine WO.ops (StepK.lenSl rfl (by first | with_reducible assumption | rfl)) ?_ | refine WO.ops (StepK.fieldAddr rfl) ?_ | refine WO.ops (StepK.add rfl rfl (by omega)) ?_ | refine WO.ops (StepK.sub rfl rfl (by omega)) ?_ | refine WO.ops (StepK.bin rfl rfl rfl) ?_ | refine WO.ops (StepK.pickT rfl rfl) ?_ | refine WO.ops (StepK.pickF rfl rfl) ?_ | refine WO.ops (StepK.not rfl) ?_ | refine WO.ops (StepK.eq rfl rfl rfl) ?_ | refine WO.ops (StepK.extract rfl rfl) ?_ | refine WO.ops (StepK.build rfl rfl) ?_ | refine WO.ops (StepK.mkFn rfl rfl) ?_ | refine WO.ops (StepK.field rfl rfl) ?_ | refine WO.ops (StepK.lenStr rfl) ?_ | refine WO.ops (StepK.min2 rfl rfl) ?_ | refine WO.ops (StepK.max2 rfl rfl) ?_ | refine WO.ops (StepK.load1 rfl (by first | with_reducible assumption | rfl)) ?_ | refine WO.run rfl ?_ | refine WO.skip rfl rfl ?_ | refine WO.skipu rfl ?_))
  refine WO.ops (StepK.idxSl rfl rfl p1) ?_
  refine WO.ops (StepK.fieldAddr rfl) ?_
  refine WO.op (StepK.store rfl rfl rfl p3) (WO.nil ?_)
  refine (push _ u h4 _ ?_ p5 p4 ?_ (hj.set hrm hre) (hkn _ ⟨(r.1, r.2 + 1), ?_, ?_⟩)).mono ?_
  · exact Cov.cons rfl (Cov.cons rfl (Cov.cons rfl (Cov.nil _)))
  · rw [addF, hr]; simp [hre]
  · rw [List.getLast?_eq_getElem?, List.length_set, List.getElem?_set_self (by omega)]
  · simp only; omega
  · intro x1 e1 h1 hq; cases x1 <;> first | exact hq | exact hq.elim
end Abs
end Go.Proofs.Ytkdoemlhjhmfhaa
