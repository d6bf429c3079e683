/- Layer 7: the search for a place in sorted runs. -/
import Derived.Test.YtkdoemlhjhmfhaaC9
namespace Go.Proofs.Ytkdoemlhjhmfhaa
namespace Abs
set_option linter.unusedVariables false
set_option linter.unusedSimpArgs false
set_option maxHeartbeats 1600000
open Go.RowKit
attribute [local irreducible] WO WC WD StepK Ans Does Runs DoesD

theorem wrapu64 {n : Int} (h1 : 0 ≤ n) (h2 : n < 18446744073709551616) : IntKind.u64.wrap n = n := by
  have hd : IntKind.u64.wrap n = n % 18446744073709551616 := by
    simp [IntKind.wrap, IntKind.signed, IntKind.bits]
  rw [hd]; omega
theorem shr1 {a : Int} (h : 0 ≤ a) : binA .shr (.int .u64 a) (.int .u64 1) = some (.int .u64 (a / 2)) := by
  simp only [binA, shiftA]
  rw [if_neg (by omega)]
  simp [IntKind.bits, Int.fdiv_eq_ediv_of_nonneg]

variable {C : Cfg} (hS : ∀ f args h, f ≠ 8 → C.S f args h = none)
include hS
theorem less_ans (hF : C.F 31 = some a31) (h : Heap) (hw : Wf h) (r s : Int × Int) (hb : -9223372036854775808 ≤ r.1 - s.1 ∧ r.1 - s.1 < 9223372036854775808) : Ans C 31 ([] ++ [.agg (rn r), .agg (rn s)] ++ []) h fun v h' => v = iv (r.1 - s.1) ∧ Grow h h' := by
  unfold a31 at hF
  refine Ans.val (fun _ _ => hS _ _ _ (by decide)) hF rfl rfl hw fun h2 g => ?_
  clear hF
  obtain ⟨a, m⟩ := r
  obtain ⟨b, n⟩ := s
  refine WC.seqO ?_
  refine WO.ops (StepK.box rfl) ?_
  have gp : Grow h2 (h2.push (.cells (V.agg (rn (a, m))).cellsOf (.tip [] 0))) := (Grow.refl g.wf).push _
  have q1 : (h2.push (.cells (V.agg (rn (a, m))).cellsOf (.tip [] 0))).rd h2.size (0 + 0) = some (iv a) := rd_get (get_push_self _ _) rfl
  have g3 := g.trans gp
  generalize h2.push (.cells (V.agg (rn (a, m))).cellsOf (.tip [] 0)) = h3 at *
  generalize h2.size = c at *
  refine WO.ops (StepK.box rfl) ?_
  have gp : Grow h3 (h3.push (.cells (V.agg (rn (b, n))).cellsOf (.tip [] 0))) := (Grow.refl g3.wf).push _
  have q2 : (h3.push (.cells (V.agg (rn (b, n))).cellsOf (.tip [] 0))).rd h3.size (0 + 0) = some (iv b) := rd_get (get_push_self _ _) rfl
  have q1 := gp.rd q1
  have g4 := g3.trans gp
  (repeat (first | refine WO.ops (StepK.mv rfl) ?_ | refine WO.ops (StepK.lenSl rfl (by first | with_reducible assumption | rfl)) ?_ | refine WO.ops (StepK.fieldAddr rfl) ?_ | refine WO.ops (StepK.add rfl rfl (by omega)) ?_ | refine WO.ops (StepK.sub rfl rfl (by omega)) ?_ | refine WO.ops (StepK.bin rfl rfl rfl) ?_ | refine WO.ops (StepK.pickT rfl rfl) ?_ | refine WO.ops (StepK.pickF rfl rfl) ?_ | refine WO.ops (StepK.not rfl) ?_ | refine WO.ops (StepK.eq rfl rfl rfl) ?_ | refine WO.ops (StepK.extract rfl rfl) ?_ | refine WO.ops (StepK.build rfl rfl) ?_ | refine WO.ops (StepK.mkFn rfl rfl) ?_ | refine WO.ops (StepK.field rfl rfl) ?_ | refine WO.ops (StepK.lenStr rfl) ?_ | refine WO.ops (StepK.min2 rfl rfl) ?_ | refine WO.ops (StepK.max2 rfl rfl) ?_ | refine WO.ops (StepK.load1 rfl (by first | with_reducible assumption | rfl)) ?_ | refine WO.run rfl ?_ | refine WO.skip rfl rfl ?_ | refine WO.skipu rfl ?_))
  refine WO.nil (WC.seqO ?_)
  refine WO.ops (StepK.fieldAddr rfl) ?_
  refine WO.ops (StepK.load1 rfl q1) ?_
  refine WO.ops (StepK.fieldAddr rfl) ?_
  refine WO.ops (StepK.load1 rfl q2) ?_
  refine WO.ops (StepK.sub rfl rfl hb) ?_
  (repeat (first | refine WO.ops (StepK.mv rfl) ?_ | refine WO.ops (StepK.lenSl rfl (by first | with_reducible assumption | rfl)) ?_ | refine WO.ops (StepK.fieldAddr rfl) ?_ | refine WO.ops (StepK.add rfl rfl (by omega)) ?_ | refine WO.ops (StepK.sub rfl rfl (by omega)) ?_ | refine WO.ops (StepK.bin rfl rfl rfl) ?_ | refine WO.ops (StepK.pickT rfl rfl) ?_ | refine WO.ops (StepK.pickF rfl rfl) ?_ | refine WO.ops (StepK.not rfl) ?_ | refine WO.ops (StepK.eq rfl rfl rfl) ?_ | refine WO.ops (StepK.extract rfl rfl) ?_ | refine WO.ops (StepK.build rfl rfl) ?_ | refine WO.ops (StepK.mkFn rfl rfl) ?_ | refine WO.ops (StepK.field rfl rfl) ?_ | refine WO.ops (StepK.lenStr rfl) ?_ | refine WO.ops (StepK.min2 rfl rfl) ?_ | refine WO.ops (StepK.max2 rfl rfl) ?_ | refine WO.ops (StepK.load1 rfl (by first | with_reducible assumption | rfl)) ?_ | refine WO.run rfl ?_ | refine WO.skip rfl rfl ?_ | refine WO.skipu rfl ?_))
  exact WO.nil (WC.ret ⟨trivial, g4, rfl⟩)

/-- Where a run's place is, in runs that lie one behind the other. -/
def Cut (R : List (Int × Int)) (a : Int) (i : Nat) : Prop := i ≤ R.length ∧ (∀ (j : Nat) r, j < i → R[j]? = some r → r.1 < a) ∧ ∀ (j : Nat) r, i ≤ j → R[j]? = some r → a ≤ r.1

theorem search_ans (hF : C.F 30 = some a30) (hF31 : C.F 31 = some a31) (h : Heap) (hw : Wf h) (x : V) (R : List (Int × Int)) (t : Int × Int) (hx : Sl h 2 x (R.map rn)) (hl : R.length ≤ 300) (hb : ∀ r ∈ R, 0 ≤ r.1 ∧ r.1 ≤ 1073741824) (ht : 0 ≤ t.1 ∧ t.1 ≤ 1073741824)
    (hmono : ∀ (i j : Nat) (s r : Int × Int), i < j → R[i]? = some s → R[j]? = some r → s.1 < r.1) : Ans C 30 [x, .agg (rn t), .func (.func 31) [] []] h fun v h' => ∃ (i : Nat) (b : Bool), v = .tuple [iv i, .bool b] ∧ Cut R t.1 i ∧ Grow h h' := by
  unfold a30 at hF
  refine Ans.fn (fun _ _ => hS _ _ _ (by decide)) hF rfl rfl hw fun h2 g => ?_
  clear hF
  have hsl : slLen x = some R.length := by rw [hx.len, List.length_map]
  refine WC.seqO ?_
  refine WO.ops (StepK.box rfl) ?_
  have gp : Grow h2 (h2.push (.cells (V.agg (rn t)).cellsOf (.tip [] 0))) := (Grow.refl g.wf).push _
  have qt : (h2.push (.cells (V.agg (rn t)).cellsOf (.tip [] 0))).rds h2.size 0 2 = some (rn t) := rds_all (get_push_self _ _) rfl
  have g3 := g.trans gp
  generalize h2.push (.cells (V.agg (rn t)).cellsOf (.tip [] 0)) = h3 at *
  generalize h2.size = c at *
  (repeat (first | refine WO.ops (StepK.mv rfl) ?_ | refine WO.ops (StepK.lenSl rfl (by first | with_reducible assumption | rfl)) ?_ | refine WO.ops (StepK.fieldAddr rfl) ?_ | refine WO.ops (StepK.add rfl rfl (by omega)) ?_ | refine WO.ops (StepK.sub rfl rfl (by omega)) ?_ | refine WO.ops (StepK.bin rfl rfl rfl) ?_ | refine WO.ops (StepK.pickT rfl rfl) ?_ | refine WO.ops (StepK.pickF rfl rfl) ?_ | refine WO.ops (StepK.not rfl) ?_ | refine WO.ops (StepK.eq rfl rfl rfl) ?_ | refine WO.ops (StepK.extract rfl rfl) ?_ | refine WO.ops (StepK.build rfl rfl) ?_ | refine WO.ops (StepK.mkFn rfl rfl) ?_ | refine WO.ops (StepK.field rfl rfl) ?_ | refine WO.ops (StepK.lenStr rfl) ?_ | refine WO.ops (StepK.min2 rfl rfl) ?_ | refine WO.ops (StepK.max2 rfl rfl) ?_ | refine WO.ops (StepK.load1 rfl (by first | with_reducible assumption | rfl)) ?_ | refine WO.run rfl ?_ | refine WO.skip rfl rfl ?_ | refine WO.skipu rfl ?_))
  refine WO.nil (WC.seqO ?_)
  refine WO.ops (StepK.mv rfl) ?_
  refine WO.ops (StepK.lenSl rfl hsl) ?_
  (repeat (first | refine WO.ops (StepK.mv rfl) ?_ | refine WO.ops (StepK.lenSl rfl (by first | with_reducible assumption | rfl)) ?_ | refine WO.ops (StepK.fieldAddr rfl) ?_ | refine WO.ops (StepK.add rfl rfl (by omega)) ?_ | refine WO.ops (StepK.sub rfl rfl (by omega)) ?_ | refine WO.ops (StepK.bin rfl rfl rfl) ?_ | refine WO.ops (StepK.pickT rfl rfl) ?_ | refine WO.ops (StepK.pickF rfl rfl) ?_ | refine WO.ops (StepK.not rfl) ?_ | refine WO.ops (StepK.eq rfl rfl rfl) ?_ | refine WO.ops (StepK.extract rfl rfl) ?_ | refine WO.ops (StepK.build rfl rfl) ?_ | refine WO.ops (StepK.mkFn rfl rfl) ?_ | refine WO.ops (StepK.field rfl rfl) ?_ | refine WO.ops (StepK.lenStr rfl) ?_ | refine WO.ops (StepK.min2 rfl rfl) ?_ | refine WO.ops (StepK.max2 rfl rfl) ?_ | refine WO.ops (StepK.load1 rfl (by first | with_reducible assumption | rfl)) ?_ | refine WO.run rfl ?_ | refine WO.skip rfl rfl ?_ | refine WO.skipu rfl ?_))
  refine WO.nil (WC.seqO ?_)
  (repeat (first | refine WO.ops (StepK.mv rfl) ?_ | refine WO.ops (StepK.lenSl rfl (by first | with_reducible assumption | rfl)) ?_ | refine WO.ops (StepK.fieldAddr rfl) ?_ | refine WO.ops (StepK.add rfl rfl (by omega)) ?_ | refine WO.ops (StepK.sub rfl rfl (by omega)) ?_ | refine WO.ops (StepK.bin rfl rfl rfl) ?_ | refine WO.ops (StepK.pickT rfl rfl) ?_ | refine WO.ops (StepK.pickF rfl rfl) ?_ | refine WO.ops (StepK.not rfl) ?_ | refine WO.ops (StepK.eq rfl rfl rfl) ?_ | refine WO.ops (StepK.extract rfl rfl) ?_ | refine WO.ops (StepK.build rfl rfl) ?_ | refine WO.ops (StepK.mkFn rfl rfl) ?_ | refine WO.ops (StepK.field rfl rfl) ?_ | refine WO.ops (StepK.lenStr rfl) ?_ | refine WO.ops (StepK.min2 rfl rfl) ?_ | refine WO.ops (StepK.max2 rfl rfl) ?_ | refine WO.ops (StepK.load1 rfl (by first | with_reducible assumption | rfl)) ?_ | refine WO.run rfl ?_ | refine WO.skip rfl rfl ?_ | refine WO.skipu rfl ?_))
  refine WO.nil (WC.seq (WC.block ?_))
  refine WC.loop (σ := Nat × Nat) (fun s => [(0, x), (2, .func (.func 31) [] []), (4, .ptr (some (c, 0))), (8, iv R.length), (9, iv s.1), (10, iv s.2)])
    (fun s h' => Grow h h' ∧ Grow h3 h' ∧ s.1 ≤ s.2 ∧ s.2 ≤ R.length ∧ (∀ (j : Nat) r, j < s.1 → R[j]? = some r → r.1 < t.1) ∧ ∀ (j : Nat) r, s.2 ≤ j → R[j]? = some r → t.1 ≤ r.1) (fun s => s.2 - s.1) (0, R.length) ?_ ⟨g3, Grow.refl g3.wf, by omega, by omega, fun j r hj _ => absurd hj (by simp), fun j r hj hr => absurd (List.getElem?_eq_some_iff.1 hr).1 (by omega)⟩ ?_
  · exact Cov.cons rfl (Cov.cons rfl (Cov.cons rfl (Cov.cons rfl (Cov.cons rfl (Cov.cons rfl (Cov.nil _))))))
  rintro ⟨lo, hi⟩ h5 ⟨g5, g35, l1, l2, c1, c2⟩
  simp only at l1 l2 c1 c2
  have qt5 := g35.rds qt
  have hx5 := hx.grow g5
  refine WC.seq (WC.seqO ?_)
  (repeat (first | refine WO.ops (StepK.mv rfl) ?_ | refine WO.ops (StepK.lenSl rfl (by first | with_reducible assumption | rfl)) ?_ | refine WO.ops (StepK.fieldAddr rfl) ?_ | refine WO.ops (StepK.add rfl rfl (by omega)) ?_ | refine WO.ops (StepK.sub rfl rfl (by omega)) ?_ | refine WO.ops (StepK.bin rfl rfl rfl) ?_ | refine WO.ops (StepK.pickT rfl rfl) ?_ | refine WO.ops (StepK.pickF rfl rfl) ?_ | refine WO.ops (StepK.not rfl) ?_ | refine WO.ops (StepK.eq rfl rfl rfl) ?_ | refine WO.ops (StepK.extract rfl rfl) ?_ | refine WO.ops (StepK.build rfl rfl) ?_ | refine WO.ops (StepK.mkFn rfl rfl) ?_ | refine WO.ops (StepK.field rfl rfl) ?_ | refine WO.ops (StepK.lenStr rfl) ?_ | refine WO.ops (StepK.min2 rfl rfl) ?_ | refine WO.ops (StepK.max2 rfl rfl) ?_ | refine WO.ops (StepK.load1 rfl (by first | with_reducible assumption | rfl)) ?_ | refine WO.run rfl ?_ | refine WO.skip rfl rfl ?_ | refine WO.skipu rfl ?_))
  refine WO.nil (WC.cond rfl (fun hc => WC.skip ?_) (fun hc => WC.exit ?_))
  rotate_left
  · have hc := of_decide_eq_false hc
    have : lo = hi := by omega
    subst this
    refine WC.seqD ?_
    have fin : ∀ (e : List (Nat × V)) (h6 : Heap) (b : Bool), Grow h h6 → Env.get e 6 = some (iv lo) → Env.get e 7 = some (.bool b) → Fin .ret ∧ Wf h6 ∧ ∃ v, retE e h6 [.tmp 6, .tmp 7] = some v ∧ (∀ h3, Grow h6 h3 → ∃ (i : Nat) (b : Bool), v = .tuple [iv i, .bool b] ∧ Cut R t.1 i ∧ Grow h h3) ∧ (v.scopd h.size = true → ∃ (i : Nat) (b : Bool), v = .tuple [iv i, .bool b] ∧ Cut R t.1 i ∧ Grow h h) := by
      intro e h6 b g6 e6 e7
      refine ⟨trivial, g6.wf, .tuple [iv lo, .bool b], by simp only [retE, ressE, resE, e6, e7, oneOf], fun h7 g7 => ⟨lo, b, rfl, ⟨l2, c1, c2⟩, g6.trans g7⟩, fun _ => ⟨lo, b, rfl, ⟨l2, c1, c2⟩, Grow.refl hw⟩⟩
    (repeat (first | refine WD.pure (StepK.mv rfl) rfl ?_ | refine WD.pure (StepK.lenSl rfl (by first | with_reducible assumption | rfl)) rfl ?_ | refine WD.pure (StepK.fieldAddr rfl) rfl ?_ | refine WD.pure (StepK.add rfl rfl (by omega)) rfl ?_ | refine WD.pure (StepK.sub rfl rfl (by omega)) rfl ?_ | refine WD.pure (StepK.bin rfl rfl rfl) rfl ?_ | refine WD.pure (StepK.pickT rfl rfl) rfl ?_ | refine WD.pure (StepK.pickF rfl rfl) rfl ?_ | refine WD.pure (StepK.not rfl) rfl ?_ | refine WD.pure (StepK.eq rfl rfl rfl) rfl ?_ | refine WD.pure (StepK.extract rfl rfl) rfl ?_ | refine WD.pure (StepK.build rfl rfl) rfl ?_ | refine WD.pure (StepK.mkFn rfl rfl) rfl ?_ | refine WD.pure (StepK.field rfl rfl) rfl ?_ | refine WD.pure (StepK.lenStr rfl) rfl ?_ | refine WD.pure (StepK.min2 rfl rfl) rfl ?_ | refine WD.pure (StepK.max2 rfl rfl) rfl ?_ | refine WD.load1 rfl (by first | with_reducible assumption | rfl) ?_ | refine WD.run rfl ?_ | refine WD.skipn rfl rfl rfl ?_ | refine WD.skipun rfl rfl ?_))
    refine WD.splitG rfl (fun hc1 => ?_) (fun hc1 => ?_)
    rotate_left
    · (repeat (first | refine WD.pure (StepK.mv rfl) rfl ?_ | refine WD.pure (StepK.lenSl rfl (by first | with_reducible assumption | rfl)) rfl ?_ | refine WD.pure (StepK.fieldAddr rfl) rfl ?_ | refine WD.pure (StepK.add rfl rfl (by omega)) rfl ?_ | refine WD.pure (StepK.sub rfl rfl (by omega)) rfl ?_ | refine WD.pure (StepK.bin rfl rfl rfl) rfl ?_ | refine WD.pure (StepK.pickT rfl rfl) rfl ?_ | refine WD.pure (StepK.pickF rfl rfl) rfl ?_ | refine WD.pure (StepK.not rfl) rfl ?_ | refine WD.pure (StepK.eq rfl rfl rfl) rfl ?_ | refine WD.pure (StepK.extract rfl rfl) rfl ?_ | refine WD.pure (StepK.build rfl rfl) rfl ?_ | refine WD.pure (StepK.mkFn rfl rfl) rfl ?_ | refine WD.pure (StepK.field rfl rfl) rfl ?_ | refine WD.pure (StepK.lenStr rfl) rfl ?_ | refine WD.pure (StepK.min2 rfl rfl) rfl ?_ | refine WD.pure (StepK.max2 rfl rfl) rfl ?_ | refine WD.load1 rfl (by first | with_reducible assumption | rfl) ?_ | refine WD.run rfl ?_ | refine WD.skipn rfl rfl rfl ?_ | refine WD.skipun rfl rfl ?_))
      refine WD.skip (fun _ => trivial) rfl rfl ?_
      (repeat (first | refine WD.pure (StepK.mv rfl) rfl ?_ | refine WD.pure (StepK.lenSl rfl (by first | with_reducible assumption | rfl)) rfl ?_ | refine WD.pure (StepK.fieldAddr rfl) rfl ?_ | refine WD.pure (StepK.add rfl rfl (by omega)) rfl ?_ | refine WD.pure (StepK.sub rfl rfl (by omega)) rfl ?_ | refine WD.pure (StepK.bin rfl rfl rfl) rfl ?_ | refine WD.pure (StepK.pickT rfl rfl) rfl ?_ | refine WD.pure (StepK.pickF rfl rfl) rfl ?_ | refine WD.pure (StepK.not rfl) rfl ?_ | refine WD.pure (StepK.eq rfl rfl rfl) rfl ?_ | refine WD.pure (StepK.extract rfl rfl) rfl ?_ | refine WD.pure (StepK.build rfl rfl) rfl ?_ | refine WD.pure (StepK.mkFn rfl rfl) rfl ?_ | refine WD.pure (StepK.field rfl rfl) rfl ?_ | refine WD.pure (StepK.lenStr rfl) rfl ?_ | refine WD.pure (StepK.min2 rfl rfl) rfl ?_ | refine WD.pure (StepK.max2 rfl rfl) rfl ?_ | refine WD.load1 rfl (by first | with_reducible assumption | rfl) ?_ | refine WD.run rfl ?_ | refine WD.skipn rfl rfl rfl ?_ | refine WD.skipun rfl rfl ?_))
      exact WD.nil trivial (WC.ret (fin _ _ _ g5 rfl rfl))
    have hc1 := of_decide_eq_true hc1
    have hlo : lo < R.length := by omega
    obtain ⟨b, o, k1, k2⟩ := hx5.at (i := lo) (by rw [List.length_map]; exact hlo)
    rw [List.getElem_map] at k2
    have hrb := hb R[lo] (List.getElem_mem hlo)
    generalize R[lo] = r at hrb k2
    (repeat (first | refine WD.pure (StepK.mv rfl) rfl ?_ | refine WD.pure (StepK.lenSl rfl (by first | with_reducible assumption | rfl)) rfl ?_ | refine WD.pure (StepK.fieldAddr rfl) rfl ?_ | refine WD.pure (StepK.add rfl rfl (by omega)) rfl ?_ | refine WD.pure (StepK.sub rfl rfl (by omega)) rfl ?_ | refine WD.pure (StepK.bin rfl rfl rfl) rfl ?_ | refine WD.pure (StepK.pickT rfl rfl) rfl ?_ | refine WD.pure (StepK.pickF rfl rfl) rfl ?_ | refine WD.pure (StepK.not rfl) rfl ?_ | refine WD.pure (StepK.eq rfl rfl rfl) rfl ?_ | refine WD.pure (StepK.extract rfl rfl) rfl ?_ | refine WD.pure (StepK.build rfl rfl) rfl ?_ | refine WD.pure (StepK.mkFn rfl rfl) rfl ?_ | refine WD.pure (StepK.field rfl rfl) rfl ?_ | refine WD.pure (StepK.lenStr rfl) rfl ?_ | refine WD.pure (StepK.min2 rfl rfl) rfl ?_ | refine WD.pure (StepK.max2 rfl rfl) rfl ?_ | refine WD.load1 rfl (by first | with_reducible assumption | rfl) ?_ | refine WD.run rfl ?_ | refine WD.skipn rfl rfl rfl ?_ | refine WD.skipun rfl rfl ?_))
    refine WD.pure (StepK.idxSl rfl rfl k1) rfl ?_
    refine WD.run rfl ?_
    refine WD.loadN rfl k2 ?_
    refine WD.run rfl ?_
    refine WD.loadN rfl qt5 ?_
    refine WD.run rfl ?_
    refine WD.call ⟨qt5, k2, trivial⟩ rfl rfl (less_ans hS hF31 h5 g5.wf r t (by omega)) ?_
    rintro v h6 ⟨rfl, g6⟩
    (repeat (first | refine WD.pure (StepK.mv rfl) rfl ?_ | refine WD.pure (StepK.lenSl rfl (by first | with_reducible assumption | rfl)) rfl ?_ | refine WD.pure (StepK.fieldAddr rfl) rfl ?_ | refine WD.pure (StepK.add rfl rfl (by omega)) rfl ?_ | refine WD.pure (StepK.sub rfl rfl (by omega)) rfl ?_ | refine WD.pure (StepK.bin rfl rfl rfl) rfl ?_ | refine WD.pure (StepK.pickT rfl rfl) rfl ?_ | refine WD.pure (StepK.pickF rfl rfl) rfl ?_ | refine WD.pure (StepK.not rfl) rfl ?_ | refine WD.pure (StepK.eq rfl rfl rfl) rfl ?_ | refine WD.pure (StepK.extract rfl rfl) rfl ?_ | refine WD.pure (StepK.build rfl rfl) rfl ?_ | refine WD.pure (StepK.mkFn rfl rfl) rfl ?_ | refine WD.pure (StepK.field rfl rfl) rfl ?_ | refine WD.pure (StepK.lenStr rfl) rfl ?_ | refine WD.pure (StepK.min2 rfl rfl) rfl ?_ | refine WD.pure (StepK.max2 rfl rfl) rfl ?_ | refine WD.load1 rfl (by first | with_reducible assumption | rfl) ?_ | refine WD.run rfl ?_ | refine WD.skipn rfl rfl rfl ?_ | refine WD.skipun rfl rfl ?_))
    exact WD.nil trivial (WC.ret (fin _ _ _ (g5.trans g6) rfl rfl))
  have hc := of_decide_eq_true hc
  have hlh : lo < hi := by omega
  refine WC.block (WC.seqO ?_)
  have hmid : ((lo : Int) + hi) / 2 = ((lo + hi) / 2 : Nat) := by omega
  have hm1 : lo ≤ (lo + hi) / 2 := by omega
  have hm2 : (lo + hi) / 2 < hi := by omega
  refine WO.ops (StepK.mv rfl) ?_
  refine WO.ops (StepK.mv rfl) ?_
  refine WO.ops (StepK.add rfl rfl (by omega)) ?_
  refine WO.ops (StepK.toInt rfl (wrapu64 (by omega) (by omega))) ?_
  refine WO.ops (StepK.bin rfl rfl (shr1 (by omega))) ?_
  refine WO.ops (StepK.toInt rfl (StepK.wrap64 (by omega) (by omega))) ?_
  rw [hmid]
  generalize (lo + hi) / 2 = mid at *
  (repeat (first | refine WO.ops (StepK.mv rfl) ?_ | refine WO.ops (StepK.lenSl rfl (by first | with_reducible assumption | rfl)) ?_ | refine WO.ops (StepK.fieldAddr rfl) ?_ | refine WO.ops (StepK.add rfl rfl (by omega)) ?_ | refine WO.ops (StepK.sub rfl rfl (by omega)) ?_ | refine WO.ops (StepK.bin rfl rfl rfl) ?_ | refine WO.ops (StepK.pickT rfl rfl) ?_ | refine WO.ops (StepK.pickF rfl rfl) ?_ | refine WO.ops (StepK.not rfl) ?_ | refine WO.ops (StepK.eq rfl rfl rfl) ?_ | refine WO.ops (StepK.extract rfl rfl) ?_ | refine WO.ops (StepK.build rfl rfl) ?_ | refine WO.ops (StepK.mkFn rfl rfl) ?_ | refine WO.ops (StepK.field rfl rfl) ?_ | refine WO.ops (StepK.lenStr rfl) ?_ | refine WO.ops (StepK.min2 rfl rfl) ?_ | refine WO.ops (StepK.max2 rfl rfl) ?_ | refine WO.ops (StepK.load1 rfl (by first | with_reducible assumption | rfl)) ?_ | refine WO.run rfl ?_ | refine WO.skip rfl rfl ?_ | refine WO.skipu rfl ?_))
  refine WO.nil (WC.seqD ?_)
  have hml : mid < R.length := by omega
  obtain ⟨b, o, k1, k2⟩ := hx5.at (i := mid) (by rw [List.length_map]; exact hml)
  rw [List.getElem_map] at k2
  have hrb := hb R[mid] (List.getElem_mem hml)
  have hri : R[mid]? = some R[mid] := List.getElem?_eq_getElem hml
  generalize R[mid] = r at hrb k2 hri
  refine WD.pure (StepK.mv rfl) rfl ?_
  refine WD.pure (StepK.mv rfl) rfl ?_
  refine WD.pure (StepK.mv rfl) rfl ?_
  refine WD.pure (StepK.idxSl rfl rfl k1) rfl ?_
  refine WD.loadN rfl k2 ?_
  refine WD.loadN rfl qt5 ?_
  refine WD.call ⟨qt5, k2, trivial⟩ rfl rfl (less_ans hS hF31 h5 g5.wf r t (by omega)) ?_
  rintro v h6 ⟨rfl, g6⟩
  (repeat (first | refine WD.pure (StepK.mv rfl) rfl ?_ | refine WD.pure (StepK.lenSl rfl (by first | with_reducible assumption | rfl)) rfl ?_ | refine WD.pure (StepK.fieldAddr rfl) rfl ?_ | refine WD.pure (StepK.add rfl rfl (by omega)) rfl ?_ | refine WD.pure (StepK.sub rfl rfl (by omega)) rfl ?_ | refine WD.pure (StepK.bin rfl rfl rfl) rfl ?_ | refine WD.pure (StepK.pickT rfl rfl) rfl ?_ | refine WD.pure (StepK.pickF rfl rfl) rfl ?_ | refine WD.pure (StepK.not rfl) rfl ?_ | refine WD.pure (StepK.eq rfl rfl rfl) rfl ?_ | refine WD.pure (StepK.extract rfl rfl) rfl ?_ | refine WD.pure (StepK.build rfl rfl) rfl ?_ | refine WD.pure (StepK.mkFn rfl rfl) rfl ?_ | refine WD.pure (StepK.field rfl rfl) rfl ?_ | refine WD.pure (StepK.lenStr rfl) rfl ?_ | refine WD.pure (StepK.min2 rfl rfl) rfl ?_ | refine WD.pure (StepK.max2 rfl rfl) rfl ?_ | refine WD.load1 rfl (by first | with_reducible assumption | rfl) ?_ | refine WD.run rfl ?_ | refine WD.skipn rfl rfl rfl ?_ | refine WD.skipun rfl rfl ?_))
  refine WD.nil trivial (WC.cond rfl (fun hc2 => WC.ops ?_) (fun hc2 => WC.ops ?_))
  · have hc2 := of_decide_eq_true hc2
    (repeat (first | refine WO.ops (StepK.mv rfl) ?_ | refine WO.ops (StepK.lenSl rfl (by first | with_reducible assumption | rfl)) ?_ | refine WO.ops (StepK.fieldAddr rfl) ?_ | refine WO.ops (StepK.add rfl rfl (by omega)) ?_ | refine WO.ops (StepK.sub rfl rfl (by omega)) ?_ | refine WO.ops (StepK.bin rfl rfl rfl) ?_ | refine WO.ops (StepK.pickT rfl rfl) ?_ | refine WO.ops (StepK.pickF rfl rfl) ?_ | refine WO.ops (StepK.not rfl) ?_ | refine WO.ops (StepK.eq rfl rfl rfl) ?_ | refine WO.ops (StepK.extract rfl rfl) ?_ | refine WO.ops (StepK.build rfl rfl) ?_ | refine WO.ops (StepK.mkFn rfl rfl) ?_ | refine WO.ops (StepK.field rfl rfl) ?_ | refine WO.ops (StepK.lenStr rfl) ?_ | refine WO.ops (StepK.min2 rfl rfl) ?_ | refine WO.ops (StepK.max2 rfl rfl) ?_ | refine WO.ops (StepK.load1 rfl (by first | with_reducible assumption | rfl)) ?_ | refine WO.run rfl ?_ | refine WO.skip rfl rfl ?_ | refine WO.skipu rfl ?_))
    refine WO.nil ⟨(mid + 1, hi), Cov.cons rfl (Cov.cons rfl (Cov.cons rfl (Cov.cons rfl (Cov.cons rfl (Cov.cons rfl (Cov.nil _)))))), ⟨g5.trans g6, g35.trans g6, by simp only; omega, l2, ?_, c2⟩, by simp only; omega⟩
    intro j s hj hs
    rcases Nat.lt_or_ge j mid with q | q
    · have := hmono j mid s r q hs hri; omega
    · have : j = mid := by simp only at hj; omega
      subst this; rw [hri] at hs; cases hs; omega
  · have hc2 := of_decide_eq_false hc2
    (repeat (first | refine WO.ops (StepK.mv rfl) ?_ | refine WO.ops (StepK.lenSl rfl (by first | with_reducible assumption | rfl)) ?_ | refine WO.ops (StepK.fieldAddr rfl) ?_ | refine WO.ops (StepK.add rfl rfl (by omega)) ?_ | refine WO.ops (StepK.sub rfl rfl (by omega)) ?_ | refine WO.ops (StepK.bin rfl rfl rfl) ?_ | refine WO.ops (StepK.pickT rfl rfl) ?_ | refine WO.ops (StepK.pickF rfl rfl) ?_ | refine WO.ops (StepK.not rfl) ?_ | refine WO.ops (StepK.eq rfl rfl rfl) ?_ | refine WO.ops (StepK.extract rfl rfl) ?_ | refine WO.ops (StepK.build rfl rfl) ?_ | refine WO.ops (StepK.mkFn rfl rfl) ?_ | refine WO.ops (StepK.field rfl rfl) ?_ | refine WO.ops (StepK.lenStr rfl) ?_ | refine WO.ops (StepK.min2 rfl rfl) ?_ | refine WO.ops (StepK.max2 rfl rfl) ?_ | refine WO.ops (StepK.load1 rfl (by first | with_reducible assumption | rfl)) ?_ | refine WO.run rfl ?_ | refine WO.skip rfl rfl ?_ | refine WO.skipu rfl ?_))
    refine WO.nil ⟨(lo, mid), Cov.cons rfl (Cov.cons rfl (Cov.cons rfl (Cov.cons rfl (Cov.cons rfl (Cov.cons rfl (Cov.nil _)))))), ⟨g5.trans g6, g35.trans g6, by simp only; omega, by simp only; omega, c1, ?_⟩, by simp only; omega⟩
    intro j s hj hs
    simp only at hj
    rcases Nat.lt_or_ge mid j with q | q
    · have := hmono mid j r s q hri hs; omega
    · have : j = mid := by omega
      subst this; rw [hri] at hs; cases hs; omega
end Abs
end Go.Proofs.Ytkdoemlhjhmfhaa
