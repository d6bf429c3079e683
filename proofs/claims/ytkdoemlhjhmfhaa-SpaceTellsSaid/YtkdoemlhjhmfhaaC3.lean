/- Layer 7: the lists that the laws make, and whether two are the same. -/
import Derived.Test.YtkdoemlhjhmfhaaC1
namespace Go.Proofs.Ytkdoemlhjhmfhaa
namespace Abs
set_option linter.unusedVariables false
set_option linter.unusedSimpArgs false
set_option maxHeartbeats 1600000
open Go.RowKit
attribute [local irreducible] WO WC WD StepK Ans Does Runs DoesD
variable {C : Cfg} (hS : ∀ f args h, f ≠ 8 → C.S f args h = none)

theorem eq_rn (a b : Int × Int) : eqA (.struct [(0, none, .flat .int), (1, none, .flat .int)]) (.agg (rn a)) (.agg (rn b)) = some (decide (a = b)) := by
  obtain ⟨a1, a2⟩ := a
  obtain ⟨b1, b2⟩ := b
  simp only [eqA, eqAs, aggOf, rn, List.getElem?_cons_zero, List.getElem?_cons_succ, flatEq, if_true]
  cases h1 : (a1 == b1) <;> cases h2 : (a2 == b2) <;> simp_all

include hS
theorem same_ans (hF : C.F 16 = some a16) (h : Heap) (hw : Wf h) (x y : V) (A B : List (Int × Int)) (hx : Sl h 2 x (A.map rn)) (hy : Sl h 2 y (B.map rn)) (hla : A.length < 4611686018427387904) (hlb : B.length < 4611686018427387904) : Ans C 16 [x, y] h fun v h' => v = .bool (decide (A = B)) ∧ Grow h h' := by
  unfold a16 at hF
  refine Ans.val (fun _ _ => hS _ _ _ (by decide)) hF rfl rfl hw fun h2 g => ?_
  clear hF
  have hsx : slLen x = some A.length := by rw [hx.len, List.length_map]
  have hsy : slLen y = some B.length := by rw [hy.len, List.length_map]
  refine WC.seqO ?_
  (repeat (first | refine WO.ops (StepK.mv rfl) ?_ | refine WO.ops (StepK.lenSl rfl (by first | with_reducible assumption | rfl)) ?_ | refine WO.ops (StepK.fieldAddr rfl) ?_ | refine WO.ops (StepK.add rfl rfl (by omega)) ?_ | refine WO.ops (StepK.sub rfl rfl (by omega)) ?_ | refine WO.ops (StepK.bin rfl rfl rfl) ?_ | refine WO.ops (StepK.pickT rfl rfl) ?_ | refine WO.ops (StepK.pickF rfl rfl) ?_ | refine WO.ops (StepK.not rfl) ?_ | refine WO.ops (StepK.eq rfl rfl rfl) ?_ | refine WO.ops (StepK.extract rfl rfl) ?_ | refine WO.ops (StepK.build rfl rfl) ?_ | refine WO.ops (StepK.mkFn rfl rfl) ?_ | refine WO.ops (StepK.field rfl rfl) ?_ | refine WO.ops (StepK.lenStr rfl) ?_ | refine WO.ops (StepK.min2 rfl rfl) ?_ | refine WO.ops (StepK.max2 rfl rfl) ?_ | refine WO.ops (StepK.load1 rfl (by first | with_reducible assumption | rfl)) ?_ | refine WO.run rfl ?_ | refine WO.skip rfl rfl ?_ | refine WO.skipu rfl ?_))
  refine WO.nil ?_
  refine WC.seq (WC.seqO ?_)
  refine WO.ops (StepK.mv rfl) ?_
  refine WO.ops (StepK.lenSl rfl hsx) ?_
  refine WO.ops (StepK.mv rfl) ?_
  refine WO.ops (StepK.lenSl rfl hsy) ?_
  (repeat (first | refine WO.ops (StepK.mv rfl) ?_ | refine WO.ops (StepK.lenSl rfl (by first | with_reducible assumption | rfl)) ?_ | refine WO.ops (StepK.fieldAddr rfl) ?_ | refine WO.ops (StepK.add rfl rfl (by omega)) ?_ | refine WO.ops (StepK.sub rfl rfl (by omega)) ?_ | refine WO.ops (StepK.bin rfl rfl rfl) ?_ | refine WO.ops (StepK.pickT rfl rfl) ?_ | refine WO.ops (StepK.pickF rfl rfl) ?_ | refine WO.ops (StepK.not rfl) ?_ | refine WO.ops (StepK.eq rfl rfl rfl) ?_ | refine WO.ops (StepK.extract rfl rfl) ?_ | refine WO.ops (StepK.build rfl rfl) ?_ | refine WO.ops (StepK.mkFn rfl rfl) ?_ | refine WO.ops (StepK.field rfl rfl) ?_ | refine WO.ops (StepK.lenStr rfl) ?_ | refine WO.ops (StepK.min2 rfl rfl) ?_ | refine WO.ops (StepK.max2 rfl rfl) ?_ | refine WO.ops (StepK.load1 rfl (by first | with_reducible assumption | rfl)) ?_ | refine WO.run rfl ?_ | refine WO.skip rfl rfl ?_ | refine WO.skipu rfl ?_))
  refine WO.nil (WC.cond rfl (fun hc => WC.seqO ?_) (fun hc => WC.skip ?_))
  · (repeat (first | refine WO.ops (StepK.mv rfl) ?_ | refine WO.ops (StepK.lenSl rfl (by first | with_reducible assumption | rfl)) ?_ | refine WO.ops (StepK.fieldAddr rfl) ?_ | refine WO.ops (StepK.add rfl rfl (by omega)) ?_ | refine WO.ops (StepK.sub rfl rfl (by omega)) ?_ | refine WO.ops (StepK.bin rfl rfl rfl) ?_ | refine WO.ops (StepK.pickT rfl rfl) ?_ | refine WO.ops (StepK.pickF rfl rfl) ?_ | refine WO.ops (StepK.not rfl) ?_ | refine WO.ops (StepK.eq rfl rfl rfl) ?_ | refine WO.ops (StepK.extract rfl rfl) ?_ | refine WO.ops (StepK.build rfl rfl) ?_ | refine WO.ops (StepK.mkFn rfl rfl) ?_ | refine WO.ops (StepK.field rfl rfl) ?_ | refine WO.ops (StepK.lenStr rfl) ?_ | refine WO.ops (StepK.min2 rfl rfl) ?_ | refine WO.ops (StepK.max2 rfl rfl) ?_ | refine WO.ops (StepK.load1 rfl (by first | with_reducible assumption | rfl)) ?_ | refine WO.run rfl ?_ | refine WO.skip rfl rfl ?_ | refine WO.skipu rfl ?_))
    refine WO.nil (WC.ret ⟨trivial, g, ?_⟩)
    have hne : A ≠ B := by intro e; subst e; simp at hc
    rw [show decide (A = B) = false from decide_eq_false hne]; rfl
  have hab : A.length = B.length := by simp at hc; omega
  refine WC.seq (WC.seqO ?_)
  (repeat (first | refine WO.ops (StepK.mv rfl) ?_ | refine WO.ops (StepK.lenSl rfl (by first | with_reducible assumption | rfl)) ?_ | refine WO.ops (StepK.fieldAddr rfl) ?_ | refine WO.ops (StepK.add rfl rfl (by omega)) ?_ | refine WO.ops (StepK.sub rfl rfl (by omega)) ?_ | refine WO.ops (StepK.bin rfl rfl rfl) ?_ | refine WO.ops (StepK.pickT rfl rfl) ?_ | refine WO.ops (StepK.pickF rfl rfl) ?_ | refine WO.ops (StepK.not rfl) ?_ | refine WO.ops (StepK.eq rfl rfl rfl) ?_ | refine WO.ops (StepK.extract rfl rfl) ?_ | refine WO.ops (StepK.build rfl rfl) ?_ | refine WO.ops (StepK.mkFn rfl rfl) ?_ | refine WO.ops (StepK.field rfl rfl) ?_ | refine WO.ops (StepK.lenStr rfl) ?_ | refine WO.ops (StepK.min2 rfl rfl) ?_ | refine WO.ops (StepK.max2 rfl rfl) ?_ | refine WO.ops (StepK.load1 rfl (by first | with_reducible assumption | rfl)) ?_ | refine WO.run rfl ?_ | refine WO.skip rfl rfl ?_ | refine WO.skipu rfl ?_))
  refine WO.nil (WC.block ?_)
  refine WC.loop (σ := Nat) (fun i => [(0, x), (1, y), (4, .bool false), (5, iv i)]) (fun i h' => Grow h h' ∧ i ≤ A.length ∧ A.take i = B.take i) (fun i => A.length - i) 0 ?_ ⟨g, by omega, rfl⟩ ?_
  · exact Cov.cons rfl (Cov.cons rfl (Cov.cons rfl (Cov.cons rfl (Cov.nil _))))
  rintro i h3 ⟨g3, hi, ht⟩
  refine WC.seq (WC.seqO ?_)
  refine WO.ops (StepK.mv rfl) ?_
  refine WO.ops (StepK.mv rfl) ?_
  refine WO.ops (StepK.lenSl rfl hsx) ?_
  (repeat (first | refine WO.ops (StepK.mv rfl) ?_ | refine WO.ops (StepK.lenSl rfl (by first | with_reducible assumption | rfl)) ?_ | refine WO.ops (StepK.fieldAddr rfl) ?_ | refine WO.ops (StepK.add rfl rfl (by omega)) ?_ | refine WO.ops (StepK.sub rfl rfl (by omega)) ?_ | refine WO.ops (StepK.bin rfl rfl rfl) ?_ | refine WO.ops (StepK.pickT rfl rfl) ?_ | refine WO.ops (StepK.pickF rfl rfl) ?_ | refine WO.ops (StepK.not rfl) ?_ | refine WO.ops (StepK.eq rfl rfl rfl) ?_ | refine WO.ops (StepK.extract rfl rfl) ?_ | refine WO.ops (StepK.build rfl rfl) ?_ | refine WO.ops (StepK.mkFn rfl rfl) ?_ | refine WO.ops (StepK.field rfl rfl) ?_ | refine WO.ops (StepK.lenStr rfl) ?_ | refine WO.ops (StepK.min2 rfl rfl) ?_ | refine WO.ops (StepK.max2 rfl rfl) ?_ | refine WO.ops (StepK.load1 rfl (by first | with_reducible assumption | rfl)) ?_ | refine WO.run rfl ?_ | refine WO.skip rfl rfl ?_ | refine WO.skipu rfl ?_))
  refine WO.nil ?_
  refine WC.cond rfl (fun hc => WC.skip ?_) (fun hc => WC.exit ?_)
  rotate_left
  · have hc := of_decide_eq_false hc
    have : i = A.length := by omega
    subst this
    refine WC.seqO ?_
    (repeat (first | refine WO.ops (StepK.mv rfl) ?_ | refine WO.ops (StepK.lenSl rfl (by first | with_reducible assumption | rfl)) ?_ | refine WO.ops (StepK.fieldAddr rfl) ?_ | refine WO.ops (StepK.add rfl rfl (by omega)) ?_ | refine WO.ops (StepK.sub rfl rfl (by omega)) ?_ | refine WO.ops (StepK.bin rfl rfl rfl) ?_ | refine WO.ops (StepK.pickT rfl rfl) ?_ | refine WO.ops (StepK.pickF rfl rfl) ?_ | refine WO.ops (StepK.not rfl) ?_ | refine WO.ops (StepK.eq rfl rfl rfl) ?_ | refine WO.ops (StepK.extract rfl rfl) ?_ | refine WO.ops (StepK.build rfl rfl) ?_ | refine WO.ops (StepK.mkFn rfl rfl) ?_ | refine WO.ops (StepK.field rfl rfl) ?_ | refine WO.ops (StepK.lenStr rfl) ?_ | refine WO.ops (StepK.min2 rfl rfl) ?_ | refine WO.ops (StepK.max2 rfl rfl) ?_ | refine WO.ops (StepK.load1 rfl (by first | with_reducible assumption | rfl)) ?_ | refine WO.run rfl ?_ | refine WO.skip rfl rfl ?_ | refine WO.skipu rfl ?_))
    refine WO.nil (WC.ret ⟨trivial, g3, ?_⟩)
    have hee : A = B := by rw [List.take_length, hab, List.take_length] at ht; exact ht
    rw [show decide (A = B) = true from decide_eq_true hee]; rfl
  have hc := of_decide_eq_true hc
  have hi : i < A.length := by omega
  have hi' : i < B.length := by omega
  obtain ⟨b, o, k1, k2⟩ := (hx.grow g3).at (i := i) (by rw [List.length_map]; exact hi)
  obtain ⟨b', o', k1', k2'⟩ := (hy.grow g3).at (i := i) (by rw [List.length_map]; exact hi')
  rw [List.getElem_map] at k2 k2'
  have hta : A.take (i + 1) = A.take i ++ [A[i]] := List.take_succ_eq_append_getElem hi
  have htb : B.take (i + 1) = B.take i ++ [B[i]] := List.take_succ_eq_append_getElem hi'
  have hra : A[i]? = some A[i] := List.getElem?_eq_getElem hi
  have hrb : B[i]? = some B[i] := List.getElem?_eq_getElem hi'
  generalize A[i] = r at *
  generalize B[i] = s at *
  have he := eq_rn r s
  refine WC.seq (WC.block (WC.seqD ?_))
  refine WD.pure (StepK.mv rfl) rfl ?_
  refine WD.pure (StepK.mv rfl) rfl ?_
  refine WD.pure (StepK.idxSl rfl rfl k1) rfl ?_
  refine WD.loadN rfl k2 ?_
  refine WD.pure (StepK.mv rfl) rfl ?_
  refine WD.pure (StepK.mv rfl) rfl ?_
  refine WD.pure (StepK.idxSl rfl rfl k1') rfl ?_
  refine WD.loadN rfl k2' ?_
  refine WD.pure (StepK.eq rfl rfl he) rfl ?_
  refine WD.nil ⟨k2', k2, trivial⟩ (WC.cond rfl (fun hc1 => WC.seqO ?_) (fun hc1 => WC.skip ?_))
  · have hne : r ≠ s := by simpa using hc1
    (repeat (first | refine WO.ops (StepK.mv rfl) ?_ | refine WO.ops (StepK.lenSl rfl (by first | with_reducible assumption | rfl)) ?_ | refine WO.ops (StepK.fieldAddr rfl) ?_ | refine WO.ops (StepK.add rfl rfl (by omega)) ?_ | refine WO.ops (StepK.sub rfl rfl (by omega)) ?_ | refine WO.ops (StepK.bin rfl rfl rfl) ?_ | refine WO.ops (StepK.pickT rfl rfl) ?_ | refine WO.ops (StepK.pickF rfl rfl) ?_ | refine WO.ops (StepK.not rfl) ?_ | refine WO.ops (StepK.eq rfl rfl rfl) ?_ | refine WO.ops (StepK.extract rfl rfl) ?_ | refine WO.ops (StepK.build rfl rfl) ?_ | refine WO.ops (StepK.mkFn rfl rfl) ?_ | refine WO.ops (StepK.field rfl rfl) ?_ | refine WO.ops (StepK.lenStr rfl) ?_ | refine WO.ops (StepK.min2 rfl rfl) ?_ | refine WO.ops (StepK.max2 rfl rfl) ?_ | refine WO.ops (StepK.load1 rfl (by first | with_reducible assumption | rfl)) ?_ | refine WO.run rfl ?_ | refine WO.skip rfl rfl ?_ | refine WO.skipu rfl ?_))
    refine WO.nil (WC.ret ⟨trivial, g3, ?_⟩)
    have hne2 : A ≠ B := by intro e; subst e; rw [hra] at hrb; cases hrb; exact hne rfl
    rw [show decide (A = B) = false from decide_eq_false hne2]; rfl
  have hee : r = s := by simpa using hc1
  refine WC.ops ?_
  (repeat (first | refine WO.ops (StepK.mv rfl) ?_ | refine WO.ops (StepK.lenSl rfl (by first | with_reducible assumption | rfl)) ?_ | refine WO.ops (StepK.fieldAddr rfl) ?_ | refine WO.ops (StepK.add rfl rfl (by omega)) ?_ | refine WO.ops (StepK.sub rfl rfl (by omega)) ?_ | refine WO.ops (StepK.bin rfl rfl rfl) ?_ | refine WO.ops (StepK.pickT rfl rfl) ?_ | refine WO.ops (StepK.pickF rfl rfl) ?_ | refine WO.ops (StepK.not rfl) ?_ | refine WO.ops (StepK.eq rfl rfl rfl) ?_ | refine WO.ops (StepK.extract rfl rfl) ?_ | refine WO.ops (StepK.build rfl rfl) ?_ | refine WO.ops (StepK.mkFn rfl rfl) ?_ | refine WO.ops (StepK.field rfl rfl) ?_ | refine WO.ops (StepK.lenStr rfl) ?_ | refine WO.ops (StepK.min2 rfl rfl) ?_ | refine WO.ops (StepK.max2 rfl rfl) ?_ | refine WO.ops (StepK.load1 rfl (by first | with_reducible assumption | rfl)) ?_ | refine WO.run rfl ?_ | refine WO.skip rfl rfl ?_ | refine WO.skipu rfl ?_))
  refine WO.nil ⟨i + 1, ?_, ⟨g3, hi, by rw [hta, htb, ht, hee]⟩, by omega⟩
  exact Cov.cons rfl (Cov.cons rfl (Cov.cons rfl (Cov.cons rfl (Cov.nil _))))

/-- A list made anew, item by item. -/
theorem own_ans {f : Nat} (hf8 : f ≠ 8) (hF : C.F f = some a9) (h : Heap) (hw : Wf h) (x : V) (R : List (Int × Int)) (hx : Sl h 2 x (R.map rn)) (hl : R.length ≤ 1000) : Ans C f [x] h fun v h' => Grown h' h.size 2 v (R.map rn) ∧ Grow h h' := by
  unfold a9 at hF
  refine Ans.fn (fun _ _ => hS _ _ _ hf8) hF rfl rfl hw fun h2 g => ?_
  clear hF
  have hsx : slLen x = some R.length := by rw [hx.len, List.length_map]
  refine WC.seqO ?_
  (repeat (first | refine WO.ops (StepK.mv rfl) ?_ | refine WO.ops (StepK.lenSl rfl (by first | with_reducible assumption | rfl)) ?_ | refine WO.ops (StepK.fieldAddr rfl) ?_ | refine WO.ops (StepK.add rfl rfl (by omega)) ?_ | refine WO.ops (StepK.sub rfl rfl (by omega)) ?_ | refine WO.ops (StepK.bin rfl rfl rfl) ?_ | refine WO.ops (StepK.pickT rfl rfl) ?_ | refine WO.ops (StepK.pickF rfl rfl) ?_ | refine WO.ops (StepK.not rfl) ?_ | refine WO.ops (StepK.eq rfl rfl rfl) ?_ | refine WO.ops (StepK.extract rfl rfl) ?_ | refine WO.ops (StepK.build rfl rfl) ?_ | refine WO.ops (StepK.mkFn rfl rfl) ?_ | refine WO.ops (StepK.field rfl rfl) ?_ | refine WO.ops (StepK.lenStr rfl) ?_ | refine WO.ops (StepK.min2 rfl rfl) ?_ | refine WO.ops (StepK.max2 rfl rfl) ?_ | refine WO.ops (StepK.load1 rfl (by first | with_reducible assumption | rfl)) ?_ | refine WO.run rfl ?_ | refine WO.skip rfl rfl ?_ | refine WO.skipu rfl ?_))
  refine WO.nil (WC.seqO ?_)
  (repeat (first | refine WO.ops (StepK.mv rfl) ?_ | refine WO.ops (StepK.lenSl rfl (by first | with_reducible assumption | rfl)) ?_ | refine WO.ops (StepK.fieldAddr rfl) ?_ | refine WO.ops (StepK.add rfl rfl (by omega)) ?_ | refine WO.ops (StepK.sub rfl rfl (by omega)) ?_ | refine WO.ops (StepK.bin rfl rfl rfl) ?_ | refine WO.ops (StepK.pickT rfl rfl) ?_ | refine WO.ops (StepK.pickF rfl rfl) ?_ | refine WO.ops (StepK.not rfl) ?_ | refine WO.ops (StepK.eq rfl rfl rfl) ?_ | refine WO.ops (StepK.extract rfl rfl) ?_ | refine WO.ops (StepK.build rfl rfl) ?_ | refine WO.ops (StepK.mkFn rfl rfl) ?_ | refine WO.ops (StepK.field rfl rfl) ?_ | refine WO.ops (StepK.lenStr rfl) ?_ | refine WO.ops (StepK.min2 rfl rfl) ?_ | refine WO.ops (StepK.max2 rfl rfl) ?_ | refine WO.ops (StepK.load1 rfl (by first | with_reducible assumption | rfl)) ?_ | refine WO.run rfl ?_ | refine WO.skip rfl rfl ?_ | refine WO.skipu rfl ?_))
  refine WO.nil (WC.seq (WC.seqO ?_))
  (repeat (first | refine WO.ops (StepK.mv rfl) ?_ | refine WO.ops (StepK.lenSl rfl (by first | with_reducible assumption | rfl)) ?_ | refine WO.ops (StepK.fieldAddr rfl) ?_ | refine WO.ops (StepK.add rfl rfl (by omega)) ?_ | refine WO.ops (StepK.sub rfl rfl (by omega)) ?_ | refine WO.ops (StepK.bin rfl rfl rfl) ?_ | refine WO.ops (StepK.pickT rfl rfl) ?_ | refine WO.ops (StepK.pickF rfl rfl) ?_ | refine WO.ops (StepK.not rfl) ?_ | refine WO.ops (StepK.eq rfl rfl rfl) ?_ | refine WO.ops (StepK.extract rfl rfl) ?_ | refine WO.ops (StepK.build rfl rfl) ?_ | refine WO.ops (StepK.mkFn rfl rfl) ?_ | refine WO.ops (StepK.field rfl rfl) ?_ | refine WO.ops (StepK.lenStr rfl) ?_ | refine WO.ops (StepK.min2 rfl rfl) ?_ | refine WO.ops (StepK.max2 rfl rfl) ?_ | refine WO.ops (StepK.load1 rfl (by first | with_reducible assumption | rfl)) ?_ | refine WO.run rfl ?_ | refine WO.skip rfl rfl ?_ | refine WO.skipu rfl ?_))
  refine WO.nil (WC.block ?_)
  refine WC.loop (σ := Nat × V) (fun s => [(0, x), (3, s.2), (4, iv s.1)]) (fun s h' => Grow h h' ∧ s.1 ≤ R.length ∧ Grown h' h.size 2 s.2 ((R.take s.1).map rn)) (fun s => R.length - s.1) (0, .slice none 0 0) ?_ ⟨g, by omega, by simpa using Grown.nil _ _ _⟩ ?_
  · exact Cov.cons rfl (Cov.cons rfl (Cov.cons rfl (Cov.nil _)))
  rintro ⟨i, u⟩ h3 ⟨g3, hi, hg⟩
  simp only at hi hg
  refine WC.seq (WC.seqO ?_)
  refine WO.ops (StepK.mv rfl) ?_
  refine WO.ops (StepK.mv rfl) ?_
  refine WO.ops (StepK.lenSl rfl hsx) ?_
  (repeat (first | refine WO.ops (StepK.mv rfl) ?_ | refine WO.ops (StepK.lenSl rfl (by first | with_reducible assumption | rfl)) ?_ | refine WO.ops (StepK.fieldAddr rfl) ?_ | refine WO.ops (StepK.add rfl rfl (by omega)) ?_ | refine WO.ops (StepK.sub rfl rfl (by omega)) ?_ | refine WO.ops (StepK.bin rfl rfl rfl) ?_ | refine WO.ops (StepK.pickT rfl rfl) ?_ | refine WO.ops (StepK.pickF rfl rfl) ?_ | refine WO.ops (StepK.not rfl) ?_ | refine WO.ops (StepK.eq rfl rfl rfl) ?_ | refine WO.ops (StepK.extract rfl rfl) ?_ | refine WO.ops (StepK.build rfl rfl) ?_ | refine WO.ops (StepK.mkFn rfl rfl) ?_ | refine WO.ops (StepK.field rfl rfl) ?_ | refine WO.ops (StepK.lenStr rfl) ?_ | refine WO.ops (StepK.min2 rfl rfl) ?_ | refine WO.ops (StepK.max2 rfl rfl) ?_ | refine WO.ops (StepK.load1 rfl (by first | with_reducible assumption | rfl)) ?_ | refine WO.run rfl ?_ | refine WO.skip rfl rfl ?_ | refine WO.skipu rfl ?_))
  refine WO.nil ?_
  refine WC.cond rfl (fun hc => WC.skip ?_) (fun hc => WC.exit ?_)
  rotate_left
  · have hc := of_decide_eq_false hc
    have : i = R.length := by omega
    subst this
    rw [List.take_length] at hg
    refine WC.seqO ?_
    (repeat (first | refine WO.ops (StepK.mv rfl) ?_ | refine WO.ops (StepK.lenSl rfl (by first | with_reducible assumption | rfl)) ?_ | refine WO.ops (StepK.fieldAddr rfl) ?_ | refine WO.ops (StepK.add rfl rfl (by omega)) ?_ | refine WO.ops (StepK.sub rfl rfl (by omega)) ?_ | refine WO.ops (StepK.bin rfl rfl rfl) ?_ | refine WO.ops (StepK.pickT rfl rfl) ?_ | refine WO.ops (StepK.pickF rfl rfl) ?_ | refine WO.ops (StepK.not rfl) ?_ | refine WO.ops (StepK.eq rfl rfl rfl) ?_ | refine WO.ops (StepK.extract rfl rfl) ?_ | refine WO.ops (StepK.build rfl rfl) ?_ | refine WO.ops (StepK.mkFn rfl rfl) ?_ | refine WO.ops (StepK.field rfl rfl) ?_ | refine WO.ops (StepK.lenStr rfl) ?_ | refine WO.ops (StepK.min2 rfl rfl) ?_ | refine WO.ops (StepK.max2 rfl rfl) ?_ | refine WO.ops (StepK.load1 rfl (by first | with_reducible assumption | rfl)) ?_ | refine WO.run rfl ?_ | refine WO.skip rfl rfl ?_ | refine WO.skipu rfl ?_))
    refine WO.nil (WC.ret ⟨trivial, g3.wf, u, rfl, fun h5 g5 => ⟨hg.grow g5, g3.trans g5⟩, fun hs => ⟨hg.scopd hs h, Grow.refl hw⟩⟩)
  have hc := of_decide_eq_true hc
  have hi : i < R.length := by omega
  obtain ⟨b, o, k1, k2⟩ := (hx.grow g3).at (i := i) (by rw [List.length_map]; exact hi)
  rw [List.getElem_map] at k2
  have hta : R.take (i + 1) = R.take i ++ [R[i]] := List.take_succ_eq_append_getElem hi
  generalize R[i] = r at *
  obtain ⟨a, n⟩ := r
  have r0 : h3.rd b (o + 0) = some (iv a) := rds_rd k2 rfl
  have r1 : h3.rd b (o + 1) = some (iv n) := rds_rd k2 rfl
  refine WC.seq (WC.block (WC.draw ?_))
  refine WD.pure (StepK.mv rfl) rfl ?_
  refine WD.pure (StepK.mv rfl) rfl ?_
  refine WD.pure (StepK.mv rfl) rfl ?_
  refine WD.pure (StepK.idxSl rfl rfl k1) rfl ?_
  (repeat (first | refine WD.pure (StepK.mv rfl) rfl ?_ | refine WD.pure (StepK.lenSl rfl (by first | with_reducible assumption | rfl)) rfl ?_ | refine WD.pure (StepK.fieldAddr rfl) rfl ?_ | refine WD.pure (StepK.add rfl rfl (by omega)) rfl ?_ | refine WD.pure (StepK.sub rfl rfl (by omega)) rfl ?_ | refine WD.pure (StepK.bin rfl rfl rfl) rfl ?_ | refine WD.pure (StepK.pickT rfl rfl) rfl ?_ | refine WD.pure (StepK.pickF rfl rfl) rfl ?_ | refine WD.pure (StepK.not rfl) rfl ?_ | refine WD.pure (StepK.eq rfl rfl rfl) rfl ?_ | refine WD.pure (StepK.extract rfl rfl) rfl ?_ | refine WD.pure (StepK.build rfl rfl) rfl ?_ | refine WD.pure (StepK.mkFn rfl rfl) rfl ?_ | refine WD.pure (StepK.field rfl rfl) rfl ?_ | refine WD.pure (StepK.lenStr rfl) rfl ?_ | refine WD.pure (StepK.min2 rfl rfl) rfl ?_ | refine WD.pure (StepK.max2 rfl rfl) rfl ?_ | refine WD.load1 rfl (by first | with_reducible assumption | rfl) ?_ | refine WD.run rfl ?_ | refine WD.skipn rfl rfl rfl ?_ | refine WD.skipun rfl rfl ?_))
  refine WD.pure (StepK.idxSl rfl rfl k1) rfl ?_
  (repeat (first | refine WD.pure (StepK.mv rfl) rfl ?_ | refine WD.pure (StepK.lenSl rfl (by first | with_reducible assumption | rfl)) rfl ?_ | refine WD.pure (StepK.fieldAddr rfl) rfl ?_ | refine WD.pure (StepK.add rfl rfl (by omega)) rfl ?_ | refine WD.pure (StepK.sub rfl rfl (by omega)) rfl ?_ | refine WD.pure (StepK.bin rfl rfl rfl) rfl ?_ | refine WD.pure (StepK.pickT rfl rfl) rfl ?_ | refine WD.pure (StepK.pickF rfl rfl) rfl ?_ | refine WD.pure (StepK.not rfl) rfl ?_ | refine WD.pure (StepK.eq rfl rfl rfl) rfl ?_ | refine WD.pure (StepK.extract rfl rfl) rfl ?_ | refine WD.pure (StepK.build rfl rfl) rfl ?_ | refine WD.pure (StepK.mkFn rfl rfl) rfl ?_ | refine WD.pure (StepK.field rfl rfl) rfl ?_ | refine WD.pure (StepK.lenStr rfl) rfl ?_ | refine WD.pure (StepK.min2 rfl rfl) rfl ?_ | refine WD.pure (StepK.max2 rfl rfl) rfl ?_ | refine WD.load1 rfl (by first | with_reducible assumption | rfl) ?_ | refine WD.run rfl ?_ | refine WD.skipn rfl rfl rfl ?_ | refine WD.skipun rfl rfl ?_))
  refine WD.alloc rfl (StepK.buildSl (cs := rn (a, n)) rfl rfl) ?_
  have hnew : Sl (h3.push (.cells (rn (a, n)) (.tip [] 0))) 2 (.slice (some (h3.size, 0)) 1 1) [rn (a, n)] :=
    ⟨by simp, rfl, Nat.le_refl _, fun _ => rds_all (st := .tip [] 0) (by rw [get_push, if_pos rfl]; rfl) rfl⟩
  have gp : Grow h3 (h3.push (.cells (rn (a, n)) (.tip [] 0))) := (Grow.refl g3.wf).push _
  obtain ⟨v, h4, p1, p2, p3⟩ := (hg.grow gp).append hw (g3.trans gp) hnew (sz := 2) (bytes := 16) (by decide) (by decide) (by
    have : ((R.take i).map rn).length = i := by rw [List.length_map, List.length_take]; omega
    simp only [this, roomy, List.length_singleton, decide_eq_true_eq]; omega) (by intro c hc v hv; simp at hc; subst hc; simp at hv; rcases hv with e | e <;> subst e <;> rfl)
  refine WD.opC ?_ rfl (StepK.append rfl rfl p1) ?_
  · exact ⟨get_push_self _ _, gp.rd r1, gp.rd r0, trivial⟩
  refine WD.pure (StepK.mv rfl) rfl ?_
  refine WD.nil ?_ (WC.ops ?_)
  · exact trivial
  (repeat (first | refine WO.ops (StepK.mv rfl) ?_ | refine WO.ops (StepK.lenSl rfl (by first | with_reducible assumption | rfl)) ?_ | refine WO.ops (StepK.fieldAddr rfl) ?_ | refine WO.ops (StepK.add rfl rfl (by omega)) ?_ | refine WO.ops (StepK.sub rfl rfl (by omega)) ?_ | refine WO.ops (StepK.bin rfl rfl rfl) ?_ | refine WO.ops (StepK.pickT rfl rfl) ?_ | refine WO.ops (StepK.pickF rfl rfl) ?_ | refine WO.ops (StepK.not rfl) ?_ | refine WO.ops (StepK.eq rfl rfl rfl) ?_ | refine WO.ops (StepK.extract rfl rfl) ?_ | refine WO.ops (StepK.build rfl rfl) ?_ | refine WO.ops (StepK.mkFn rfl rfl) ?_ | refine WO.ops (StepK.field rfl rfl) ?_ | refine WO.ops (StepK.lenStr rfl) ?_ | refine WO.ops (StepK.min2 rfl rfl) ?_ | refine WO.ops (StepK.max2 rfl rfl) ?_ | refine WO.ops (StepK.load1 rfl (by first | with_reducible assumption | rfl)) ?_ | refine WO.run rfl ?_ | refine WO.skip rfl rfl ?_ | refine WO.skipu rfl ?_))
  refine WO.nil ⟨(i + 1, v), ?_, ⟨p3, hi, ?_⟩, by simp only; omega⟩
  · exact Cov.cons rfl (Cov.cons rfl (Cov.cons rfl (Cov.nil _)))
  · simp only [hta, List.map_append]; exact p2
end Abs
end Go.Proofs.Ytkdoemlhjhmfhaa
