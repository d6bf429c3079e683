/- Layer 11: the document's functions on lists; New; Same. -/
import Derived.Test.YtnbljblnikdeiaaD6
namespace Go.Proofs.Ytnbljblnikdeiaa
namespace Abs
set_option linter.unusedVariables false
set_option linter.unusedSimpArgs false
set_option maxHeartbeats 1600000
open Go.RowKit
theorem WD.mono {C : Cfg} {q : Nat} {l : List DOp} {P : List (Nat × (Heap → Prop))} {e : List (Nat × V)} {h : Heap} {Q Q' : List (Nat × V) → Heap → Prop} (hx : WD C q l P e h Q) (hq : ∀ e h, Q e h → Q' e h) : WD C q l P e h Q' := fun tm hs =>
  let ⟨n, tr, t, h', q1, q2, q3, e1, q4, q5⟩ := hx tm hs; ⟨n, tr, t, h', q1, q2, q3, e1, q4, hq _ _ q5⟩
attribute [local irreducible] WO WC WD StepK Ans Does Runs DoesD
theorem WC.seqDCut {C : Cfg} {l : List DOp} {b : AC} {e : List (Nat × V)} {h : Heap} {Q : Ex → List (Nat × V) → Heap → Prop} {M : List (Nat × V) → Heap → Prop}
    (hx : WD C 0 l [] e h M) (hm : ∀ e' h', M e' h' → WC C b e' h' Q) : WC C (.seq (.draw l) b) e h Q := WC.seqD (hx.mono hm)

/-- A list without a key. -/
def wo (l : List (List Nat)) (k : List Nat) : List (List Nat) := l.filter fun a => !decide (a = k)
theorem wo_len (l : List (List Nat)) (k : List Nat) : (wo l k).length ≤ l.length := List.length_filter_le _ _

variable {C : Cfg} (S : Std C)
include S

theorem in_ans (h : Heap) (hw : Wf h) (x : V) (ks : List (List Nat)) (k : List Nat) (hs : Sl h 1 x (ki ks)) (hlen : ks.length < 4611686018427387904) : Ans C 21 [x, .str k] h fun v h' => v = .bool (decide (k ∈ ks)) ∧ Grow h h' := by
  have hF : C.F 21 = some a21 := S.f rfl
  unfold a21 at hF
  refine Ans.val (fun _ _ => S.s _ _ _ (by decide)) hF rfl rfl hw fun h2 g0 => ?_
  clear hF
  have hsl : slLen x = some ks.length := by rw [hs.len, List.length_map, List.length_map]
  refine WC.seqO ?_
  (repeat (first | refine WO.ops (StepK.mv rfl) ?_ | refine WO.ops (StepK.lenSl rfl (by first | with_reducible assumption | rfl)) ?_ | refine WO.ops (StepK.fieldAddr rfl) ?_ | refine WO.ops (StepK.add rfl rfl (by omega)) ?_ | refine WO.ops (StepK.sub rfl rfl (by omega)) ?_ | refine WO.ops (StepK.bin rfl rfl rfl) ?_ | refine WO.ops (StepK.pickT rfl rfl) ?_ | refine WO.ops (StepK.pickF rfl rfl) ?_ | refine WO.ops (StepK.not rfl) ?_ | refine WO.ops (StepK.eq rfl rfl rfl) ?_ | refine WO.ops (StepK.extract rfl rfl) ?_ | refine WO.ops (StepK.build rfl rfl) ?_ | refine WO.ops (StepK.mkFn rfl rfl) ?_ | refine WO.ops (StepK.field rfl rfl) ?_ | refine WO.ops (StepK.lenStr rfl) ?_ | refine WO.ops (StepK.nilck rfl) ?_ | refine WO.ops (StepK.min2 rfl rfl) ?_ | refine WO.ops (StepK.max2 rfl rfl) ?_ | refine WO.ops (StepK.load1 rfl (by first | with_reducible assumption | rfl)) ?_ | refine WO.run rfl ?_ | refine WO.skip rfl rfl ?_ | refine WO.skipu rfl ?_))
  refine WO.nil (WC.seq (WC.seqO ?_))
  (repeat (first | refine WO.ops (StepK.mv rfl) ?_ | refine WO.ops (StepK.lenSl rfl (by first | with_reducible assumption | rfl)) ?_ | refine WO.ops (StepK.fieldAddr rfl) ?_ | refine WO.ops (StepK.add rfl rfl (by omega)) ?_ | refine WO.ops (StepK.sub rfl rfl (by omega)) ?_ | refine WO.ops (StepK.bin rfl rfl rfl) ?_ | refine WO.ops (StepK.pickT rfl rfl) ?_ | refine WO.ops (StepK.pickF rfl rfl) ?_ | refine WO.ops (StepK.not rfl) ?_ | refine WO.ops (StepK.eq rfl rfl rfl) ?_ | refine WO.ops (StepK.extract rfl rfl) ?_ | refine WO.ops (StepK.build rfl rfl) ?_ | refine WO.ops (StepK.mkFn rfl rfl) ?_ | refine WO.ops (StepK.field rfl rfl) ?_ | refine WO.ops (StepK.lenStr rfl) ?_ | refine WO.ops (StepK.nilck rfl) ?_ | refine WO.ops (StepK.min2 rfl rfl) ?_ | refine WO.ops (StepK.max2 rfl rfl) ?_ | refine WO.ops (StepK.load1 rfl (by first | with_reducible assumption | rfl)) ?_ | refine WO.run rfl ?_ | refine WO.skip rfl rfl ?_ | refine WO.skipu rfl ?_))
  refine WO.nil (WC.block ?_)
  refine WC.loop (σ := Nat) (fun i => [(0, x), (1, .str k), (5, iv i)])
    (fun i h' => Grow h h' ∧ i ≤ ks.length ∧ (k ∈ ks ↔ k ∈ ks.drop i)) (fun i => ks.length - i) 0 ?_ ⟨g0, by omega, by simp⟩ ?_
  · exact Cov.cons rfl (Cov.cons rfl (Cov.cons rfl (Cov.nil _)))
  rintro i h3 ⟨g3, hi, hm⟩
  refine WC.seq (WC.seqO ?_)
  (repeat (first | refine WO.ops (StepK.mv rfl) ?_ | refine WO.ops (StepK.lenSl rfl (by first | with_reducible assumption | rfl)) ?_ | refine WO.ops (StepK.fieldAddr rfl) ?_ | refine WO.ops (StepK.add rfl rfl (by omega)) ?_ | refine WO.ops (StepK.sub rfl rfl (by omega)) ?_ | refine WO.ops (StepK.bin rfl rfl rfl) ?_ | refine WO.ops (StepK.pickT rfl rfl) ?_ | refine WO.ops (StepK.pickF rfl rfl) ?_ | refine WO.ops (StepK.not rfl) ?_ | refine WO.ops (StepK.eq rfl rfl rfl) ?_ | refine WO.ops (StepK.extract rfl rfl) ?_ | refine WO.ops (StepK.build rfl rfl) ?_ | refine WO.ops (StepK.mkFn rfl rfl) ?_ | refine WO.ops (StepK.field rfl rfl) ?_ | refine WO.ops (StepK.lenStr rfl) ?_ | refine WO.ops (StepK.nilck rfl) ?_ | refine WO.ops (StepK.min2 rfl rfl) ?_ | refine WO.ops (StepK.max2 rfl rfl) ?_ | refine WO.ops (StepK.load1 rfl (by first | with_reducible assumption | rfl)) ?_ | refine WO.run rfl ?_ | refine WO.skip rfl rfl ?_ | refine WO.skipu rfl ?_))
  refine WO.nil (WC.cond rfl (fun hc => WC.skip ?_) (fun hc => WC.exit (WC.seqO ?_)))
  rotate_left
  · have hc := of_decide_eq_false hc
    have : i = ks.length := by omega
    subst this
    rw [List.drop_length] at hm
    have hn : decide (k ∈ ks) = false := decide_eq_false (by rw [hm]; simp)
    (repeat (first | refine WO.ops (StepK.mv rfl) ?_ | refine WO.ops (StepK.lenSl rfl (by first | with_reducible assumption | rfl)) ?_ | refine WO.ops (StepK.fieldAddr rfl) ?_ | refine WO.ops (StepK.add rfl rfl (by omega)) ?_ | refine WO.ops (StepK.sub rfl rfl (by omega)) ?_ | refine WO.ops (StepK.bin rfl rfl rfl) ?_ | refine WO.ops (StepK.pickT rfl rfl) ?_ | refine WO.ops (StepK.pickF rfl rfl) ?_ | refine WO.ops (StepK.not rfl) ?_ | refine WO.ops (StepK.eq rfl rfl rfl) ?_ | refine WO.ops (StepK.extract rfl rfl) ?_ | refine WO.ops (StepK.build rfl rfl) ?_ | refine WO.ops (StepK.mkFn rfl rfl) ?_ | refine WO.ops (StepK.field rfl rfl) ?_ | refine WO.ops (StepK.lenStr rfl) ?_ | refine WO.ops (StepK.nilck rfl) ?_ | refine WO.ops (StepK.min2 rfl rfl) ?_ | refine WO.ops (StepK.max2 rfl rfl) ?_ | refine WO.ops (StepK.load1 rfl (by first | with_reducible assumption | rfl)) ?_ | refine WO.run rfl ?_ | refine WO.skip rfl rfl ?_ | refine WO.skipu rfl ?_))
    rw [hn]
    exact WO.nil (WC.ret ⟨trivial, g3, rfl⟩)
  have hc := of_decide_eq_true hc
  have hi : i < ks.length := by omega
  obtain ⟨b, o, k1, k2⟩ := (hs.grow g3).at (i := i) (by rw [List.length_map, List.length_map]; exact hi)
  rw [List.getElem_map, List.getElem_map] at k2
  have hd : ks.drop i = ks[i] :: ks.drop (i + 1) := List.drop_eq_getElem_cons hi
  rw [hd] at hm
  generalize ks[i] = r at *
  have q0 : h3.rd b o = some (.str r) := rds_rd k2 (j := 0) rfl
  refine WC.seq (WC.block (WC.seqO ?_))
  refine WO.ops (StepK.mv rfl) ?_
  refine WO.ops (StepK.mv rfl) ?_
  refine WO.ops (StepK.idxSl rfl rfl k1) ?_
  refine WO.ops (StepK.load1 rfl q0) ?_
  refine WO.ops (StepK.mv rfl) ?_
  refine WO.ops (StepK.bin (v := .bool (beqL r k)) rfl rfl rfl) ?_
  refine WO.nil (WC.cond rfl (fun hc1 => WC.seqO ?_) (fun hc1 => WC.skip (WC.ops ?_)))
  · have hy : decide (k ∈ ks) = true := decide_eq_true (by rw [hm, (beqL_iff _ _).1 hc1]; simp)
    (repeat (first | refine WO.ops (StepK.mv rfl) ?_ | refine WO.ops (StepK.lenSl rfl (by first | with_reducible assumption | rfl)) ?_ | refine WO.ops (StepK.fieldAddr rfl) ?_ | refine WO.ops (StepK.add rfl rfl (by omega)) ?_ | refine WO.ops (StepK.sub rfl rfl (by omega)) ?_ | refine WO.ops (StepK.bin rfl rfl rfl) ?_ | refine WO.ops (StepK.pickT rfl rfl) ?_ | refine WO.ops (StepK.pickF rfl rfl) ?_ | refine WO.ops (StepK.not rfl) ?_ | refine WO.ops (StepK.eq rfl rfl rfl) ?_ | refine WO.ops (StepK.extract rfl rfl) ?_ | refine WO.ops (StepK.build rfl rfl) ?_ | refine WO.ops (StepK.mkFn rfl rfl) ?_ | refine WO.ops (StepK.field rfl rfl) ?_ | refine WO.ops (StepK.lenStr rfl) ?_ | refine WO.ops (StepK.nilck rfl) ?_ | refine WO.ops (StepK.min2 rfl rfl) ?_ | refine WO.ops (StepK.max2 rfl rfl) ?_ | refine WO.ops (StepK.load1 rfl (by first | with_reducible assumption | rfl)) ?_ | refine WO.run rfl ?_ | refine WO.skip rfl rfl ?_ | refine WO.skipu rfl ?_))
    rw [hy]
    exact WO.nil (WC.ret ⟨trivial, g3, rfl⟩)
  (repeat (first | refine WO.ops (StepK.mv rfl) ?_ | refine WO.ops (StepK.lenSl rfl (by first | with_reducible assumption | rfl)) ?_ | refine WO.ops (StepK.fieldAddr rfl) ?_ | refine WO.ops (StepK.add rfl rfl (by omega)) ?_ | refine WO.ops (StepK.sub rfl rfl (by omega)) ?_ | refine WO.ops (StepK.bin rfl rfl rfl) ?_ | refine WO.ops (StepK.pickT rfl rfl) ?_ | refine WO.ops (StepK.pickF rfl rfl) ?_ | refine WO.ops (StepK.not rfl) ?_ | refine WO.ops (StepK.eq rfl rfl rfl) ?_ | refine WO.ops (StepK.extract rfl rfl) ?_ | refine WO.ops (StepK.build rfl rfl) ?_ | refine WO.ops (StepK.mkFn rfl rfl) ?_ | refine WO.ops (StepK.field rfl rfl) ?_ | refine WO.ops (StepK.lenStr rfl) ?_ | refine WO.ops (StepK.nilck rfl) ?_ | refine WO.ops (StepK.min2 rfl rfl) ?_ | refine WO.ops (StepK.max2 rfl rfl) ?_ | refine WO.ops (StepK.load1 rfl (by first | with_reducible assumption | rfl)) ?_ | refine WO.run rfl ?_ | refine WO.skip rfl rfl ?_ | refine WO.skipu rfl ?_))
  refine WO.nil ⟨i + 1, ?_, ⟨g3, hi, ?_⟩, by omega⟩
  · exact Cov.cons rfl (Cov.cons rfl (Cov.cons rfl (Cov.nil _)))
  · have hne : k ≠ r := by intro e; rw [(beqL_iff _ _).2 e.symm] at hc1; cases hc1
    rw [hm]; simp [hne]

theorem same_ans (h : Heap) (hw : Wf h) (x y : V) (A B : List (List Nat)) (hx : Sl h 1 x (ki A)) (hy : Sl h 1 y (ki B)) (hla : A.length < 4611686018427387904) (hlb : B.length < 4611686018427387904) : Ans C 22 [x, y] h fun v h' => v = .bool (decide (A = B)) ∧ Grow h h' := by
  have hF : C.F 22 = some a22 := S.f rfl
  unfold a22 at hF
  refine Ans.val (fun _ _ => S.s _ _ _ (by decide)) hF rfl rfl hw fun h2 g0 => ?_
  clear hF
  have hsx : slLen x = some A.length := by rw [hx.len, List.length_map, List.length_map]
  have hsy : slLen y = some B.length := by rw [hy.len, List.length_map, List.length_map]
  have hne : binA .neq (iv A.length) (iv B.length) = some (.bool (decide (A.length ≠ B.length))) := by
    simp only [binA, if_true]
    congr 2
    rw [Bool.eq_iff_iff]
    simp
    omega
  refine WC.seqO ?_
  (repeat (first | refine WO.ops (StepK.mv rfl) ?_ | refine WO.ops (StepK.lenSl rfl (by first | with_reducible assumption | rfl)) ?_ | refine WO.ops (StepK.fieldAddr rfl) ?_ | refine WO.ops (StepK.add rfl rfl (by omega)) ?_ | refine WO.ops (StepK.sub rfl rfl (by omega)) ?_ | refine WO.ops (StepK.bin rfl rfl rfl) ?_ | refine WO.ops (StepK.pickT rfl rfl) ?_ | refine WO.ops (StepK.pickF rfl rfl) ?_ | refine WO.ops (StepK.not rfl) ?_ | refine WO.ops (StepK.eq rfl rfl rfl) ?_ | refine WO.ops (StepK.extract rfl rfl) ?_ | refine WO.ops (StepK.build rfl rfl) ?_ | refine WO.ops (StepK.mkFn rfl rfl) ?_ | refine WO.ops (StepK.field rfl rfl) ?_ | refine WO.ops (StepK.lenStr rfl) ?_ | refine WO.ops (StepK.nilck rfl) ?_ | refine WO.ops (StepK.min2 rfl rfl) ?_ | refine WO.ops (StepK.max2 rfl rfl) ?_ | refine WO.ops (StepK.load1 rfl (by first | with_reducible assumption | rfl)) ?_ | refine WO.run rfl ?_ | refine WO.skip rfl rfl ?_ | refine WO.skipu rfl ?_))
  refine WO.nil (WC.seq (WC.seqO ?_))
  refine WO.ops (StepK.mv rfl) ?_
  refine WO.ops (StepK.lenSl rfl hsx) ?_
  refine WO.ops (StepK.mv rfl) ?_
  refine WO.ops (StepK.lenSl rfl hsy) ?_
  refine WO.ops (StepK.bin rfl rfl hne) ?_
  refine WO.nil (WC.cond rfl (fun hc => WC.seqO ?_) (fun hc => WC.skip (WC.seq (WC.seqO ?_))))
  · have hc := of_decide_eq_true hc
    have hn : decide (A = B) = false := decide_eq_false (by intro e; exact hc (by rw [e]))
    (repeat (first | refine WO.ops (StepK.mv rfl) ?_ | refine WO.ops (StepK.lenSl rfl (by first | with_reducible assumption | rfl)) ?_ | refine WO.ops (StepK.fieldAddr rfl) ?_ | refine WO.ops (StepK.add rfl rfl (by omega)) ?_ | refine WO.ops (StepK.sub rfl rfl (by omega)) ?_ | refine WO.ops (StepK.bin rfl rfl rfl) ?_ | refine WO.ops (StepK.pickT rfl rfl) ?_ | refine WO.ops (StepK.pickF rfl rfl) ?_ | refine WO.ops (StepK.not rfl) ?_ | refine WO.ops (StepK.eq rfl rfl rfl) ?_ | refine WO.ops (StepK.extract rfl rfl) ?_ | refine WO.ops (StepK.build rfl rfl) ?_ | refine WO.ops (StepK.mkFn rfl rfl) ?_ | refine WO.ops (StepK.field rfl rfl) ?_ | refine WO.ops (StepK.lenStr rfl) ?_ | refine WO.ops (StepK.nilck rfl) ?_ | refine WO.ops (StepK.min2 rfl rfl) ?_ | refine WO.ops (StepK.max2 rfl rfl) ?_ | refine WO.ops (StepK.load1 rfl (by first | with_reducible assumption | rfl)) ?_ | refine WO.run rfl ?_ | refine WO.skip rfl rfl ?_ | refine WO.skipu rfl ?_))
    rw [hn]
    exact WO.nil (WC.ret ⟨trivial, g0, rfl⟩)
  have hl : A.length = B.length := by simpa using hc
  (repeat (first | refine WO.ops (StepK.mv rfl) ?_ | refine WO.ops (StepK.lenSl rfl (by first | with_reducible assumption | rfl)) ?_ | refine WO.ops (StepK.fieldAddr rfl) ?_ | refine WO.ops (StepK.add rfl rfl (by omega)) ?_ | refine WO.ops (StepK.sub rfl rfl (by omega)) ?_ | refine WO.ops (StepK.bin rfl rfl rfl) ?_ | refine WO.ops (StepK.pickT rfl rfl) ?_ | refine WO.ops (StepK.pickF rfl rfl) ?_ | refine WO.ops (StepK.not rfl) ?_ | refine WO.ops (StepK.eq rfl rfl rfl) ?_ | refine WO.ops (StepK.extract rfl rfl) ?_ | refine WO.ops (StepK.build rfl rfl) ?_ | refine WO.ops (StepK.mkFn rfl rfl) ?_ | refine WO.ops (StepK.field rfl rfl) ?_ | refine WO.ops (StepK.lenStr rfl) ?_ | refine WO.ops (StepK.nilck rfl) ?_ | refine WO.ops (StepK.min2 rfl rfl) ?_ | refine WO.ops (StepK.max2 rfl rfl) ?_ | refine WO.ops (StepK.load1 rfl (by first | with_reducible assumption | rfl)) ?_ | refine WO.run rfl ?_ | refine WO.skip rfl rfl ?_ | refine WO.skipu rfl ?_))
  refine WO.nil (WC.block ?_)
  refine WC.loop (σ := Nat) (fun i => [(0, x), (1, y), (5, iv i)])
    (fun i h' => Grow h h' ∧ i ≤ A.length ∧ (A = B ↔ A.drop i = B.drop i)) (fun i => A.length - i) 0 ?_ ⟨g0, by omega, by simp⟩ ?_
  · exact Cov.cons rfl (Cov.cons rfl (Cov.cons rfl (Cov.nil _)))
  rintro i h3 ⟨g3, hi, hm⟩
  refine WC.seq (WC.seqO ?_)
  refine WO.ops (StepK.mv rfl) ?_
  refine WO.ops (StepK.mv rfl) ?_
  refine WO.ops (StepK.lenSl rfl hsx) ?_
  (repeat (first | refine WO.ops (StepK.mv rfl) ?_ | refine WO.ops (StepK.lenSl rfl (by first | with_reducible assumption | rfl)) ?_ | refine WO.ops (StepK.fieldAddr rfl) ?_ | refine WO.ops (StepK.add rfl rfl (by omega)) ?_ | refine WO.ops (StepK.sub rfl rfl (by omega)) ?_ | refine WO.ops (StepK.bin rfl rfl rfl) ?_ | refine WO.ops (StepK.pickT rfl rfl) ?_ | refine WO.ops (StepK.pickF rfl rfl) ?_ | refine WO.ops (StepK.not rfl) ?_ | refine WO.ops (StepK.eq rfl rfl rfl) ?_ | refine WO.ops (StepK.extract rfl rfl) ?_ | refine WO.ops (StepK.build rfl rfl) ?_ | refine WO.ops (StepK.mkFn rfl rfl) ?_ | refine WO.ops (StepK.field rfl rfl) ?_ | refine WO.ops (StepK.lenStr rfl) ?_ | refine WO.ops (StepK.nilck rfl) ?_ | refine WO.ops (StepK.min2 rfl rfl) ?_ | refine WO.ops (StepK.max2 rfl rfl) ?_ | refine WO.ops (StepK.load1 rfl (by first | with_reducible assumption | rfl)) ?_ | refine WO.run rfl ?_ | refine WO.skip rfl rfl ?_ | refine WO.skipu rfl ?_))
  refine WO.nil (WC.cond rfl (fun hc => WC.skip ?_) (fun hc => WC.exit (WC.seqO ?_)))
  rotate_left
  · have hc := of_decide_eq_false hc
    have : i = A.length := by omega
    subst this
    have hy : decide (A = B) = true := decide_eq_true (by rw [hm, List.drop_length, hl, List.drop_length])
    (repeat (first | refine WO.ops (StepK.mv rfl) ?_ | refine WO.ops (StepK.lenSl rfl (by first | with_reducible assumption | rfl)) ?_ | refine WO.ops (StepK.fieldAddr rfl) ?_ | refine WO.ops (StepK.add rfl rfl (by omega)) ?_ | refine WO.ops (StepK.sub rfl rfl (by omega)) ?_ | refine WO.ops (StepK.bin rfl rfl rfl) ?_ | refine WO.ops (StepK.pickT rfl rfl) ?_ | refine WO.ops (StepK.pickF rfl rfl) ?_ | refine WO.ops (StepK.not rfl) ?_ | refine WO.ops (StepK.eq rfl rfl rfl) ?_ | refine WO.ops (StepK.extract rfl rfl) ?_ | refine WO.ops (StepK.build rfl rfl) ?_ | refine WO.ops (StepK.mkFn rfl rfl) ?_ | refine WO.ops (StepK.field rfl rfl) ?_ | refine WO.ops (StepK.lenStr rfl) ?_ | refine WO.ops (StepK.nilck rfl) ?_ | refine WO.ops (StepK.min2 rfl rfl) ?_ | refine WO.ops (StepK.max2 rfl rfl) ?_ | refine WO.ops (StepK.load1 rfl (by first | with_reducible assumption | rfl)) ?_ | refine WO.run rfl ?_ | refine WO.skip rfl rfl ?_ | refine WO.skipu rfl ?_))
    rw [hy]
    exact WO.nil (WC.ret ⟨trivial, g3, rfl⟩)
  have hc := of_decide_eq_true hc
  have hi : i < A.length := by omega
  have hib : i < B.length := by omega
  obtain ⟨b, o, k1, k2⟩ := (hx.grow g3).at (i := i) (by rw [List.length_map, List.length_map]; exact hi)
  obtain ⟨b', o', k3, k4⟩ := (hy.grow g3).at (i := i) (by rw [List.length_map, List.length_map]; exact hib)
  rw [List.getElem_map, List.getElem_map] at k2 k4
  rw [List.drop_eq_getElem_cons hi, List.drop_eq_getElem_cons hib] at hm
  generalize A[i] = r at *
  generalize B[i] = t at *
  have q0 : h3.rd b o = some (.str r) := rds_rd k2 (j := 0) rfl
  have q1 : h3.rd b' o' = some (.str t) := rds_rd k4 (j := 0) rfl
  refine WC.seq (WC.block (WC.seqD ?_))
  refine WD.pure (StepK.mv rfl) rfl ?_
  refine WD.pure (StepK.mv rfl) rfl ?_
  refine WD.pure (StepK.idxSl rfl rfl k1) rfl ?_
  refine WD.load1 rfl q0 ?_
  refine WD.pure (StepK.mv rfl) rfl ?_
  refine WD.pure (StepK.mv rfl) rfl ?_
  refine WD.pure (StepK.idxSl rfl rfl k3) rfl ?_
  refine WD.load1 rfl q1 ?_
  refine WD.pure (StepK.bin (v := .bool (!beqL r t)) rfl rfl rfl) rfl ?_
  refine WD.nil ⟨q1, q0, trivial⟩ (WC.cond rfl (fun hc1 => WC.seqO ?_) (fun hc1 => WC.skip (WC.ops ?_)))
  · have hne : r ≠ t := by intro e; rw [(beqL_iff _ _).2 e] at hc1; cases hc1
    have hn : decide (A = B) = false := decide_eq_false (by rw [hm]; intro e; exact hne (List.cons.inj e).1)
    (repeat (first | refine WO.ops (StepK.mv rfl) ?_ | refine WO.ops (StepK.lenSl rfl (by first | with_reducible assumption | rfl)) ?_ | refine WO.ops (StepK.fieldAddr rfl) ?_ | refine WO.ops (StepK.add rfl rfl (by omega)) ?_ | refine WO.ops (StepK.sub rfl rfl (by omega)) ?_ | refine WO.ops (StepK.bin rfl rfl rfl) ?_ | refine WO.ops (StepK.pickT rfl rfl) ?_ | refine WO.ops (StepK.pickF rfl rfl) ?_ | refine WO.ops (StepK.not rfl) ?_ | refine WO.ops (StepK.eq rfl rfl rfl) ?_ | refine WO.ops (StepK.extract rfl rfl) ?_ | refine WO.ops (StepK.build rfl rfl) ?_ | refine WO.ops (StepK.mkFn rfl rfl) ?_ | refine WO.ops (StepK.field rfl rfl) ?_ | refine WO.ops (StepK.lenStr rfl) ?_ | refine WO.ops (StepK.nilck rfl) ?_ | refine WO.ops (StepK.min2 rfl rfl) ?_ | refine WO.ops (StepK.max2 rfl rfl) ?_ | refine WO.ops (StepK.load1 rfl (by first | with_reducible assumption | rfl)) ?_ | refine WO.run rfl ?_ | refine WO.skip rfl rfl ?_ | refine WO.skipu rfl ?_))
    rw [hn]
    exact WO.nil (WC.ret ⟨trivial, g3, rfl⟩)
  have he : r = t := (beqL_iff _ _).1 (by simpa using hc1)
  (repeat (first | refine WO.ops (StepK.mv rfl) ?_ | refine WO.ops (StepK.lenSl rfl (by first | with_reducible assumption | rfl)) ?_ | refine WO.ops (StepK.fieldAddr rfl) ?_ | refine WO.ops (StepK.add rfl rfl (by omega)) ?_ | refine WO.ops (StepK.sub rfl rfl (by omega)) ?_ | refine WO.ops (StepK.bin rfl rfl rfl) ?_ | refine WO.ops (StepK.pickT rfl rfl) ?_ | refine WO.ops (StepK.pickF rfl rfl) ?_ | refine WO.ops (StepK.not rfl) ?_ | refine WO.ops (StepK.eq rfl rfl rfl) ?_ | refine WO.ops (StepK.extract rfl rfl) ?_ | refine WO.ops (StepK.build rfl rfl) ?_ | refine WO.ops (StepK.mkFn rfl rfl) ?_ | refine WO.ops (StepK.field rfl rfl) ?_ | refine WO.ops (StepK.lenStr rfl) ?_ | refine WO.ops (StepK.nilck rfl) ?_ | refine WO.ops (StepK.min2 rfl rfl) ?_ | refine WO.ops (StepK.max2 rfl rfl) ?_ | refine WO.ops (StepK.load1 rfl (by first | with_reducible assumption | rfl)) ?_ | refine WO.run rfl ?_ | refine WO.skip rfl rfl ?_ | refine WO.skipu rfl ?_))
  refine WO.nil ⟨i + 1, ?_, ⟨g3, hi, ?_⟩, by omega⟩
  · exact Cov.cons rfl (Cov.cons rfl (Cov.cons rfl (Cov.nil _)))
  · rw [hm, he]; simp

/-- A list that a call has made: its blocks are new. -/
def Made (h h' : Heap) (v : V) (ks : List (List Nat)) : Prop := ∃ F, KL h' v (sv ks) F ∧ Grow h h' ∧ Comes h [] F
omit S in
theorem Made.old {h h' : Heap} (hw : Wf h) {v : V} {ks : List (List Nat)} (m : Made h h' v ks) (hs : v.scopd h.size = true) : Made h h v ks := by
  obtain ⟨F, k, g, c⟩ := m
  rcases k with ⟨rfl, q, rfl⟩ | ⟨b, T, j, rfl, rfl, h1, h2, h3, h4⟩
  · exact ⟨[], .inl ⟨rfl, q, rfl⟩, Grow.refl hw, by intro b hb; cases hb⟩
  · have := (c b List.mem_cons_self).resolve_left (by simp)
    simp [V.scopd] at hs; omega
omit S in
theorem Made.up {h h' h2 : Heap} {v : V} {ks : List (List Nat)} (m : Made h h' v ks) (g : Grow h' h2) : Made h h2 v ks := by
  obtain ⟨F, k, g0, c⟩ := m
  exact ⟨F, k.grow g, g0.trans g, c⟩
omit S in
/-- One key more behind a list that the call made. -/
theorem Made.push {h h' : Heap} (hw : Wf h) {v : V} {ks : List (List Nat)} (m : Made h h' v ks) (k : List Nat) (hl : ks.length ≤ 200000) : ∃ v' h2, appendA (h'.push (.cells [.str k] (.tip [] 0))) 1 16 v (.slice (some (h'.size, 0)) 1 1) = some (v', h2) ∧ Made h h2 v' (ks ++ [k]) := by
  obtain ⟨F, kl, g, c⟩ := m
  have gp : Grow h' (h'.push (.cells [.str k] (.tip [] 0))) := (Grow.refl g.wf).push _
  have hnew : Sl (h'.push (.cells [.str k] (.tip [] 0))) 1 (.slice (some (h'.size, 0)) 1 1) [[.str k]] :=
    ⟨by simp, rfl, Nat.le_refl _, fun _ => rds_all (st := .tip [] 0) (by rw [get_push_self]; rfl) rfl⟩
  obtain ⟨x', h4, F', p1, p2, p3, p4⟩ := (kl.grow gp).append (bytes := 16) gp.wf (.str k) rfl hnew (by decide) (by simp only [List.length_map, roomy, decide_eq_true_eq]; omega)
  refine ⟨x', h4, p1, F', by simpa [sv] using p2, ?_, c.trans p4 (g.trans gp).size⟩
  exact (((g.trans gp).chg []).trans p3 hw c).grow

theorem without_ans (h : Heap) (hw : Wf h) (x : V) (ks : List (List Nat)) (k : List Nat) (hs : Sl h 1 x (ki ks)) (hlen : ks.length ≤ 100000) : Ans C 29 [x, .str k] h fun v h' => ∃ F, KL h' v (sv (wo ks k)) F ∧ Grow h h' ∧ Comes h [] F := by
  have hF : C.F 29 = some a29 := S.f rfl
  unfold a29 at hF
  refine Ans.fn (fun _ _ => S.s _ _ _ (by decide)) hF rfl rfl hw fun h2 g0 => ?_
  clear hF
  have hsl : slLen x = some ks.length := by rw [hs.len, List.length_map, List.length_map]
  refine WC.seqO ?_
  (repeat (first | refine WO.ops (StepK.mv rfl) ?_ | refine WO.ops (StepK.lenSl rfl (by first | with_reducible assumption | rfl)) ?_ | refine WO.ops (StepK.fieldAddr rfl) ?_ | refine WO.ops (StepK.add rfl rfl (by omega)) ?_ | refine WO.ops (StepK.sub rfl rfl (by omega)) ?_ | refine WO.ops (StepK.bin rfl rfl rfl) ?_ | refine WO.ops (StepK.pickT rfl rfl) ?_ | refine WO.ops (StepK.pickF rfl rfl) ?_ | refine WO.ops (StepK.not rfl) ?_ | refine WO.ops (StepK.eq rfl rfl rfl) ?_ | refine WO.ops (StepK.extract rfl rfl) ?_ | refine WO.ops (StepK.build rfl rfl) ?_ | refine WO.ops (StepK.mkFn rfl rfl) ?_ | refine WO.ops (StepK.field rfl rfl) ?_ | refine WO.ops (StepK.lenStr rfl) ?_ | refine WO.ops (StepK.nilck rfl) ?_ | refine WO.ops (StepK.min2 rfl rfl) ?_ | refine WO.ops (StepK.max2 rfl rfl) ?_ | refine WO.ops (StepK.load1 rfl (by first | with_reducible assumption | rfl)) ?_ | refine WO.run rfl ?_ | refine WO.skip rfl rfl ?_ | refine WO.skipu rfl ?_))
  refine WO.nil (WC.seqO ?_)
  (repeat (first | refine WO.ops (StepK.mv rfl) ?_ | refine WO.ops (StepK.lenSl rfl (by first | with_reducible assumption | rfl)) ?_ | refine WO.ops (StepK.fieldAddr rfl) ?_ | refine WO.ops (StepK.add rfl rfl (by omega)) ?_ | refine WO.ops (StepK.sub rfl rfl (by omega)) ?_ | refine WO.ops (StepK.bin rfl rfl rfl) ?_ | refine WO.ops (StepK.pickT rfl rfl) ?_ | refine WO.ops (StepK.pickF rfl rfl) ?_ | refine WO.ops (StepK.not rfl) ?_ | refine WO.ops (StepK.eq rfl rfl rfl) ?_ | refine WO.ops (StepK.extract rfl rfl) ?_ | refine WO.ops (StepK.build rfl rfl) ?_ | refine WO.ops (StepK.mkFn rfl rfl) ?_ | refine WO.ops (StepK.field rfl rfl) ?_ | refine WO.ops (StepK.lenStr rfl) ?_ | refine WO.ops (StepK.nilck rfl) ?_ | refine WO.ops (StepK.min2 rfl rfl) ?_ | refine WO.ops (StepK.max2 rfl rfl) ?_ | refine WO.ops (StepK.load1 rfl (by first | with_reducible assumption | rfl)) ?_ | refine WO.run rfl ?_ | refine WO.skip rfl rfl ?_ | refine WO.skipu rfl ?_))
  refine WO.nil (WC.seq (WC.seqO ?_))
  (repeat (first | refine WO.ops (StepK.mv rfl) ?_ | refine WO.ops (StepK.lenSl rfl (by first | with_reducible assumption | rfl)) ?_ | refine WO.ops (StepK.fieldAddr rfl) ?_ | refine WO.ops (StepK.add rfl rfl (by omega)) ?_ | refine WO.ops (StepK.sub rfl rfl (by omega)) ?_ | refine WO.ops (StepK.bin rfl rfl rfl) ?_ | refine WO.ops (StepK.pickT rfl rfl) ?_ | refine WO.ops (StepK.pickF rfl rfl) ?_ | refine WO.ops (StepK.not rfl) ?_ | refine WO.ops (StepK.eq rfl rfl rfl) ?_ | refine WO.ops (StepK.extract rfl rfl) ?_ | refine WO.ops (StepK.build rfl rfl) ?_ | refine WO.ops (StepK.mkFn rfl rfl) ?_ | refine WO.ops (StepK.field rfl rfl) ?_ | refine WO.ops (StepK.lenStr rfl) ?_ | refine WO.ops (StepK.nilck rfl) ?_ | refine WO.ops (StepK.min2 rfl rfl) ?_ | refine WO.ops (StepK.max2 rfl rfl) ?_ | refine WO.ops (StepK.load1 rfl (by first | with_reducible assumption | rfl)) ?_ | refine WO.run rfl ?_ | refine WO.skip rfl rfl ?_ | refine WO.skipu rfl ?_))
  refine WO.nil (WC.block ?_)
  refine WC.loop (σ := Nat × V × List (List Nat)) (fun s => [(0, x), (1, .str k), (5, s.2.1), (6, iv s.1)])
    (fun s h' => Made h h' s.2.1 s.2.2 ∧ s.1 ≤ ks.length ∧ s.2.2.length ≤ s.1 ∧ wo ks k = s.2.2 ++ wo (ks.drop s.1) k) (fun s => ks.length - s.1) (0, .slice none 0 0, []) ?_ ⟨⟨[], KL.nil _, g0, by intro b hb; cases hb⟩, by omega, by simp, by simp⟩ ?_
  · exact Cov.cons rfl (Cov.cons rfl (Cov.cons rfl (Cov.cons rfl (Cov.nil _))))
  rintro ⟨i, u, A⟩ h3 ⟨m3, hi, hal, hm⟩
  simp only at m3 hi hal hm
  have g3 : Grow h h3 := by obtain ⟨F, _, g, _⟩ := m3; exact g
  refine WC.seq (WC.seqO ?_)
  (repeat (first | refine WO.ops (StepK.mv rfl) ?_ | refine WO.ops (StepK.lenSl rfl (by first | with_reducible assumption | rfl)) ?_ | refine WO.ops (StepK.fieldAddr rfl) ?_ | refine WO.ops (StepK.add rfl rfl (by omega)) ?_ | refine WO.ops (StepK.sub rfl rfl (by omega)) ?_ | refine WO.ops (StepK.bin rfl rfl rfl) ?_ | refine WO.ops (StepK.pickT rfl rfl) ?_ | refine WO.ops (StepK.pickF rfl rfl) ?_ | refine WO.ops (StepK.not rfl) ?_ | refine WO.ops (StepK.eq rfl rfl rfl) ?_ | refine WO.ops (StepK.extract rfl rfl) ?_ | refine WO.ops (StepK.build rfl rfl) ?_ | refine WO.ops (StepK.mkFn rfl rfl) ?_ | refine WO.ops (StepK.field rfl rfl) ?_ | refine WO.ops (StepK.lenStr rfl) ?_ | refine WO.ops (StepK.nilck rfl) ?_ | refine WO.ops (StepK.min2 rfl rfl) ?_ | refine WO.ops (StepK.max2 rfl rfl) ?_ | refine WO.ops (StepK.load1 rfl (by first | with_reducible assumption | rfl)) ?_ | refine WO.run rfl ?_ | refine WO.skip rfl rfl ?_ | refine WO.skipu rfl ?_))
  refine WO.nil (WC.cond rfl (fun hc => WC.skip ?_) (fun hc => WC.exit (WC.seqO ?_)))
  rotate_left
  · have hc := of_decide_eq_false hc
    have : i = ks.length := by omega
    subst this
    have he : wo ks k = A := by rw [hm, List.drop_length]; simp [wo]
    (repeat (first | refine WO.ops (StepK.mv rfl) ?_ | refine WO.ops (StepK.lenSl rfl (by first | with_reducible assumption | rfl)) ?_ | refine WO.ops (StepK.fieldAddr rfl) ?_ | refine WO.ops (StepK.add rfl rfl (by omega)) ?_ | refine WO.ops (StepK.sub rfl rfl (by omega)) ?_ | refine WO.ops (StepK.bin rfl rfl rfl) ?_ | refine WO.ops (StepK.pickT rfl rfl) ?_ | refine WO.ops (StepK.pickF rfl rfl) ?_ | refine WO.ops (StepK.not rfl) ?_ | refine WO.ops (StepK.eq rfl rfl rfl) ?_ | refine WO.ops (StepK.extract rfl rfl) ?_ | refine WO.ops (StepK.build rfl rfl) ?_ | refine WO.ops (StepK.mkFn rfl rfl) ?_ | refine WO.ops (StepK.field rfl rfl) ?_ | refine WO.ops (StepK.lenStr rfl) ?_ | refine WO.ops (StepK.nilck rfl) ?_ | refine WO.ops (StepK.min2 rfl rfl) ?_ | refine WO.ops (StepK.max2 rfl rfl) ?_ | refine WO.ops (StepK.load1 rfl (by first | with_reducible assumption | rfl)) ?_ | refine WO.run rfl ?_ | refine WO.skip rfl rfl ?_ | refine WO.skipu rfl ?_))
    rw [he]
    exact WO.nil (WC.ret ⟨trivial, g3.wf, u, rfl, fun h4 g4 => m3.up g4, fun hsc => m3.old hw hsc⟩)
  have hc := of_decide_eq_true hc
  have hi : i < ks.length := by omega
  obtain ⟨b, o, k1, k2⟩ := (hs.grow g3).at (i := i) (by rw [List.length_map, List.length_map]; exact hi)
  rw [List.getElem_map, List.getElem_map] at k2
  rw [List.drop_eq_getElem_cons hi] at hm
  generalize ks[i] = r at *
  have q0 : h3.rd b o = some (.str r) := rds_rd k2 (j := 0) rfl
  refine WC.seq (WC.block (WC.seqO ?_))
  refine WO.ops (StepK.mv rfl) ?_
  refine WO.ops (StepK.mv rfl) ?_
  refine WO.ops (StepK.idxSl rfl rfl k1) ?_
  refine WO.ops (StepK.load1 rfl q0) ?_
  refine WO.ops (StepK.mv rfl) ?_
  refine WO.ops (StepK.bin (v := .bool (!beqL r k)) rfl rfl rfl) ?_
  have inc : ∀ (e : List (Nat × V)) (h7 : Heap) (u' : V) (A' : List (List Nat)), Cov [(0, x), (1, .str k), (5, u'), (6, iv i)] e → Made h h7 u' A' → A'.length ≤ i + 1 → wo ks k = A' ++ wo (ks.drop (i + 1)) k → ∀ (Q : Ex → List (Nat × V) → Heap → Prop), (∀ e', Cov [(0, x), (1, .str k), (5, u'), (6, iv ((i + 1 : Nat) : Int))] e' → Q .normal e' h7) → WC C (.ops [⟨(some 11), none, .mv (.t 6)⟩, ⟨(some 12), none, .bin .add (.t 11) (.c (.int .i64 (1)))⟩, ⟨(some 6), none, .mv (.t 12)⟩]) e h7 Q := by
    intro e h7 u' A' hcv m7 hl hq Q hQ
    refine WC.cov hcv (WC.ops ?_)
    (repeat (first | refine WO.ops (StepK.mv rfl) ?_ | refine WO.ops (StepK.lenSl rfl (by first | with_reducible assumption | rfl)) ?_ | refine WO.ops (StepK.fieldAddr rfl) ?_ | refine WO.ops (StepK.add rfl rfl (by omega)) ?_ | refine WO.ops (StepK.sub rfl rfl (by omega)) ?_ | refine WO.ops (StepK.bin rfl rfl rfl) ?_ | refine WO.ops (StepK.pickT rfl rfl) ?_ | refine WO.ops (StepK.pickF rfl rfl) ?_ | refine WO.ops (StepK.not rfl) ?_ | refine WO.ops (StepK.eq rfl rfl rfl) ?_ | refine WO.ops (StepK.extract rfl rfl) ?_ | refine WO.ops (StepK.build rfl rfl) ?_ | refine WO.ops (StepK.mkFn rfl rfl) ?_ | refine WO.ops (StepK.field rfl rfl) ?_ | refine WO.ops (StepK.lenStr rfl) ?_ | refine WO.ops (StepK.nilck rfl) ?_ | refine WO.ops (StepK.min2 rfl rfl) ?_ | refine WO.ops (StepK.max2 rfl rfl) ?_ | refine WO.ops (StepK.load1 rfl (by first | with_reducible assumption | rfl)) ?_ | refine WO.run rfl ?_ | refine WO.skip rfl rfl ?_ | refine WO.skipu rfl ?_))
    exact WO.nil (hQ _ (Cov.cons rfl (Cov.cons rfl (Cov.cons rfl (Cov.cons rfl (Cov.nil _))))))
  refine WO.nil (WC.cond rfl (fun hc1 => WC.ops ?_) (fun hc1 => WC.skip ?_))
  · have hne : r ≠ k := by intro e; rw [(beqL_iff _ _).2 e] at hc1; cases hc1
    obtain ⟨v', h5, p1, p2⟩ := m3.push hw r (by omega)
    refine WO.ops (StepK.mv rfl) ?_
    refine WO.ops (StepK.mv rfl) ?_
    refine WO.ops (StepK.mv rfl) ?_
    refine WO.ops (StepK.idxSl rfl rfl k1) ?_
    refine WO.ops (StepK.load1 rfl q0) ?_
    refine WO.ops (StepK.buildSl (cs := [.str r]) rfl rfl) ?_
    refine WO.ops (StepK.append rfl rfl p1) ?_
    refine WO.ops (StepK.mv rfl) (WO.nil ?_)
    have hm' : wo ks k = (A ++ [r]) ++ wo (ks.drop (i + 1)) k := by rw [hm]; simp [wo, hne]
    have hl' : (A ++ [r]).length ≤ i + 1 := by simp; omega
    exact inc _ h5 v' (A ++ [r]) (Cov.cons rfl (Cov.cons rfl (Cov.cons rfl (Cov.cons rfl (Cov.nil _))))) p2 hl' hm' _ fun e' cv => ⟨(i + 1, v', A ++ [r]), cv, ⟨p2, hi, hl', hm'⟩, by simp only; omega⟩
  · have he : r = k := (beqL_iff _ _).1 (by simpa using hc1)
    have hm' : wo ks k = A ++ wo (ks.drop (i + 1)) k := by rw [hm]; simp [wo, he]
    exact inc _ h3 u A (Cov.cons rfl (Cov.cons rfl (Cov.cons rfl (Cov.cons rfl (Cov.nil _))))) m3 (by omega) hm' _ fun e' cv => ⟨(i + 1, u, A), cv, ⟨m3, hi, by simp only; omega, hm'⟩, by simp only; omega⟩

theorem with_ans (h : Heap) (hw : Wf h) (x : V) (ks : List (List Nat)) (k : List Nat) (hs : Sl h 1 x (ki ks)) (hlen : ks.length ≤ 100000) : Ans C 27 [x, .str k] h fun v h' => ∃ F, KL h' v (sv (ks ++ [k])) F ∧ Grow h h' ∧ Comes h [] F := by
  have hF : C.F 27 = some a27 := S.f rfl
  unfold a27 at hF
  refine Ans.fn (fun _ _ => S.s _ _ _ (by decide)) hF rfl rfl hw fun h2 g0 => ?_
  clear hF
  have hs2 := hs.grow g0
  have ha : ∃ v1 h3, appendA h2 1 16 (.slice none 0 0) x = some (v1, h3) ∧ Made h h3 v1 ks := by
    have hl := hs2.len
    have hcell := hs2.cells
    rw [List.length_map, List.length_map] at hl hcell
    rw [flat_one] at hcell
    simp only [appendA, hl, hcell]
    rw [if_pos ⟨by decide, by decide, by simp, List.all_eq_true.2 sv_one⟩]
    simp only [appendCore]
    by_cases hz : ks.length = 0
    · rw [if_pos hz]
      have : ks = [] := List.length_eq_zero_iff.1 hz
      subst this
      exact ⟨_, _, rfl, [], KL.nil _, g0, by intro b hb; cases hb⟩
    · rw [if_neg hz, if_pos (by simp only [roomy, decide_eq_true_eq]; omega)]
      have gp : Grow h2 (h2.push (.cells (sv ks) (.tip [] 0))) := (Grow.refl g0.wf).push _
      refine ⟨_, _, rfl, [h2.size], .inr ⟨h2.size, [], [], by simp, rfl, by rw [get_push_self, List.append_nil], by simp; omega, by simp, ?_⟩, g0.trans gp, ?_⟩
      · intro b hb; simp at hb; subst hb; exact Nat.lt_succ_self _
      · intro b hb; simp at hb; subst hb; exact .inr g0.size
  obtain ⟨v1, h3, p1, m3⟩ := ha
  obtain ⟨v2, h4, p2, m4⟩ := m3.push hw k (by omega)
  have g4 : Grow h h4 := by obtain ⟨F, _, g, _⟩ := m4; exact g
  refine WC.seqO ?_
  (repeat (first | refine WO.ops (StepK.mv rfl) ?_ | refine WO.ops (StepK.lenSl rfl (by first | with_reducible assumption | rfl)) ?_ | refine WO.ops (StepK.fieldAddr rfl) ?_ | refine WO.ops (StepK.add rfl rfl (by omega)) ?_ | refine WO.ops (StepK.sub rfl rfl (by omega)) ?_ | refine WO.ops (StepK.bin rfl rfl rfl) ?_ | refine WO.ops (StepK.pickT rfl rfl) ?_ | refine WO.ops (StepK.pickF rfl rfl) ?_ | refine WO.ops (StepK.not rfl) ?_ | refine WO.ops (StepK.eq rfl rfl rfl) ?_ | refine WO.ops (StepK.extract rfl rfl) ?_ | refine WO.ops (StepK.build rfl rfl) ?_ | refine WO.ops (StepK.mkFn rfl rfl) ?_ | refine WO.ops (StepK.field rfl rfl) ?_ | refine WO.ops (StepK.lenStr rfl) ?_ | refine WO.ops (StepK.nilck rfl) ?_ | refine WO.ops (StepK.min2 rfl rfl) ?_ | refine WO.ops (StepK.max2 rfl rfl) ?_ | refine WO.ops (StepK.load1 rfl (by first | with_reducible assumption | rfl)) ?_ | refine WO.run rfl ?_ | refine WO.skip rfl rfl ?_ | refine WO.skipu rfl ?_))
  refine WO.nil (WC.seqO ?_)
  (repeat (first | refine WO.ops (StepK.mv rfl) ?_ | refine WO.ops (StepK.lenSl rfl (by first | with_reducible assumption | rfl)) ?_ | refine WO.ops (StepK.fieldAddr rfl) ?_ | refine WO.ops (StepK.add rfl rfl (by omega)) ?_ | refine WO.ops (StepK.sub rfl rfl (by omega)) ?_ | refine WO.ops (StepK.bin rfl rfl rfl) ?_ | refine WO.ops (StepK.pickT rfl rfl) ?_ | refine WO.ops (StepK.pickF rfl rfl) ?_ | refine WO.ops (StepK.not rfl) ?_ | refine WO.ops (StepK.eq rfl rfl rfl) ?_ | refine WO.ops (StepK.extract rfl rfl) ?_ | refine WO.ops (StepK.build rfl rfl) ?_ | refine WO.ops (StepK.mkFn rfl rfl) ?_ | refine WO.ops (StepK.field rfl rfl) ?_ | refine WO.ops (StepK.lenStr rfl) ?_ | refine WO.ops (StepK.nilck rfl) ?_ | refine WO.ops (StepK.min2 rfl rfl) ?_ | refine WO.ops (StepK.max2 rfl rfl) ?_ | refine WO.ops (StepK.load1 rfl (by first | with_reducible assumption | rfl)) ?_ | refine WO.run rfl ?_ | refine WO.skip rfl rfl ?_ | refine WO.skipu rfl ?_))
  refine WO.nil (WC.seqO ?_)
  (repeat (first | refine WO.ops (StepK.mv rfl) ?_ | refine WO.ops (StepK.lenSl rfl (by first | with_reducible assumption | rfl)) ?_ | refine WO.ops (StepK.fieldAddr rfl) ?_ | refine WO.ops (StepK.add rfl rfl (by omega)) ?_ | refine WO.ops (StepK.sub rfl rfl (by omega)) ?_ | refine WO.ops (StepK.bin rfl rfl rfl) ?_ | refine WO.ops (StepK.pickT rfl rfl) ?_ | refine WO.ops (StepK.pickF rfl rfl) ?_ | refine WO.ops (StepK.not rfl) ?_ | refine WO.ops (StepK.eq rfl rfl rfl) ?_ | refine WO.ops (StepK.extract rfl rfl) ?_ | refine WO.ops (StepK.build rfl rfl) ?_ | refine WO.ops (StepK.mkFn rfl rfl) ?_ | refine WO.ops (StepK.field rfl rfl) ?_ | refine WO.ops (StepK.lenStr rfl) ?_ | refine WO.ops (StepK.nilck rfl) ?_ | refine WO.ops (StepK.min2 rfl rfl) ?_ | refine WO.ops (StepK.max2 rfl rfl) ?_ | refine WO.ops (StepK.load1 rfl (by first | with_reducible assumption | rfl)) ?_ | refine WO.run rfl ?_ | refine WO.skip rfl rfl ?_ | refine WO.skipu rfl ?_))
  refine WO.ops (StepK.append rfl rfl p1) ?_
  refine WO.ops (StepK.mv rfl) (WO.nil (WC.seqO ?_))
  (repeat (first | refine WO.ops (StepK.mv rfl) ?_ | refine WO.ops (StepK.lenSl rfl (by first | with_reducible assumption | rfl)) ?_ | refine WO.ops (StepK.fieldAddr rfl) ?_ | refine WO.ops (StepK.add rfl rfl (by omega)) ?_ | refine WO.ops (StepK.sub rfl rfl (by omega)) ?_ | refine WO.ops (StepK.bin rfl rfl rfl) ?_ | refine WO.ops (StepK.pickT rfl rfl) ?_ | refine WO.ops (StepK.pickF rfl rfl) ?_ | refine WO.ops (StepK.not rfl) ?_ | refine WO.ops (StepK.eq rfl rfl rfl) ?_ | refine WO.ops (StepK.extract rfl rfl) ?_ | refine WO.ops (StepK.build rfl rfl) ?_ | refine WO.ops (StepK.mkFn rfl rfl) ?_ | refine WO.ops (StepK.field rfl rfl) ?_ | refine WO.ops (StepK.lenStr rfl) ?_ | refine WO.ops (StepK.nilck rfl) ?_ | refine WO.ops (StepK.min2 rfl rfl) ?_ | refine WO.ops (StepK.max2 rfl rfl) ?_ | refine WO.ops (StepK.load1 rfl (by first | with_reducible assumption | rfl)) ?_ | refine WO.run rfl ?_ | refine WO.skip rfl rfl ?_ | refine WO.skipu rfl ?_))
  refine WO.ops (StepK.buildSl (cs := [.str k]) rfl rfl) ?_
  refine WO.ops (StepK.append rfl rfl p2) ?_
  refine WO.ops (StepK.mv rfl) (WO.nil (WC.seqO ?_))
  (repeat (first | refine WO.ops (StepK.mv rfl) ?_ | refine WO.ops (StepK.lenSl rfl (by first | with_reducible assumption | rfl)) ?_ | refine WO.ops (StepK.fieldAddr rfl) ?_ | refine WO.ops (StepK.add rfl rfl (by omega)) ?_ | refine WO.ops (StepK.sub rfl rfl (by omega)) ?_ | refine WO.ops (StepK.bin rfl rfl rfl) ?_ | refine WO.ops (StepK.pickT rfl rfl) ?_ | refine WO.ops (StepK.pickF rfl rfl) ?_ | refine WO.ops (StepK.not rfl) ?_ | refine WO.ops (StepK.eq rfl rfl rfl) ?_ | refine WO.ops (StepK.extract rfl rfl) ?_ | refine WO.ops (StepK.build rfl rfl) ?_ | refine WO.ops (StepK.mkFn rfl rfl) ?_ | refine WO.ops (StepK.field rfl rfl) ?_ | refine WO.ops (StepK.lenStr rfl) ?_ | refine WO.ops (StepK.nilck rfl) ?_ | refine WO.ops (StepK.min2 rfl rfl) ?_ | refine WO.ops (StepK.max2 rfl rfl) ?_ | refine WO.ops (StepK.load1 rfl (by first | with_reducible assumption | rfl)) ?_ | refine WO.run rfl ?_ | refine WO.skip rfl rfl ?_ | refine WO.skipu rfl ?_))
  exact WO.nil (WC.ret ⟨trivial, g4.wf, v2, rfl, fun h5 g5 => m4.up g5, fun hsc => m4.old hw hsc⟩)

/-- A cache that is made. -/
def newS (n : Int) : AS := ⟨[], [], [], [], 0, n⟩
theorem new_ans {f : Nat} (hf : f ≠ 9) (hF : C.F f = some a10) (h : Heap) (hw : Wf h) (n : Int) : Ans C f [iv n] h fun v h' => (if n < 1 ∨ 64 < n then v = .ptr none else ∃ a, v = .ptr (some (a, 0)) ∧ h.size ≤ a ∧ ArcAt h' a (newS n) [a]) ∧ Grow h h' := by
  unfold a10 at hF
  refine Ans.fn (fun _ _ => S.s _ _ _ hf) hF rfl rfl hw fun h2 g0 => ?_
  clear hF
  have none_ : ∀ (e : List (Nat × V)) (Q : Ex → List (Nat × V) → Heap → Prop), Q .ret ((2, .ptr none) :: e) h2 → WC C (.seq (.ops [⟨(some 2), none, .mv (.c (.ptr none))⟩]) (.ret)) e h2 Q := by
    intro e Q hQ
    refine WC.seqO ?_
    (repeat (first | refine WO.ops (StepK.mv rfl) ?_ | refine WO.ops (StepK.lenSl rfl (by first | with_reducible assumption | rfl)) ?_ | refine WO.ops (StepK.fieldAddr rfl) ?_ | refine WO.ops (StepK.add rfl rfl (by omega)) ?_ | refine WO.ops (StepK.sub rfl rfl (by omega)) ?_ | refine WO.ops (StepK.bin rfl rfl rfl) ?_ | refine WO.ops (StepK.pickT rfl rfl) ?_ | refine WO.ops (StepK.pickF rfl rfl) ?_ | refine WO.ops (StepK.not rfl) ?_ | refine WO.ops (StepK.eq rfl rfl rfl) ?_ | refine WO.ops (StepK.extract rfl rfl) ?_ | refine WO.ops (StepK.build rfl rfl) ?_ | refine WO.ops (StepK.mkFn rfl rfl) ?_ | refine WO.ops (StepK.field rfl rfl) ?_ | refine WO.ops (StepK.lenStr rfl) ?_ | refine WO.ops (StepK.nilck rfl) ?_ | refine WO.ops (StepK.min2 rfl rfl) ?_ | refine WO.ops (StepK.max2 rfl rfl) ?_ | refine WO.ops (StepK.load1 rfl (by first | with_reducible assumption | rfl)) ?_ | refine WO.run rfl ?_ | refine WO.skip rfl rfl ?_ | refine WO.skipu rfl ?_))
    exact WO.nil (WC.ret hQ)
  have fin : (n < 1 ∨ 64 < n) → ∀ (e : List (Nat × V)), Fin .ret ∧ Wf h2 ∧ ∃ v, retE ((2, .ptr none) :: e) h2 [.tmp 2] = some v ∧ (∀ h3, Grow h2 h3 → (if n < 1 ∨ 64 < n then v = .ptr none else ∃ a, v = .ptr (some (a, 0)) ∧ h.size ≤ a ∧ ArcAt h3 a (newS n) [a]) ∧ Grow h h3) ∧ (v.scopd h.size = true → (if n < 1 ∨ 64 < n then v = .ptr none else ∃ a, v = .ptr (some (a, 0)) ∧ h.size ≤ a ∧ ArcAt h a (newS n) [a]) ∧ Grow h h) := by
    intro hn e
    exact ⟨trivial, g0.wf, .ptr none, rfl, fun h3 g3 => ⟨by rw [if_pos hn], g0.trans g3⟩, fun _ => ⟨by rw [if_pos hn], Grow.refl hw⟩⟩
  refine WC.seqO ?_
  (repeat (first | refine WO.ops (StepK.mv rfl) ?_ | refine WO.ops (StepK.lenSl rfl (by first | with_reducible assumption | rfl)) ?_ | refine WO.ops (StepK.fieldAddr rfl) ?_ | refine WO.ops (StepK.add rfl rfl (by omega)) ?_ | refine WO.ops (StepK.sub rfl rfl (by omega)) ?_ | refine WO.ops (StepK.bin rfl rfl rfl) ?_ | refine WO.ops (StepK.pickT rfl rfl) ?_ | refine WO.ops (StepK.pickF rfl rfl) ?_ | refine WO.ops (StepK.not rfl) ?_ | refine WO.ops (StepK.eq rfl rfl rfl) ?_ | refine WO.ops (StepK.extract rfl rfl) ?_ | refine WO.ops (StepK.build rfl rfl) ?_ | refine WO.ops (StepK.mkFn rfl rfl) ?_ | refine WO.ops (StepK.field rfl rfl) ?_ | refine WO.ops (StepK.lenStr rfl) ?_ | refine WO.ops (StepK.nilck rfl) ?_ | refine WO.ops (StepK.min2 rfl rfl) ?_ | refine WO.ops (StepK.max2 rfl rfl) ?_ | refine WO.ops (StepK.load1 rfl (by first | with_reducible assumption | rfl)) ?_ | refine WO.run rfl ?_ | refine WO.skip rfl rfl ?_ | refine WO.skipu rfl ?_))
  refine WO.nil (WC.seq (WC.seqO ?_))
  (repeat (first | refine WO.ops (StepK.mv rfl) ?_ | refine WO.ops (StepK.lenSl rfl (by first | with_reducible assumption | rfl)) ?_ | refine WO.ops (StepK.fieldAddr rfl) ?_ | refine WO.ops (StepK.add rfl rfl (by omega)) ?_ | refine WO.ops (StepK.sub rfl rfl (by omega)) ?_ | refine WO.ops (StepK.bin rfl rfl rfl) ?_ | refine WO.ops (StepK.pickT rfl rfl) ?_ | refine WO.ops (StepK.pickF rfl rfl) ?_ | refine WO.ops (StepK.not rfl) ?_ | refine WO.ops (StepK.eq rfl rfl rfl) ?_ | refine WO.ops (StepK.extract rfl rfl) ?_ | refine WO.ops (StepK.build rfl rfl) ?_ | refine WO.ops (StepK.mkFn rfl rfl) ?_ | refine WO.ops (StepK.field rfl rfl) ?_ | refine WO.ops (StepK.lenStr rfl) ?_ | refine WO.ops (StepK.nilck rfl) ?_ | refine WO.ops (StepK.min2 rfl rfl) ?_ | refine WO.ops (StepK.max2 rfl rfl) ?_ | refine WO.ops (StepK.load1 rfl (by first | with_reducible assumption | rfl)) ?_ | refine WO.run rfl ?_ | refine WO.skip rfl rfl ?_ | refine WO.skipu rfl ?_))
  refine WO.splitG rfl (fun hc => ?_) (fun hc => ?_)
  · have hc := of_decide_eq_true hc
    (repeat (first | refine WO.ops (StepK.mv rfl) ?_ | refine WO.ops (StepK.lenSl rfl (by first | with_reducible assumption | rfl)) ?_ | refine WO.ops (StepK.fieldAddr rfl) ?_ | refine WO.ops (StepK.add rfl rfl (by omega)) ?_ | refine WO.ops (StepK.sub rfl rfl (by omega)) ?_ | refine WO.ops (StepK.bin rfl rfl rfl) ?_ | refine WO.ops (StepK.pickT rfl rfl) ?_ | refine WO.ops (StepK.pickF rfl rfl) ?_ | refine WO.ops (StepK.not rfl) ?_ | refine WO.ops (StepK.eq rfl rfl rfl) ?_ | refine WO.ops (StepK.extract rfl rfl) ?_ | refine WO.ops (StepK.build rfl rfl) ?_ | refine WO.ops (StepK.mkFn rfl rfl) ?_ | refine WO.ops (StepK.field rfl rfl) ?_ | refine WO.ops (StepK.lenStr rfl) ?_ | refine WO.ops (StepK.nilck rfl) ?_ | refine WO.ops (StepK.min2 rfl rfl) ?_ | refine WO.ops (StepK.max2 rfl rfl) ?_ | refine WO.ops (StepK.load1 rfl (by first | with_reducible assumption | rfl)) ?_ | refine WO.run rfl ?_ | refine WO.skip rfl rfl ?_ | refine WO.skipu rfl ?_))
    exact WO.nil (WC.condT rfl (none_ _ _ (fin (.inl hc) _)))
  have hc := of_decide_eq_false hc
  (repeat (first | refine WO.ops (StepK.mv rfl) ?_ | refine WO.ops (StepK.lenSl rfl (by first | with_reducible assumption | rfl)) ?_ | refine WO.ops (StepK.fieldAddr rfl) ?_ | refine WO.ops (StepK.add rfl rfl (by omega)) ?_ | refine WO.ops (StepK.sub rfl rfl (by omega)) ?_ | refine WO.ops (StepK.bin rfl rfl rfl) ?_ | refine WO.ops (StepK.pickT rfl rfl) ?_ | refine WO.ops (StepK.pickF rfl rfl) ?_ | refine WO.ops (StepK.not rfl) ?_ | refine WO.ops (StepK.eq rfl rfl rfl) ?_ | refine WO.ops (StepK.extract rfl rfl) ?_ | refine WO.ops (StepK.build rfl rfl) ?_ | refine WO.ops (StepK.mkFn rfl rfl) ?_ | refine WO.ops (StepK.field rfl rfl) ?_ | refine WO.ops (StepK.lenStr rfl) ?_ | refine WO.ops (StepK.nilck rfl) ?_ | refine WO.ops (StepK.min2 rfl rfl) ?_ | refine WO.ops (StepK.max2 rfl rfl) ?_ | refine WO.ops (StepK.load1 rfl (by first | with_reducible assumption | rfl)) ?_ | refine WO.run rfl ?_ | refine WO.skip rfl rfl ?_ | refine WO.skipu rfl ?_))
  refine WO.nil (WC.cond rfl (fun hc1 => none_ _ _ (fin (.inr (of_decide_eq_true hc1)) _)) (fun hc1 => WC.skip (WC.seqO ?_)))
  have hc1 := of_decide_eq_false hc1
  refine WO.ops (StepK.mv rfl) ?_
  refine WO.ops (StepK.build (cs := [.slice none 0 0, .slice none 0 0, .slice none 0 0, .slice none 0 0, iv 0, iv n]) rfl rfl) ?_
  refine WO.ops (StepK.box rfl) ?_
  show WO C _ _ (h2.push (.cells [.slice none 0 0, .slice none 0 0, .slice none 0 0, .slice none 0 0, iv 0, iv n] (.tip [] 0))) _
  have gp : Grow h2 (h2.push (.cells [.slice none 0 0, .slice none 0 0, .slice none 0 0, .slice none 0 0, iv 0, iv n] (.tip [] 0))) := (Grow.refl g0.wf).push _
  have hA : ArcAt (h2.push (.cells [.slice none 0 0, .slice none 0 0, .slice none 0 0, .slice none 0 0, iv 0, iv n] (.tip [] 0))) h2.size (newS n) [h2.size] := by
    refine ⟨[(.slice none 0 0, [], []), (.slice none 0 0, [], []), (.slice none 0 0, [], []), (.slice none 0 0, [], [])], ⟨get_push_self _ _, ?_, ?_⟩, rfl, rfl⟩
    · intro t ht
      have : t = (.slice none 0 0, [], []) := by simpa using ht
      subst this
      exact ⟨KL.nil _, by simp⟩
    · intro i j t u _ ht _ b hb
      have := List.mem_of_getElem? ht
      have : t = (.slice none 0 0, [], []) := by simpa using this
      subst this
      simp at hb
  (repeat (first | refine WO.ops (StepK.mv rfl) ?_ | refine WO.ops (StepK.lenSl rfl (by first | with_reducible assumption | rfl)) ?_ | refine WO.ops (StepK.fieldAddr rfl) ?_ | refine WO.ops (StepK.add rfl rfl (by omega)) ?_ | refine WO.ops (StepK.sub rfl rfl (by omega)) ?_ | refine WO.ops (StepK.bin rfl rfl rfl) ?_ | refine WO.ops (StepK.pickT rfl rfl) ?_ | refine WO.ops (StepK.pickF rfl rfl) ?_ | refine WO.ops (StepK.not rfl) ?_ | refine WO.ops (StepK.eq rfl rfl rfl) ?_ | refine WO.ops (StepK.extract rfl rfl) ?_ | refine WO.ops (StepK.build rfl rfl) ?_ | refine WO.ops (StepK.mkFn rfl rfl) ?_ | refine WO.ops (StepK.field rfl rfl) ?_ | refine WO.ops (StepK.lenStr rfl) ?_ | refine WO.ops (StepK.nilck rfl) ?_ | refine WO.ops (StepK.min2 rfl rfl) ?_ | refine WO.ops (StepK.max2 rfl rfl) ?_ | refine WO.ops (StepK.load1 rfl (by first | with_reducible assumption | rfl)) ?_ | refine WO.run rfl ?_ | refine WO.skip rfl rfl ?_ | refine WO.skipu rfl ?_))
  refine WO.nil (WC.ret ⟨trivial, gp.wf, .ptr (some (h2.size, 0)), rfl, fun h3 g3 => ⟨?_, (g0.trans gp).trans g3⟩, fun hsc => ?_⟩)
  · rw [if_neg (by omega)]
    exact ⟨_, rfl, g0.size, hA.grow g3⟩
  · simp [V.scopd] at hsc; have := g0.size; omega
end Abs
end Go.Proofs.Ytnbljblnikdeiaa
