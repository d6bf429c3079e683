/- Layer 11: the document's Ask; whether a cache has the document's lists. -/
import Derived.Test.YtnbljblnikdeiaaD8
namespace Go.Proofs.Ytnbljblnikdeiaa
namespace Abs
set_option linter.unusedVariables false
set_option linter.unusedSimpArgs false
set_option maxHeartbeats 3200000
open Go.RowKit
attribute [local irreducible] WO WC WD StepK Ans Does Runs DoesD

def againR (s : AS) (k : List Nat) : List Nat × AS :=
  let r := if k ∈ s.b1 then roomR (upS s s.b1.length s.b2.length) false else roomR (downS s s.b1.length s.b2.length) true
  (r.1, { dropR r.2 k with t2 := (dropR r.2 k).t2 ++ [k] })
def freshR (s : AS) : List Nat × AS :=
  if (s.t1.length : Int) + s.b1.length = s.c then
    (if (s.t1.length : Int) < s.c then roomR { s with b1 := wo s.b1 (s.b1.headD []) } false else (s.t1.headD [], { s with t1 := wo s.t1 (s.t1.headD []) }))
  else if (s.t1.length : Int) + s.t2.length + s.b1.length + s.b2.length ≥ s.c then
    (if (s.t1.length : Int) + s.t2.length + s.b1.length + s.b2.length = 2 * s.c then roomR { s with b2 := wo s.b2 (s.b2.headD []) } false else roomR s false)
  else ([], s)
def askR (s : AS) (k : List Nat) : Bool × List Nat × AS :=
  if k = [] then (false, [], s)
  else if hasS s k = true then (true, [], { dropR s k with t2 := (dropR s k).t2 ++ [k] })
  else if k ∈ s.b1 ∨ k ∈ s.b2 then (false, againR s k)
  else (false, (freshR s).1, { (freshR s).2 with t1 := (freshR s).2.t1 ++ [k] })

theorem roomR_bd1 {s : AS} (o : ∀ i, (s.get i).length ≤ 50000) (b : Bool) (i : Nat) : ((roomR s b).2.get i).length ≤ 100000 := by
  have h0 : s.t1.length ≤ 50000 := o 0
  have h1 : s.t2.length ≤ 50000 := o 1
  have h2 : s.b1.length ≤ 50000 := o 2
  have h3 : s.b2.length ≤ 50000 := o 3
  have w1 := wo_len s.t1 (s.t1.headD [])
  have w2 := wo_len s.t2 (s.t2.headD [])
  unfold roomR
  split
  · match i with
    | 0 => simp only [AS.get]; omega
    | 1 => simp only [AS.get]; omega
    | 2 => simp only [AS.get, List.length_append, List.length_singleton]; omega
    | _ + 3 => simp only [AS.get]; omega
  · split
    · match i with
      | 0 => simp only [AS.get]; omega
      | 1 => simp only [AS.get]; omega
      | 2 => simp only [AS.get]; omega
      | _ + 3 => simp only [AS.get, List.length_append, List.length_singleton]; omega
    · exact Nat.le_trans (o i) (by omega)

variable {C : Cfg} (S : Std C)
include S
section
variable {h : Heap} (hw : Wf h) {a : Nat} {s : AS} {F : List Nat} (A : ArcAt h a s F)
include hw A

theorem again_ans (o : OkS s) (k : List Nat) (hk : k ∈ s.b1 ∨ k ∈ s.b2) : Ans C 28 [.ptr (some (a, 0)), .str k] h fun v h' => v = .str (againR s k).1 ∧ APost h h' a F (againR s k).2 ∧ h'.low ≤ a := by
  have hF : C.F 28 = some a28 := S.f rfl
  unfold a28 at hF
  refine Ans.fnM (fun _ _ => S.s _ _ _ (by decide)) hF rfl rfl hw fun h2 g0 hsz hge => ?_
  clear hF
  have A2 := A.grow g0
  have ha := A.at_lt hw
  have b0 : s.t1.length ≤ 50000 := o.bd 0
  have b1 : s.t2.length ≤ 50000 := o.bd 1
  have b2 : s.b1.length ≤ 50000 := o.bd 2
  have b3 : s.b2.length ≤ 50000 := o.bd 3
  obtain ⟨c3, x3, G3, l3, _⟩ := A2.op g0.wf 2 (by decide)
  obtain ⟨c4, x4, G4, l4, _⟩ := A2.op g0.wf 3 (by decide)
  have r3 : h2.rd a (0 + 2) = some x3 := l3.rd
  have r4 : h2.rd a (0 + 3) = some x4 := l4.rd
  have n3 : slLen x3 = some s.b1.length := l3.len
  have n4 : slLen x4 = some s.b2.length := l4.len
  refine WC.seqO ?_
  (repeat (first | refine WO.ops (StepK.mv rfl) ?_ | refine WO.ops (StepK.lenSl rfl (by first | with_reducible assumption | rfl)) ?_ | refine WO.ops (StepK.fieldAddr rfl) ?_ | refine WO.ops (StepK.add rfl rfl (by omega)) ?_ | refine WO.ops (StepK.sub rfl rfl (by omega)) ?_ | refine WO.ops (StepK.bin rfl rfl rfl) ?_ | refine WO.ops (StepK.pickT rfl rfl) ?_ | refine WO.ops (StepK.pickF rfl rfl) ?_ | refine WO.ops (StepK.not rfl) ?_ | refine WO.ops (StepK.eq rfl rfl rfl) ?_ | refine WO.ops (StepK.extract rfl rfl) ?_ | refine WO.ops (StepK.build rfl rfl) ?_ | refine WO.ops (StepK.mkFn rfl rfl) ?_ | refine WO.ops (StepK.field rfl rfl) ?_ | refine WO.ops (StepK.lenStr rfl) ?_ | refine WO.ops (StepK.nilck rfl) ?_ | refine WO.ops (StepK.min2 rfl rfl) ?_ | refine WO.ops (StepK.max2 rfl rfl) ?_ | refine WO.ops (StepK.load1 rfl (by first | with_reducible assumption | rfl)) ?_ | refine WO.run rfl ?_ | refine WO.skip rfl rfl ?_ | refine WO.skipu rfl ?_))
  refine WO.nil (WC.seqO ?_)
  refine WO.ops (StepK.mv rfl) ?_
  refine WO.ops (StepK.nilck rfl) ?_
  refine WO.ops (StepK.fieldAddr rfl) ?_
  refine WO.ops (StepK.load1 rfl r3) ?_
  refine WO.ops (StepK.lenSl rfl n3) ?_
  refine WO.ops (StepK.mv rfl) (WO.nil (WC.seqO ?_))
  refine WO.ops (StepK.mv rfl) ?_
  refine WO.ops (StepK.nilck rfl) ?_
  refine WO.ops (StepK.fieldAddr rfl) ?_
  refine WO.ops (StepK.load1 rfl r4) ?_
  refine WO.ops (StepK.lenSl rfl n4) ?_
  refine WO.ops (StepK.mv rfl) (WO.nil (WC.seqO ?_))
  refine WO.ops (StepK.mv rfl) (WO.nil ?_)
  refine WC.seqM (M := fun e' h' => ∃ (r : List Nat × AS), againR s k = (r.1, { dropR r.2 k with t2 := (dropR r.2 k).t2 ++ [k] }) ∧ (∀ i, (r.2.get i).length ≤ 100000) ∧ Cov [(0, .ptr (some (a, 0))), (1, .str k), (7, .str r.1)] e' ∧ APost h h' a F r.2) ?_ ?_
  rotate_left
  · rintro e7 h7 ⟨r, hr, hbd, cv, p7⟩
    refine WC.cov cv (WC.seqO ?_)
    have w7 := p7.wf
    obtain ⟨F7, A7, c7, m7⟩ := p7
    (repeat (first | refine WO.ops (StepK.mv rfl) ?_ | refine WO.ops (StepK.lenSl rfl (by first | with_reducible assumption | rfl)) ?_ | refine WO.ops (StepK.fieldAddr rfl) ?_ | refine WO.ops (StepK.add rfl rfl (by omega)) ?_ | refine WO.ops (StepK.sub rfl rfl (by omega)) ?_ | refine WO.ops (StepK.bin rfl rfl rfl) ?_ | refine WO.ops (StepK.pickT rfl rfl) ?_ | refine WO.ops (StepK.pickF rfl rfl) ?_ | refine WO.ops (StepK.not rfl) ?_ | refine WO.ops (StepK.eq rfl rfl rfl) ?_ | refine WO.ops (StepK.extract rfl rfl) ?_ | refine WO.ops (StepK.build rfl rfl) ?_ | refine WO.ops (StepK.mkFn rfl rfl) ?_ | refine WO.ops (StepK.field rfl rfl) ?_ | refine WO.ops (StepK.lenStr rfl) ?_ | refine WO.ops (StepK.nilck rfl) ?_ | refine WO.ops (StepK.min2 rfl rfl) ?_ | refine WO.ops (StepK.max2 rfl rfl) ?_ | refine WO.ops (StepK.load1 rfl (by first | with_reducible assumption | rfl)) ?_ | refine WO.run rfl ?_ | refine WO.skip rfl rfl ?_ | refine WO.skipu rfl ?_))
    refine WO.call rfl rfl (refDrop_ans S w7 A7 hbd k) ?_
    rintro v h8 ⟨rfl, p8, lo8⟩
    have P := APost.also hw c7 m7 p8
    refine WO.nil (WC.seqO ?_)
    have w1 := APost.wf P
    obtain ⟨F1, A1, c1, m1⟩ := P
    obtain ⟨cs1, x1, G1, lp1, pp1⟩ := A1.op w1 1 (by decide)
    have r1 : Heap.rd h8 a (0 + 1) = some x1 := lp1.rd
    (repeat (first | refine WO.ops (StepK.mv rfl) ?_ | refine WO.ops (StepK.lenSl rfl (by first | with_reducible assumption | rfl)) ?_ | refine WO.ops (StepK.fieldAddr rfl) ?_ | refine WO.ops (StepK.add rfl rfl (by omega)) ?_ | refine WO.ops (StepK.sub rfl rfl (by omega)) ?_ | refine WO.ops (StepK.bin rfl rfl rfl) ?_ | refine WO.ops (StepK.pickT rfl rfl) ?_ | refine WO.ops (StepK.pickF rfl rfl) ?_ | refine WO.ops (StepK.not rfl) ?_ | refine WO.ops (StepK.eq rfl rfl rfl) ?_ | refine WO.ops (StepK.extract rfl rfl) ?_ | refine WO.ops (StepK.build rfl rfl) ?_ | refine WO.ops (StepK.mkFn rfl rfl) ?_ | refine WO.ops (StepK.field rfl rfl) ?_ | refine WO.ops (StepK.lenStr rfl) ?_ | refine WO.ops (StepK.nilck rfl) ?_ | refine WO.ops (StepK.min2 rfl rfl) ?_ | refine WO.ops (StepK.max2 rfl rfl) ?_ | refine WO.ops (StepK.load1 rfl (by first | with_reducible assumption | rfl)) ?_ | refine WO.run rfl ?_ | refine WO.skip rfl rfl ?_ | refine WO.skipu rfl ?_))
    refine WO.call rfl rfl (with_ans S h8 w1 x1 _ k lp1.sl ((Nat.le_trans (wo_len _ _) (hbd 1)))) ?_
    rintro v1 hh1 ⟨F21, kl1, g1, cm1⟩
    obtain ⟨h1, q11, q21, lo1, _⟩ := lp1.store w1 kl1 (g1.chg _) (fun b hb => .inr ((cm1 b hb).resolve_left (by simp)))
    (repeat (first | refine WO.ops (StepK.mv rfl) ?_ | refine WO.ops (StepK.lenSl rfl (by first | with_reducible assumption | rfl)) ?_ | refine WO.ops (StepK.fieldAddr rfl) ?_ | refine WO.ops (StepK.add rfl rfl (by omega)) ?_ | refine WO.ops (StepK.sub rfl rfl (by omega)) ?_ | refine WO.ops (StepK.bin rfl rfl rfl) ?_ | refine WO.ops (StepK.pickT rfl rfl) ?_ | refine WO.ops (StepK.pickF rfl rfl) ?_ | refine WO.ops (StepK.not rfl) ?_ | refine WO.ops (StepK.eq rfl rfl rfl) ?_ | refine WO.ops (StepK.extract rfl rfl) ?_ | refine WO.ops (StepK.build rfl rfl) ?_ | refine WO.ops (StepK.mkFn rfl rfl) ?_ | refine WO.ops (StepK.field rfl rfl) ?_ | refine WO.ops (StepK.lenStr rfl) ?_ | refine WO.ops (StepK.nilck rfl) ?_ | refine WO.ops (StepK.min2 rfl rfl) ?_ | refine WO.ops (StepK.max2 rfl rfl) ?_ | refine WO.ops (StepK.load1 rfl (by first | with_reducible assumption | rfl)) ?_ | refine WO.run rfl ?_ | refine WO.skip rfl rfl ?_ | refine WO.skipu rfl ?_))
    refine WO.op (StepK.store rfl rfl (by rw [kl1.one.1]; rfl) q11) ?_
    have P1 := APost.also hw c1 m1 (pp1 _ _ q21)
    refine WO.nil (WC.seqO ?_)
    (repeat (first | refine WO.ops (StepK.mv rfl) ?_ | refine WO.ops (StepK.lenSl rfl (by first | with_reducible assumption | rfl)) ?_ | refine WO.ops (StepK.fieldAddr rfl) ?_ | refine WO.ops (StepK.add rfl rfl (by omega)) ?_ | refine WO.ops (StepK.sub rfl rfl (by omega)) ?_ | refine WO.ops (StepK.bin rfl rfl rfl) ?_ | refine WO.ops (StepK.pickT rfl rfl) ?_ | refine WO.ops (StepK.pickF rfl rfl) ?_ | refine WO.ops (StepK.not rfl) ?_ | refine WO.ops (StepK.eq rfl rfl rfl) ?_ | refine WO.ops (StepK.extract rfl rfl) ?_ | refine WO.ops (StepK.build rfl rfl) ?_ | refine WO.ops (StepK.mkFn rfl rfl) ?_ | refine WO.ops (StepK.field rfl rfl) ?_ | refine WO.ops (StepK.lenStr rfl) ?_ | refine WO.ops (StepK.nilck rfl) ?_ | refine WO.ops (StepK.min2 rfl rfl) ?_ | refine WO.ops (StepK.max2 rfl rfl) ?_ | refine WO.ops (StepK.load1 rfl (by first | with_reducible assumption | rfl)) ?_ | refine WO.run rfl ?_ | refine WO.skip rfl rfl ?_ | refine WO.skipu rfl ?_))
    rw [hr]
    exact WO.nil (WC.ret ⟨trivial, _, rfl, fun n hn => ⟨rfl, APost.low (s := { dropR r.2 k with t2 := (dropR r.2 k).t2 ++ [k] }) P1 n, Nat.le_trans hn lo1⟩, fun hc _ => by omega⟩)
  refine WC.seqO ?_
  refine WO.ops (StepK.mv rfl) ?_
  refine WO.ops (StepK.nilck rfl) ?_
  refine WO.ops (StepK.fieldAddr rfl) ?_
  refine WO.ops (StepK.load1 rfl r3) ?_
  refine WO.ops (StepK.mv rfl) ?_
  refine WO.call rfl rfl (in_ans S h2 g0.wf x3 s.b1 k l3.sl (by omega)) ?_
  rintro v h3 ⟨rfl, g3⟩
  have A3 := A2.grow g3
  have g3 := g0.trans g3
  have q1 := o.p
  have q2 := o.c
  refine WO.nil (WC.cond rfl (fun hc => WC.seqD ?_) (fun hc => WC.seqD ?_))
  · have hc := of_decide_eq_true hc
    have hx : s.b1.length ≠ 0 := by have := List.length_pos_of_mem hc; omega
    have rc := A3.rdc
    have rp := A3.rdp
    obtain ⟨h4, w4, p4, lo4⟩ := A3.setp g3.wf (upS s s.b1.length s.b2.length).p
    have hq : s.b2.length / s.b1.length ≤ s.b2.length := Nat.div_le_self _ _
    refine WD.pure (StepK.mv rfl) rfl ?_
    refine WD.pure (StepK.mv rfl) rfl ?_
    refine WD.pure (StepK.nilck rfl) rfl ?_
    refine WD.pure (StepK.fieldAddr rfl) rfl ?_
    refine WD.load1 rfl rc ?_
    refine WD.pure (StepK.mv rfl) rfl ?_
    refine WD.pure (StepK.nilck rfl) rfl ?_
    refine WD.pure (StepK.fieldAddr rfl) rfl ?_
    refine WD.load1 rfl rp ?_
    refine WD.pure (StepK.mv rfl) rfl ?_
    refine WD.pure (StepK.mv rfl) rfl ?_
    refine WD.pure (StepK.bin rfl rfl (quo_nn hx (by omega))) rfl ?_
    refine WD.pure (StepK.max2 rfl rfl) rfl ?_
    refine WD.pure (StepK.add rfl rfl (by split <;> omega)) rfl ?_
    refine WD.pure (StepK.min2 rfl rfl) rfl ?_
    refine WD.pure (StepK.nilck rfl) rfl ?_
    refine WD.pure (StepK.fieldAddr rfl) rfl ?_
    refine WD.opC ⟨rp, rc, trivial⟩ rfl (StepK.store rfl rfl rfl w4) ?_
    refine WD.nil trivial (WC.ops ?_)
    have w4' := p4.wf
    have p4 := p4.growl g3
    obtain ⟨F4, A4, c4', m4⟩ := p4
    (repeat (first | refine WO.ops (StepK.mv rfl) ?_ | refine WO.ops (StepK.lenSl rfl (by first | with_reducible assumption | rfl)) ?_ | refine WO.ops (StepK.fieldAddr rfl) ?_ | refine WO.ops (StepK.add rfl rfl (by omega)) ?_ | refine WO.ops (StepK.sub rfl rfl (by omega)) ?_ | refine WO.ops (StepK.bin rfl rfl rfl) ?_ | refine WO.ops (StepK.pickT rfl rfl) ?_ | refine WO.ops (StepK.pickF rfl rfl) ?_ | refine WO.ops (StepK.not rfl) ?_ | refine WO.ops (StepK.eq rfl rfl rfl) ?_ | refine WO.ops (StepK.extract rfl rfl) ?_ | refine WO.ops (StepK.build rfl rfl) ?_ | refine WO.ops (StepK.mkFn rfl rfl) ?_ | refine WO.ops (StepK.field rfl rfl) ?_ | refine WO.ops (StepK.lenStr rfl) ?_ | refine WO.ops (StepK.nilck rfl) ?_ | refine WO.ops (StepK.min2 rfl rfl) ?_ | refine WO.ops (StepK.max2 rfl rfl) ?_ | refine WO.ops (StepK.load1 rfl (by first | with_reducible assumption | rfl)) ?_ | refine WO.run rfl ?_ | refine WO.skip rfl rfl ?_ | refine WO.skipu rfl ?_))
    refine WO.call rfl rfl (refRoom_ans S w4' (s := upS s s.b1.length s.b2.length) A4 (fun i => o.b i) false) ?_
    rintro v h5 ⟨rfl, p5, lo5⟩
    (repeat (first | refine WO.ops (StepK.mv rfl) ?_ | refine WO.ops (StepK.lenSl rfl (by first | with_reducible assumption | rfl)) ?_ | refine WO.ops (StepK.fieldAddr rfl) ?_ | refine WO.ops (StepK.add rfl rfl (by omega)) ?_ | refine WO.ops (StepK.sub rfl rfl (by omega)) ?_ | refine WO.ops (StepK.bin rfl rfl rfl) ?_ | refine WO.ops (StepK.pickT rfl rfl) ?_ | refine WO.ops (StepK.pickF rfl rfl) ?_ | refine WO.ops (StepK.not rfl) ?_ | refine WO.ops (StepK.eq rfl rfl rfl) ?_ | refine WO.ops (StepK.extract rfl rfl) ?_ | refine WO.ops (StepK.build rfl rfl) ?_ | refine WO.ops (StepK.mkFn rfl rfl) ?_ | refine WO.ops (StepK.field rfl rfl) ?_ | refine WO.ops (StepK.lenStr rfl) ?_ | refine WO.ops (StepK.nilck rfl) ?_ | refine WO.ops (StepK.min2 rfl rfl) ?_ | refine WO.ops (StepK.max2 rfl rfl) ?_ | refine WO.ops (StepK.load1 rfl (by first | with_reducible assumption | rfl)) ?_ | refine WO.run rfl ?_ | refine WO.skip rfl rfl ?_ | refine WO.skipu rfl ?_))
    refine WO.nil ⟨roomR (upS s s.b1.length s.b2.length) false, ?_, roomR_bd1 (s := upS s s.b1.length s.b2.length) (fun i => o.bd i) false, Cov.cons rfl (Cov.cons rfl (Cov.cons rfl (Cov.nil _))), APost.also hw c4' m4 p5⟩
    simp only [againR]; rw [if_pos hc]
  · have hc := of_decide_eq_false hc
    have hk2 := hk.resolve_left hc
    have hx : s.b2.length ≠ 0 := by have := List.length_pos_of_mem hk2; omega
    have rp := A3.rdp
    obtain ⟨h4, w4, p4, lo4⟩ := A3.setp g3.wf (downS s s.b1.length s.b2.length).p
    have hq : s.b1.length / s.b2.length ≤ s.b1.length := Nat.div_le_self _ _
    refine WD.pure (StepK.mv rfl) rfl ?_
    refine WD.pure (StepK.mv rfl) rfl ?_
    refine WD.pure (StepK.nilck rfl) rfl ?_
    refine WD.pure (StepK.fieldAddr rfl) rfl ?_
    refine WD.load1 rfl rp ?_
    refine WD.pure (StepK.mv rfl) rfl ?_
    refine WD.pure (StepK.mv rfl) rfl ?_
    refine WD.pure (StepK.bin rfl rfl (quo_nn hx (by omega))) rfl ?_
    refine WD.pure (StepK.max2 rfl rfl) rfl ?_
    refine WD.pure (StepK.sub rfl rfl (by split <;> omega)) rfl ?_
    refine WD.pure (StepK.max2 rfl rfl) rfl ?_
    refine WD.pure (StepK.nilck rfl) rfl ?_
    refine WD.pure (StepK.fieldAddr rfl) rfl ?_
    refine WD.opC ⟨rp, trivial⟩ rfl (StepK.store rfl rfl rfl w4) ?_
    refine WD.nil trivial (WC.ops ?_)
    have w4' := p4.wf
    have p4 := p4.growl g3
    obtain ⟨F4, A4, c4', m4⟩ := p4
    (repeat (first | refine WO.ops (StepK.mv rfl) ?_ | refine WO.ops (StepK.lenSl rfl (by first | with_reducible assumption | rfl)) ?_ | refine WO.ops (StepK.fieldAddr rfl) ?_ | refine WO.ops (StepK.add rfl rfl (by omega)) ?_ | refine WO.ops (StepK.sub rfl rfl (by omega)) ?_ | refine WO.ops (StepK.bin rfl rfl rfl) ?_ | refine WO.ops (StepK.pickT rfl rfl) ?_ | refine WO.ops (StepK.pickF rfl rfl) ?_ | refine WO.ops (StepK.not rfl) ?_ | refine WO.ops (StepK.eq rfl rfl rfl) ?_ | refine WO.ops (StepK.extract rfl rfl) ?_ | refine WO.ops (StepK.build rfl rfl) ?_ | refine WO.ops (StepK.mkFn rfl rfl) ?_ | refine WO.ops (StepK.field rfl rfl) ?_ | refine WO.ops (StepK.lenStr rfl) ?_ | refine WO.ops (StepK.nilck rfl) ?_ | refine WO.ops (StepK.min2 rfl rfl) ?_ | refine WO.ops (StepK.max2 rfl rfl) ?_ | refine WO.ops (StepK.load1 rfl (by first | with_reducible assumption | rfl)) ?_ | refine WO.run rfl ?_ | refine WO.skip rfl rfl ?_ | refine WO.skipu rfl ?_))
    refine WO.call rfl rfl (refRoom_ans S w4' (s := downS s s.b1.length s.b2.length) A4 (fun i => o.b i) true) ?_
    rintro v h5 ⟨rfl, p5, lo5⟩
    (repeat (first | refine WO.ops (StepK.mv rfl) ?_ | refine WO.ops (StepK.lenSl rfl (by first | with_reducible assumption | rfl)) ?_ | refine WO.ops (StepK.fieldAddr rfl) ?_ | refine WO.ops (StepK.add rfl rfl (by omega)) ?_ | refine WO.ops (StepK.sub rfl rfl (by omega)) ?_ | refine WO.ops (StepK.bin rfl rfl rfl) ?_ | refine WO.ops (StepK.pickT rfl rfl) ?_ | refine WO.ops (StepK.pickF rfl rfl) ?_ | refine WO.ops (StepK.not rfl) ?_ | refine WO.ops (StepK.eq rfl rfl rfl) ?_ | refine WO.ops (StepK.extract rfl rfl) ?_ | refine WO.ops (StepK.build rfl rfl) ?_ | refine WO.ops (StepK.mkFn rfl rfl) ?_ | refine WO.ops (StepK.field rfl rfl) ?_ | refine WO.ops (StepK.lenStr rfl) ?_ | refine WO.ops (StepK.nilck rfl) ?_ | refine WO.ops (StepK.min2 rfl rfl) ?_ | refine WO.ops (StepK.max2 rfl rfl) ?_ | refine WO.ops (StepK.load1 rfl (by first | with_reducible assumption | rfl)) ?_ | refine WO.run rfl ?_ | refine WO.skip rfl rfl ?_ | refine WO.skipu rfl ?_))
    refine WO.nil ⟨roomR (downS s s.b1.length s.b2.length) true, ?_, roomR_bd1 (s := downS s s.b1.length s.b2.length) (fun i => o.bd i) true, Cov.cons rfl (Cov.cons rfl (Cov.cons rfl (Cov.nil _))), APost.also hw c4' m4 p5⟩
    simp only [againR]; rw [if_neg hc]

theorem refAsk_ans (o : OkS s) (hc1 : 1 ≤ s.c) (hl1 : (s.t1.length : Int) + s.b1.length ≤ s.c) (hl2 : (s.t1.length : Int) + s.t2.length ≤ s.c) (k : List Nat) : Ans C 13 [.ptr (some (a, 0)), .str k] h fun v h' => v = .tuple [.bool (askR s k).1, .str (askR s k).2.1] ∧ APost h h' a F (askR s k).2.2 := by
  have hF : C.F 13 = some a13 := S.f rfl
  unfold a13 at hF
  refine Ans.fnM (fun _ _ => S.s _ _ _ (by decide)) hF rfl rfl hw fun h2 g0 hsz hge => ?_
  clear hF
  have A2 := A.grow g0
  have ha := A.at_lt hw
  have b0 : s.t1.length ≤ 50000 := o.bd 0
  have b1 : s.t2.length ≤ 50000 := o.bd 1
  have b2 : s.b1.length ≤ 50000 := o.bd 2
  have b3 : s.b2.length ≤ 50000 := o.bd 3
  have oc := o.c
  have hke : binA .eql (.str k) (.str []) = some (.bool (decide (k = []))) := by
    simp only [binA]
    congr 2
    rw [Bool.eq_iff_iff, beqL_iff]; simp
  refine WC.seqO ?_
  (repeat (first | refine WO.ops (StepK.mv rfl) ?_ | refine WO.ops (StepK.lenSl rfl (by first | with_reducible assumption | rfl)) ?_ | refine WO.ops (StepK.fieldAddr rfl) ?_ | refine WO.ops (StepK.add rfl rfl (by omega)) ?_ | refine WO.ops (StepK.sub rfl rfl (by omega)) ?_ | refine WO.ops (StepK.bin rfl rfl rfl) ?_ | refine WO.ops (StepK.pickT rfl rfl) ?_ | refine WO.ops (StepK.pickF rfl rfl) ?_ | refine WO.ops (StepK.not rfl) ?_ | refine WO.ops (StepK.eq rfl rfl rfl) ?_ | refine WO.ops (StepK.extract rfl rfl) ?_ | refine WO.ops (StepK.build rfl rfl) ?_ | refine WO.ops (StepK.mkFn rfl rfl) ?_ | refine WO.ops (StepK.field rfl rfl) ?_ | refine WO.ops (StepK.lenStr rfl) ?_ | refine WO.ops (StepK.nilck rfl) ?_ | refine WO.ops (StepK.min2 rfl rfl) ?_ | refine WO.ops (StepK.max2 rfl rfl) ?_ | refine WO.ops (StepK.load1 rfl (by first | with_reducible assumption | rfl)) ?_ | refine WO.run rfl ?_ | refine WO.skip rfl rfl ?_ | refine WO.skipu rfl ?_))
  refine WO.nil (WC.seq (WC.seqO ?_))
  refine WO.ops (StepK.mv rfl) ?_
  refine WO.ops (StepK.bin rfl rfl hke) (WO.nil (WC.cond rfl (fun hc => WC.seqO ?_) (fun hc => WC.skip (WC.seq (WC.seqO ?_)))))
  · have hc := of_decide_eq_true hc
    have hf : askR s k = (false, [], s) := by rw [askR, if_pos hc]
    (repeat (first | refine WO.ops (StepK.mv rfl) ?_ | refine WO.ops (StepK.lenSl rfl (by first | with_reducible assumption | rfl)) ?_ | refine WO.ops (StepK.fieldAddr rfl) ?_ | refine WO.ops (StepK.add rfl rfl (by omega)) ?_ | refine WO.ops (StepK.sub rfl rfl (by omega)) ?_ | refine WO.ops (StepK.bin rfl rfl rfl) ?_ | refine WO.ops (StepK.pickT rfl rfl) ?_ | refine WO.ops (StepK.pickF rfl rfl) ?_ | refine WO.ops (StepK.not rfl) ?_ | refine WO.ops (StepK.eq rfl rfl rfl) ?_ | refine WO.ops (StepK.extract rfl rfl) ?_ | refine WO.ops (StepK.build rfl rfl) ?_ | refine WO.ops (StepK.mkFn rfl rfl) ?_ | refine WO.ops (StepK.field rfl rfl) ?_ | refine WO.ops (StepK.lenStr rfl) ?_ | refine WO.ops (StepK.nilck rfl) ?_ | refine WO.ops (StepK.min2 rfl rfl) ?_ | refine WO.ops (StepK.max2 rfl rfl) ?_ | refine WO.ops (StepK.load1 rfl (by first | with_reducible assumption | rfl)) ?_ | refine WO.run rfl ?_ | refine WO.skip rfl rfl ?_ | refine WO.skipu rfl ?_))
    rw [hf]
    exact WO.nil (WC.ret ⟨trivial, _, rfl, fun n hn => ⟨rfl, (A.post g0).low n⟩, fun _ _ => ⟨rfl, A.post (Grow.refl hw)⟩⟩)
  have hc := of_decide_eq_false hc
  (repeat (first | refine WO.ops (StepK.mv rfl) ?_ | refine WO.ops (StepK.lenSl rfl (by first | with_reducible assumption | rfl)) ?_ | refine WO.ops (StepK.fieldAddr rfl) ?_ | refine WO.ops (StepK.add rfl rfl (by omega)) ?_ | refine WO.ops (StepK.sub rfl rfl (by omega)) ?_ | refine WO.ops (StepK.bin rfl rfl rfl) ?_ | refine WO.ops (StepK.pickT rfl rfl) ?_ | refine WO.ops (StepK.pickF rfl rfl) ?_ | refine WO.ops (StepK.not rfl) ?_ | refine WO.ops (StepK.eq rfl rfl rfl) ?_ | refine WO.ops (StepK.extract rfl rfl) ?_ | refine WO.ops (StepK.build rfl rfl) ?_ | refine WO.ops (StepK.mkFn rfl rfl) ?_ | refine WO.ops (StepK.field rfl rfl) ?_ | refine WO.ops (StepK.lenStr rfl) ?_ | refine WO.ops (StepK.nilck rfl) ?_ | refine WO.ops (StepK.min2 rfl rfl) ?_ | refine WO.ops (StepK.max2 rfl rfl) ?_ | refine WO.ops (StepK.load1 rfl (by first | with_reducible assumption | rfl)) ?_ | refine WO.run rfl ?_ | refine WO.skip rfl rfl ?_ | refine WO.skipu rfl ?_))
  refine WO.call rfl rfl (refHas_ans S g0.wf A2 o.b k) ?_
  rintro v h3 ⟨rfl, g3⟩
  have A3 := A2.grow g3
  have g3 := g0.trans g3
  refine WO.nil (WC.cond rfl (fun hh => WC.seqO ?_) (fun hh => WC.skip (WC.seq (WC.seqO ?_))))
  · have hf : askR s k = (true, [], { dropR s k with t2 := (dropR s k).t2 ++ [k] }) := by rw [askR, if_neg hc, if_pos hh]
    (repeat (first | refine WO.ops (StepK.mv rfl) ?_ | refine WO.ops (StepK.lenSl rfl (by first | with_reducible assumption | rfl)) ?_ | refine WO.ops (StepK.fieldAddr rfl) ?_ | refine WO.ops (StepK.add rfl rfl (by omega)) ?_ | refine WO.ops (StepK.sub rfl rfl (by omega)) ?_ | refine WO.ops (StepK.bin rfl rfl rfl) ?_ | refine WO.ops (StepK.pickT rfl rfl) ?_ | refine WO.ops (StepK.pickF rfl rfl) ?_ | refine WO.ops (StepK.not rfl) ?_ | refine WO.ops (StepK.eq rfl rfl rfl) ?_ | refine WO.ops (StepK.extract rfl rfl) ?_ | refine WO.ops (StepK.build rfl rfl) ?_ | refine WO.ops (StepK.mkFn rfl rfl) ?_ | refine WO.ops (StepK.field rfl rfl) ?_ | refine WO.ops (StepK.lenStr rfl) ?_ | refine WO.ops (StepK.nilck rfl) ?_ | refine WO.ops (StepK.min2 rfl rfl) ?_ | refine WO.ops (StepK.max2 rfl rfl) ?_ | refine WO.ops (StepK.load1 rfl (by first | with_reducible assumption | rfl)) ?_ | refine WO.run rfl ?_ | refine WO.skip rfl rfl ?_ | refine WO.skipu rfl ?_))
    refine WO.call rfl rfl (refDrop_ans S g3.wf A3 o.b k) ?_
    rintro v h4 ⟨rfl, p4, lo4⟩
    have P := p4.growl g3
    refine WO.nil (WC.seqO ?_)
    have w1 := APost.wf P
    obtain ⟨F1, A1, c1, m1⟩ := P
    obtain ⟨cs1, x1, G1, lp1, pp1⟩ := A1.op w1 1 (by decide)
    have r1 : Heap.rd h4 a (0 + 1) = some x1 := lp1.rd
    (repeat (first | refine WO.ops (StepK.mv rfl) ?_ | refine WO.ops (StepK.lenSl rfl (by first | with_reducible assumption | rfl)) ?_ | refine WO.ops (StepK.fieldAddr rfl) ?_ | refine WO.ops (StepK.add rfl rfl (by omega)) ?_ | refine WO.ops (StepK.sub rfl rfl (by omega)) ?_ | refine WO.ops (StepK.bin rfl rfl rfl) ?_ | refine WO.ops (StepK.pickT rfl rfl) ?_ | refine WO.ops (StepK.pickF rfl rfl) ?_ | refine WO.ops (StepK.not rfl) ?_ | refine WO.ops (StepK.eq rfl rfl rfl) ?_ | refine WO.ops (StepK.extract rfl rfl) ?_ | refine WO.ops (StepK.build rfl rfl) ?_ | refine WO.ops (StepK.mkFn rfl rfl) ?_ | refine WO.ops (StepK.field rfl rfl) ?_ | refine WO.ops (StepK.lenStr rfl) ?_ | refine WO.ops (StepK.nilck rfl) ?_ | refine WO.ops (StepK.min2 rfl rfl) ?_ | refine WO.ops (StepK.max2 rfl rfl) ?_ | refine WO.ops (StepK.load1 rfl (by first | with_reducible assumption | rfl)) ?_ | refine WO.run rfl ?_ | refine WO.skip rfl rfl ?_ | refine WO.skipu rfl ?_))
    refine WO.call rfl rfl (with_ans S h4 w1 x1 _ k lp1.sl ((Nat.le_trans (wo_len _ _) (o.b 1)))) ?_
    rintro v1 hh1 ⟨F21, kl1, g1, cm1⟩
    obtain ⟨h1, q11, q21, lo1, _⟩ := lp1.store w1 kl1 (g1.chg _) (fun b hb => .inr ((cm1 b hb).resolve_left (by simp)))
    (repeat (first | refine WO.ops (StepK.mv rfl) ?_ | refine WO.ops (StepK.lenSl rfl (by first | with_reducible assumption | rfl)) ?_ | refine WO.ops (StepK.fieldAddr rfl) ?_ | refine WO.ops (StepK.add rfl rfl (by omega)) ?_ | refine WO.ops (StepK.sub rfl rfl (by omega)) ?_ | refine WO.ops (StepK.bin rfl rfl rfl) ?_ | refine WO.ops (StepK.pickT rfl rfl) ?_ | refine WO.ops (StepK.pickF rfl rfl) ?_ | refine WO.ops (StepK.not rfl) ?_ | refine WO.ops (StepK.eq rfl rfl rfl) ?_ | refine WO.ops (StepK.extract rfl rfl) ?_ | refine WO.ops (StepK.build rfl rfl) ?_ | refine WO.ops (StepK.mkFn rfl rfl) ?_ | refine WO.ops (StepK.field rfl rfl) ?_ | refine WO.ops (StepK.lenStr rfl) ?_ | refine WO.ops (StepK.nilck rfl) ?_ | refine WO.ops (StepK.min2 rfl rfl) ?_ | refine WO.ops (StepK.max2 rfl rfl) ?_ | refine WO.ops (StepK.load1 rfl (by first | with_reducible assumption | rfl)) ?_ | refine WO.run rfl ?_ | refine WO.skip rfl rfl ?_ | refine WO.skipu rfl ?_))
    refine WO.op (StepK.store rfl rfl (by rw [kl1.one.1]; rfl) q11) ?_
    have P1 := APost.also hw c1 m1 (pp1 _ _ q21)
    refine WO.nil (WC.seqO ?_)
    (repeat (first | refine WO.ops (StepK.mv rfl) ?_ | refine WO.ops (StepK.lenSl rfl (by first | with_reducible assumption | rfl)) ?_ | refine WO.ops (StepK.fieldAddr rfl) ?_ | refine WO.ops (StepK.add rfl rfl (by omega)) ?_ | refine WO.ops (StepK.sub rfl rfl (by omega)) ?_ | refine WO.ops (StepK.bin rfl rfl rfl) ?_ | refine WO.ops (StepK.pickT rfl rfl) ?_ | refine WO.ops (StepK.pickF rfl rfl) ?_ | refine WO.ops (StepK.not rfl) ?_ | refine WO.ops (StepK.eq rfl rfl rfl) ?_ | refine WO.ops (StepK.extract rfl rfl) ?_ | refine WO.ops (StepK.build rfl rfl) ?_ | refine WO.ops (StepK.mkFn rfl rfl) ?_ | refine WO.ops (StepK.field rfl rfl) ?_ | refine WO.ops (StepK.lenStr rfl) ?_ | refine WO.ops (StepK.nilck rfl) ?_ | refine WO.ops (StepK.min2 rfl rfl) ?_ | refine WO.ops (StepK.max2 rfl rfl) ?_ | refine WO.ops (StepK.load1 rfl (by first | with_reducible assumption | rfl)) ?_ | refine WO.run rfl ?_ | refine WO.skip rfl rfl ?_ | refine WO.skipu rfl ?_))
    rw [hf]
    exact WO.nil (WC.ret ⟨trivial, _, rfl, fun n hn => ⟨rfl, APost.low (s := { dropR s k with t2 := (dropR s k).t2 ++ [k] }) P1 n⟩, fun hc _ => by omega⟩)
  obtain ⟨d3, x3, G3, l3, _⟩ := A3.op g3.wf 2 (by decide)
  obtain ⟨d4, x4, G4, l4, _⟩ := A3.op g3.wf 3 (by decide)
  have r3 : h3.rd a (0 + 2) = some x3 := l3.rd
  have r4 : h3.rd a (0 + 3) = some x4 := l4.rd
  refine WO.ops (StepK.mv rfl) ?_
  refine WO.ops (StepK.nilck rfl) ?_
  refine WO.ops (StepK.fieldAddr rfl) ?_
  refine WO.ops (StepK.load1 rfl r3) ?_
  refine WO.ops (StepK.mv rfl) ?_
  refine WO.call rfl rfl (in_ans S h3 g3.wf x3 s.b1 k l3.sl (by omega)) ?_
  rintro v h4 ⟨rfl, g4⟩
  have A4 := A3.grow g4
  have r4 := g4.rd r4
  have s4 : Sl h4 1 x4 (ki s.b2) := l4.sl.grow g4
  have g4 := g3.trans g4
  -- the key is in one of those that were
  have yes : ∀ (e : List (Nat × V)) (h5 : Heap) (Q : Ex → List (Nat × V) → Heap → Prop), Grow h h5 → (k ∈ s.b1 ∨ k ∈ s.b2) → Cov [(0, .ptr (some (a, 0))), (1, .str k)] e → (∀ v e' h', v = (askR s k).2.1 → APost h h' a F (askR s k).2.2 → h'.low ≤ a → (askR s k).1 = false → Q .ret ((5, .str v) :: (4, .bool false) :: e') h') → WC C (.seq (.ops [⟨(some 39), none, .mv (.t 0)⟩,
     ⟨(some 40), none, .mv (.t 1)⟩,
     ⟨(some 41), none, .call (.c (.func (.func 28) [] [])) [(.t 39), (.t 40)]⟩,
     ⟨(some 4), none, .mv (.c (.bool false))⟩,
     ⟨(some 5), none, .mv (.t 41)⟩])
   (.ret)) e h5 Q := by
    intro e h5 Q g5 hk cv hQ
    refine WC.cov cv (WC.seqO ?_)
    have hf : askR s k = (false, againR s k) := by rw [askR, if_neg hc, if_neg (by rw [hh]; decide), if_pos hk]
    (repeat (first | refine WO.ops (StepK.mv rfl) ?_ | refine WO.ops (StepK.lenSl rfl (by first | with_reducible assumption | rfl)) ?_ | refine WO.ops (StepK.fieldAddr rfl) ?_ | refine WO.ops (StepK.add rfl rfl (by omega)) ?_ | refine WO.ops (StepK.sub rfl rfl (by omega)) ?_ | refine WO.ops (StepK.bin rfl rfl rfl) ?_ | refine WO.ops (StepK.pickT rfl rfl) ?_ | refine WO.ops (StepK.pickF rfl rfl) ?_ | refine WO.ops (StepK.not rfl) ?_ | refine WO.ops (StepK.eq rfl rfl rfl) ?_ | refine WO.ops (StepK.extract rfl rfl) ?_ | refine WO.ops (StepK.build rfl rfl) ?_ | refine WO.ops (StepK.mkFn rfl rfl) ?_ | refine WO.ops (StepK.field rfl rfl) ?_ | refine WO.ops (StepK.lenStr rfl) ?_ | refine WO.ops (StepK.nilck rfl) ?_ | refine WO.ops (StepK.min2 rfl rfl) ?_ | refine WO.ops (StepK.max2 rfl rfl) ?_ | refine WO.ops (StepK.load1 rfl (by first | with_reducible assumption | rfl)) ?_ | refine WO.run rfl ?_ | refine WO.skip rfl rfl ?_ | refine WO.skipu rfl ?_))
    refine WO.call rfl rfl (again_ans S g5.wf (A.grow g5) o k hk) ?_
    rintro v h6 ⟨rfl, p6, lo6⟩
    (repeat (first | refine WO.ops (StepK.mv rfl) ?_ | refine WO.ops (StepK.lenSl rfl (by first | with_reducible assumption | rfl)) ?_ | refine WO.ops (StepK.fieldAddr rfl) ?_ | refine WO.ops (StepK.add rfl rfl (by omega)) ?_ | refine WO.ops (StepK.sub rfl rfl (by omega)) ?_ | refine WO.ops (StepK.bin rfl rfl rfl) ?_ | refine WO.ops (StepK.pickT rfl rfl) ?_ | refine WO.ops (StepK.pickF rfl rfl) ?_ | refine WO.ops (StepK.not rfl) ?_ | refine WO.ops (StepK.eq rfl rfl rfl) ?_ | refine WO.ops (StepK.extract rfl rfl) ?_ | refine WO.ops (StepK.build rfl rfl) ?_ | refine WO.ops (StepK.mkFn rfl rfl) ?_ | refine WO.ops (StepK.field rfl rfl) ?_ | refine WO.ops (StepK.lenStr rfl) ?_ | refine WO.ops (StepK.nilck rfl) ?_ | refine WO.ops (StepK.min2 rfl rfl) ?_ | refine WO.ops (StepK.max2 rfl rfl) ?_ | refine WO.ops (StepK.load1 rfl (by first | with_reducible assumption | rfl)) ?_ | refine WO.run rfl ?_ | refine WO.skip rfl rfl ?_ | refine WO.skipu rfl ?_))
    exact WO.nil (WC.ret (hQ _ _ h6 (by rw [hf]) (by rw [hf]; exact p6.growl g5) lo6 (by rw [hf])))
  have retQ : ∀ v (e' : List (Nat × V)) h', v = (askR s k).2.1 → APost h h' a F (askR s k).2.2 → h'.low ≤ a → (askR s k).1 = false → Fin .ret ∧ ∃ u, retE ((5, .str v) :: (4, .bool false) :: e') h' [.tmp 4, .tmp 5] = some u ∧ (∀ n, n ≤ h'.low → u = .tuple [.bool (askR s k).1, .str (askR s k).2.1] ∧ APost h { h' with low := n } a F (askR s k).2.2) ∧ (h.size ≤ h'.low → u.scopd h.size = true → u = .tuple [.bool (askR s k).1, .str (askR s k).2.1] ∧ APost h h a F (askR s k).2.2) := by
    intro v e' h' e1 e2 e3 e4
    exact ⟨trivial, .tuple [.bool false, .str v], rfl, fun n hn => ⟨by rw [e4, e1], e2.low n⟩, fun hc _ => by omega⟩
  by_cases hk1 : k ∈ s.b1
  · have hy : decide (k ∈ s.b1) = true := decide_eq_true hk1
    rw [hy]
    (repeat (first | refine WO.ops (StepK.mv rfl) ?_ | refine WO.ops (StepK.lenSl rfl (by first | with_reducible assumption | rfl)) ?_ | refine WO.ops (StepK.fieldAddr rfl) ?_ | refine WO.ops (StepK.add rfl rfl (by omega)) ?_ | refine WO.ops (StepK.sub rfl rfl (by omega)) ?_ | refine WO.ops (StepK.bin rfl rfl rfl) ?_ | refine WO.ops (StepK.pickT rfl rfl) ?_ | refine WO.ops (StepK.pickF rfl rfl) ?_ | refine WO.ops (StepK.not rfl) ?_ | refine WO.ops (StepK.eq rfl rfl rfl) ?_ | refine WO.ops (StepK.extract rfl rfl) ?_ | refine WO.ops (StepK.build rfl rfl) ?_ | refine WO.ops (StepK.mkFn rfl rfl) ?_ | refine WO.ops (StepK.field rfl rfl) ?_ | refine WO.ops (StepK.lenStr rfl) ?_ | refine WO.ops (StepK.nilck rfl) ?_ | refine WO.ops (StepK.min2 rfl rfl) ?_ | refine WO.ops (StepK.max2 rfl rfl) ?_ | refine WO.ops (StepK.load1 rfl (by first | with_reducible assumption | rfl)) ?_ | refine WO.run rfl ?_ | refine WO.skip rfl rfl ?_ | refine WO.skipu rfl ?_))
    exact WO.nil (WC.condT rfl (yes _ _ _ g4 (.inl hk1) (Cov.cons rfl (Cov.cons rfl (Cov.nil _))) fun v e' h' e1 e2 e3 e4 => retQ v e' h' e1 e2 e3 e4))
  have hn1 : decide (k ∈ s.b1) = false := decide_eq_false hk1
  rw [hn1]
  (repeat (first | refine WO.ops (StepK.mv rfl) ?_ | refine WO.ops (StepK.lenSl rfl (by first | with_reducible assumption | rfl)) ?_ | refine WO.ops (StepK.fieldAddr rfl) ?_ | refine WO.ops (StepK.add rfl rfl (by omega)) ?_ | refine WO.ops (StepK.sub rfl rfl (by omega)) ?_ | refine WO.ops (StepK.bin rfl rfl rfl) ?_ | refine WO.ops (StepK.pickT rfl rfl) ?_ | refine WO.ops (StepK.pickF rfl rfl) ?_ | refine WO.ops (StepK.not rfl) ?_ | refine WO.ops (StepK.eq rfl rfl rfl) ?_ | refine WO.ops (StepK.extract rfl rfl) ?_ | refine WO.ops (StepK.build rfl rfl) ?_ | refine WO.ops (StepK.mkFn rfl rfl) ?_ | refine WO.ops (StepK.field rfl rfl) ?_ | refine WO.ops (StepK.lenStr rfl) ?_ | refine WO.ops (StepK.nilck rfl) ?_ | refine WO.ops (StepK.min2 rfl rfl) ?_ | refine WO.ops (StepK.max2 rfl rfl) ?_ | refine WO.ops (StepK.load1 rfl (by first | with_reducible assumption | rfl)) ?_ | refine WO.run rfl ?_ | refine WO.skip rfl rfl ?_ | refine WO.skipu rfl ?_))
  refine WO.call rfl rfl (in_ans S h4 g4.wf x4 s.b2 k s4 (by omega)) ?_
  rintro v h5 ⟨rfl, g5⟩
  have A5 := A4.grow g5
  have g5 := g4.trans g5
  (repeat (first | refine WO.ops (StepK.mv rfl) ?_ | refine WO.ops (StepK.lenSl rfl (by first | with_reducible assumption | rfl)) ?_ | refine WO.ops (StepK.fieldAddr rfl) ?_ | refine WO.ops (StepK.add rfl rfl (by omega)) ?_ | refine WO.ops (StepK.sub rfl rfl (by omega)) ?_ | refine WO.ops (StepK.bin rfl rfl rfl) ?_ | refine WO.ops (StepK.pickT rfl rfl) ?_ | refine WO.ops (StepK.pickF rfl rfl) ?_ | refine WO.ops (StepK.not rfl) ?_ | refine WO.ops (StepK.eq rfl rfl rfl) ?_ | refine WO.ops (StepK.extract rfl rfl) ?_ | refine WO.ops (StepK.build rfl rfl) ?_ | refine WO.ops (StepK.mkFn rfl rfl) ?_ | refine WO.ops (StepK.field rfl rfl) ?_ | refine WO.ops (StepK.lenStr rfl) ?_ | refine WO.ops (StepK.nilck rfl) ?_ | refine WO.ops (StepK.min2 rfl rfl) ?_ | refine WO.ops (StepK.max2 rfl rfl) ?_ | refine WO.ops (StepK.load1 rfl (by first | with_reducible assumption | rfl)) ?_ | refine WO.run rfl ?_ | refine WO.skip rfl rfl ?_ | refine WO.skipu rfl ?_))
  refine WO.nil (WC.cond rfl (fun hk2 => yes _ _ _ g5 (.inr (of_decide_eq_true hk2)) (Cov.cons rfl (Cov.cons rfl (Cov.nil _))) fun v e' h' e1 e2 e3 e4 => retQ v e' h' e1 e2 e3 e4) (fun hk2 => WC.skip (WC.seqO ?_)))
  have hk2 := of_decide_eq_false hk2
  have hf : askR s k = (false, (freshR s).1, { (freshR s).2 with t1 := (freshR s).2.t1 ++ [k] }) := by rw [askR, if_neg hc, if_neg (by rw [hh]; decide), if_neg (by intro q; exact q.elim hk1 hk2)]
  (repeat (first | refine WO.ops (StepK.mv rfl) ?_ | refine WO.ops (StepK.lenSl rfl (by first | with_reducible assumption | rfl)) ?_ | refine WO.ops (StepK.fieldAddr rfl) ?_ | refine WO.ops (StepK.add rfl rfl (by omega)) ?_ | refine WO.ops (StepK.sub rfl rfl (by omega)) ?_ | refine WO.ops (StepK.bin rfl rfl rfl) ?_ | refine WO.ops (StepK.pickT rfl rfl) ?_ | refine WO.ops (StepK.pickF rfl rfl) ?_ | refine WO.ops (StepK.not rfl) ?_ | refine WO.ops (StepK.eq rfl rfl rfl) ?_ | refine WO.ops (StepK.extract rfl rfl) ?_ | refine WO.ops (StepK.build rfl rfl) ?_ | refine WO.ops (StepK.mkFn rfl rfl) ?_ | refine WO.ops (StepK.field rfl rfl) ?_ | refine WO.ops (StepK.lenStr rfl) ?_ | refine WO.ops (StepK.nilck rfl) ?_ | refine WO.ops (StepK.min2 rfl rfl) ?_ | refine WO.ops (StepK.max2 rfl rfl) ?_ | refine WO.ops (StepK.load1 rfl (by first | with_reducible assumption | rfl)) ?_ | refine WO.run rfl ?_ | refine WO.skip rfl rfl ?_ | refine WO.skipu rfl ?_))
  refine WO.nil ?_
  obtain ⟨d1, y1, _, m1, _⟩ := A5.op g5.wf 0 (by decide)
  obtain ⟨d2, y2, _, m2, _⟩ := A5.op g5.wf 1 (by decide)
  obtain ⟨d3, y3, _, m3, _⟩ := A5.op g5.wf 2 (by decide)
  obtain ⟨d4, y4, _, m4, _⟩ := A5.op g5.wf 3 (by decide)
  have t1 : h5.rd a (0 + 0) = some y1 := m1.rd
  have t2 : h5.rd a (0 + 1) = some y2 := m2.rd
  have t3 : h5.rd a (0 + 2) = some y3 := m3.rd
  have t4 : h5.rd a (0 + 3) = some y4 := m4.rd
  have u1 : slLen y1 = some s.t1.length := m1.len
  have u2 : slLen y2 = some s.t2.length := m2.len
  have u3 : slLen y3 = some s.b1.length := m3.len
  have u4 : slLen y4 = some s.b2.length := m4.len
  have rc := A5.rdc
  refine WC.seqD ?_
  (repeat (first | refine WD.pure (StepK.mv rfl) rfl ?_ | refine WD.pure (StepK.lenSl rfl (by first | with_reducible assumption | rfl)) rfl ?_ | refine WD.pure (StepK.fieldAddr rfl) rfl ?_ | refine WD.pure (StepK.add rfl rfl (by omega)) rfl ?_ | refine WD.pure (StepK.sub rfl rfl (by omega)) rfl ?_ | refine WD.pure (StepK.bin rfl rfl rfl) rfl ?_ | refine WD.pure (StepK.pickT rfl rfl) rfl ?_ | refine WD.pure (StepK.pickF rfl rfl) rfl ?_ | refine WD.pure (StepK.not rfl) rfl ?_ | refine WD.pure (StepK.eq rfl rfl rfl) rfl ?_ | refine WD.pure (StepK.extract rfl rfl) rfl ?_ | refine WD.pure (StepK.build rfl rfl) rfl ?_ | refine WD.pure (StepK.mkFn rfl rfl) rfl ?_ | refine WD.pure (StepK.field rfl rfl) rfl ?_ | refine WD.pure (StepK.lenStr rfl) rfl ?_ | refine WD.pure (StepK.nilck rfl) rfl ?_ | refine WD.pure (StepK.min2 rfl rfl) rfl ?_ | refine WD.pure (StepK.max2 rfl rfl) rfl ?_ | refine WD.load1 rfl (by first | with_reducible assumption | rfl) ?_ | refine WD.run rfl ?_ | refine WD.skipn rfl rfl rfl ?_ | refine WD.skipun rfl rfl ?_))
  refine WD.nil ⟨t4, t3, t2, t1, trivial⟩ ?_
  -- the end: the key comes last
  refine WC.seqM (M := fun e' h' => Cov [(0, .ptr (some (a, 0))), (1, .str k), (6, .str (freshR s).1)] e' ∧ APost h h' a F (freshR s).2 ∧ ((freshR s).2.get 0).length ≤ 100000) ?_ ?_
  rotate_left
  · rintro e7 h7 ⟨cv, P, hb7⟩
    refine WC.cov cv (WC.seqO ?_)
    have w1 := APost.wf P
    obtain ⟨F1, A1, c1, m1⟩ := P
    obtain ⟨cs1, x1, G1, lp1, pp1⟩ := A1.op w1 0 (by decide)
    have r1 : Heap.rd h7 a (0 + 0) = some x1 := lp1.rd
    (repeat (first | refine WO.ops (StepK.mv rfl) ?_ | refine WO.ops (StepK.lenSl rfl (by first | with_reducible assumption | rfl)) ?_ | refine WO.ops (StepK.fieldAddr rfl) ?_ | refine WO.ops (StepK.add rfl rfl (by omega)) ?_ | refine WO.ops (StepK.sub rfl rfl (by omega)) ?_ | refine WO.ops (StepK.bin rfl rfl rfl) ?_ | refine WO.ops (StepK.pickT rfl rfl) ?_ | refine WO.ops (StepK.pickF rfl rfl) ?_ | refine WO.ops (StepK.not rfl) ?_ | refine WO.ops (StepK.eq rfl rfl rfl) ?_ | refine WO.ops (StepK.extract rfl rfl) ?_ | refine WO.ops (StepK.build rfl rfl) ?_ | refine WO.ops (StepK.mkFn rfl rfl) ?_ | refine WO.ops (StepK.field rfl rfl) ?_ | refine WO.ops (StepK.lenStr rfl) ?_ | refine WO.ops (StepK.nilck rfl) ?_ | refine WO.ops (StepK.min2 rfl rfl) ?_ | refine WO.ops (StepK.max2 rfl rfl) ?_ | refine WO.ops (StepK.load1 rfl (by first | with_reducible assumption | rfl)) ?_ | refine WO.run rfl ?_ | refine WO.skip rfl rfl ?_ | refine WO.skipu rfl ?_))
    refine WO.call rfl rfl (with_ans S h7 w1 x1 _ k lp1.sl (hb7)) ?_
    rintro v1 hh1 ⟨F21, kl1, g1, cm1⟩
    obtain ⟨h1, q11, q21, lo1, _⟩ := lp1.store w1 kl1 (g1.chg _) (fun b hb => .inr ((cm1 b hb).resolve_left (by simp)))
    (repeat (first | refine WO.ops (StepK.mv rfl) ?_ | refine WO.ops (StepK.lenSl rfl (by first | with_reducible assumption | rfl)) ?_ | refine WO.ops (StepK.fieldAddr rfl) ?_ | refine WO.ops (StepK.add rfl rfl (by omega)) ?_ | refine WO.ops (StepK.sub rfl rfl (by omega)) ?_ | refine WO.ops (StepK.bin rfl rfl rfl) ?_ | refine WO.ops (StepK.pickT rfl rfl) ?_ | refine WO.ops (StepK.pickF rfl rfl) ?_ | refine WO.ops (StepK.not rfl) ?_ | refine WO.ops (StepK.eq rfl rfl rfl) ?_ | refine WO.ops (StepK.extract rfl rfl) ?_ | refine WO.ops (StepK.build rfl rfl) ?_ | refine WO.ops (StepK.mkFn rfl rfl) ?_ | refine WO.ops (StepK.field rfl rfl) ?_ | refine WO.ops (StepK.lenStr rfl) ?_ | refine WO.ops (StepK.nilck rfl) ?_ | refine WO.ops (StepK.min2 rfl rfl) ?_ | refine WO.ops (StepK.max2 rfl rfl) ?_ | refine WO.ops (StepK.load1 rfl (by first | with_reducible assumption | rfl)) ?_ | refine WO.run rfl ?_ | refine WO.skip rfl rfl ?_ | refine WO.skipu rfl ?_))
    refine WO.op (StepK.store rfl rfl (by rw [kl1.one.1]; rfl) q11) ?_
    have P1 := APost.also hw c1 m1 (pp1 _ _ q21)
    refine WO.nil (WC.seqO ?_)
    (repeat (first | refine WO.ops (StepK.mv rfl) ?_ | refine WO.ops (StepK.lenSl rfl (by first | with_reducible assumption | rfl)) ?_ | refine WO.ops (StepK.fieldAddr rfl) ?_ | refine WO.ops (StepK.add rfl rfl (by omega)) ?_ | refine WO.ops (StepK.sub rfl rfl (by omega)) ?_ | refine WO.ops (StepK.bin rfl rfl rfl) ?_ | refine WO.ops (StepK.pickT rfl rfl) ?_ | refine WO.ops (StepK.pickF rfl rfl) ?_ | refine WO.ops (StepK.not rfl) ?_ | refine WO.ops (StepK.eq rfl rfl rfl) ?_ | refine WO.ops (StepK.extract rfl rfl) ?_ | refine WO.ops (StepK.build rfl rfl) ?_ | refine WO.ops (StepK.mkFn rfl rfl) ?_ | refine WO.ops (StepK.field rfl rfl) ?_ | refine WO.ops (StepK.lenStr rfl) ?_ | refine WO.ops (StepK.nilck rfl) ?_ | refine WO.ops (StepK.min2 rfl rfl) ?_ | refine WO.ops (StepK.max2 rfl rfl) ?_ | refine WO.ops (StepK.load1 rfl (by first | with_reducible assumption | rfl)) ?_ | refine WO.run rfl ?_ | refine WO.skip rfl rfl ?_ | refine WO.skipu rfl ?_))
    rw [hf]
    exact WO.nil (WC.ret ⟨trivial, _, rfl, fun n hn => ⟨rfl, APost.low (s := { (freshR s).2 with t1 := (freshR s).2.t1 ++ [k] }) P1 n⟩, fun hc _ => by omega⟩)
  refine WC.seqD ?_
  refine WD.pure (StepK.mv rfl) rfl ?_
  refine WD.pure (StepK.nilck rfl) rfl ?_
  refine WD.pure (StepK.fieldAddr rfl) rfl ?_
  refine WD.load1 rfl t1 ?_
  refine WD.pure (StepK.lenSl rfl u1) rfl ?_
  refine WD.pure (StepK.mv rfl) rfl ?_
  refine WD.pure (StepK.nilck rfl) rfl ?_
  refine WD.pure (StepK.fieldAddr rfl) rfl ?_
  refine WD.load1 rfl t3 ?_
  refine WD.pure (StepK.lenSl rfl u3) rfl ?_
  refine WD.pure (StepK.add rfl rfl (by omega)) rfl ?_
  refine WD.pure (StepK.mv rfl) rfl ?_
  refine WD.pure (StepK.nilck rfl) rfl ?_
  refine WD.pure (StepK.fieldAddr rfl) rfl ?_
  refine WD.load1 rfl rc ?_
  refine WD.pure (StepK.bin rfl rfl (eql_nn _ _)) rfl ?_
  refine WD.nil ⟨rc, t3, t1, trivial⟩ (WC.cond rfl (fun hq1 => WC.seqD ?_) (fun hq1 => WC.seqO ?_))
  · have hq1 := of_decide_eq_true hq1
    refine WD.pure (StepK.mv rfl) rfl ?_
    refine WD.pure (StepK.nilck rfl) rfl ?_
    refine WD.pure (StepK.fieldAddr rfl) rfl ?_
    refine WD.load1 rfl t1 ?_
    refine WD.pure (StepK.lenSl rfl u1) rfl ?_
    refine WD.pure (StepK.mv rfl) rfl ?_
    refine WD.pure (StepK.nilck rfl) rfl ?_
    refine WD.pure (StepK.fieldAddr rfl) rfl ?_
    refine WD.load1 rfl rc ?_
    refine WD.pure (StepK.bin rfl rfl rfl) rfl ?_
    refine WD.nil ⟨rc, t1, trivial⟩ (WC.cond rfl (fun hq2 => WC.seqD ?_) (fun hq2 => WC.seqO ?_))
    · have hq2 := of_decide_eq_true hq2
      have hpos : 0 < s.b1.length := by omega
      obtain ⟨bb, oo, k1, q0⟩ := Sl.hd (ks := s.b1) m3.sl hpos
      refine WD.pure (StepK.mv rfl) rfl ?_
      refine WD.pure (StepK.mv rfl) rfl ?_
      refine WD.pure (StepK.nilck rfl) rfl ?_
      refine WD.pure (StepK.fieldAddr rfl) rfl ?_
      refine WD.load1 rfl t3 ?_
      refine WD.pure (StepK.mv rfl) rfl ?_
      refine WD.pure (StepK.nilck rfl) rfl ?_
      refine WD.pure (StepK.fieldAddr rfl) rfl ?_
      refine WD.load1 rfl t3 ?_
      refine WD.pure (StepK.idxSl rfl rfl k1) rfl ?_
      refine WD.load1 rfl q0 ?_
      refine WD.call ⟨q0, t3, t3, trivial⟩ rfl rfl (without_ans S h5 g5.wf y3 s.b1 (s.b1.headD []) m3.sl (by omega)) ?_
      rintro v h6 ⟨F2, kl, g6, cm⟩
      obtain ⟨_, _, G', lp, pp⟩ := A5.op g5.wf 2 (by decide)
      obtain ⟨h7, w1, w2, lo7, w7⟩ := lp.store g5.wf kl (g6.chg _) (fun b hb => .inr ((cm b hb).resolve_left (by simp)))
      refine WD.pure (StepK.nilck rfl) rfl ?_
      refine WD.pure (StepK.fieldAddr rfl) rfl ?_
      refine WD.opC trivial rfl (StepK.store rfl rfl (by rw [kl.one.1]; rfl) w1) ?_
      refine WD.nil trivial (WC.ops ?_)
      have p7 := (pp _ _ w2).growl g5
      obtain ⟨F7, A7, c7, n7⟩ := p7
      (repeat (first | refine WO.ops (StepK.mv rfl) ?_ | refine WO.ops (StepK.lenSl rfl (by first | with_reducible assumption | rfl)) ?_ | refine WO.ops (StepK.fieldAddr rfl) ?_ | refine WO.ops (StepK.add rfl rfl (by omega)) ?_ | refine WO.ops (StepK.sub rfl rfl (by omega)) ?_ | refine WO.ops (StepK.bin rfl rfl rfl) ?_ | refine WO.ops (StepK.pickT rfl rfl) ?_ | refine WO.ops (StepK.pickF rfl rfl) ?_ | refine WO.ops (StepK.not rfl) ?_ | refine WO.ops (StepK.eq rfl rfl rfl) ?_ | refine WO.ops (StepK.extract rfl rfl) ?_ | refine WO.ops (StepK.build rfl rfl) ?_ | refine WO.ops (StepK.mkFn rfl rfl) ?_ | refine WO.ops (StepK.field rfl rfl) ?_ | refine WO.ops (StepK.lenStr rfl) ?_ | refine WO.ops (StepK.nilck rfl) ?_ | refine WO.ops (StepK.min2 rfl rfl) ?_ | refine WO.ops (StepK.max2 rfl rfl) ?_ | refine WO.ops (StepK.load1 rfl (by first | with_reducible assumption | rfl)) ?_ | refine WO.run rfl ?_ | refine WO.skip rfl rfl ?_ | refine WO.skipu rfl ?_))
      refine WO.call rfl rfl (refRoom_ans S w7 (s := { s with b1 := wo s.b1 (s.b1.headD []) }) A7 (put_bd o.b 2 (Nat.le_trans (wo_len _ _) (o.b 2))) false) ?_
      rintro v h8 ⟨rfl, p8, lo8⟩
      have hfr : freshR s = roomR { s with b1 := wo s.b1 (s.b1.headD []) } false := by rw [freshR, if_pos hq1, if_pos hq2]
      (repeat (first | refine WO.ops (StepK.mv rfl) ?_ | refine WO.ops (StepK.lenSl rfl (by first | with_reducible assumption | rfl)) ?_ | refine WO.ops (StepK.fieldAddr rfl) ?_ | refine WO.ops (StepK.add rfl rfl (by omega)) ?_ | refine WO.ops (StepK.sub rfl rfl (by omega)) ?_ | refine WO.ops (StepK.bin rfl rfl rfl) ?_ | refine WO.ops (StepK.pickT rfl rfl) ?_ | refine WO.ops (StepK.pickF rfl rfl) ?_ | refine WO.ops (StepK.not rfl) ?_ | refine WO.ops (StepK.eq rfl rfl rfl) ?_ | refine WO.ops (StepK.extract rfl rfl) ?_ | refine WO.ops (StepK.build rfl rfl) ?_ | refine WO.ops (StepK.mkFn rfl rfl) ?_ | refine WO.ops (StepK.field rfl rfl) ?_ | refine WO.ops (StepK.lenStr rfl) ?_ | refine WO.ops (StepK.nilck rfl) ?_ | refine WO.ops (StepK.min2 rfl rfl) ?_ | refine WO.ops (StepK.max2 rfl rfl) ?_ | refine WO.ops (StepK.load1 rfl (by first | with_reducible assumption | rfl)) ?_ | refine WO.run rfl ?_ | refine WO.skip rfl rfl ?_ | refine WO.skipu rfl ?_))
      rw [hfr]
      refine WO.nil ⟨Cov.cons rfl (Cov.cons rfl (Cov.cons rfl (Cov.nil _))), APost.also hw c7 n7 p8, roomR_bd1 (s := { s with b1 := wo s.b1 (s.b1.headD []) }) (fun i => ?_) false 0⟩
      match i with
      | 0 => exact b0
      | 1 => exact b1
      | 2 => exact Nat.le_trans (wo_len _ _) b2
      | _ + 3 => exact b3
    · have hq2 := of_decide_eq_false hq2
      have hpos : 0 < s.t1.length := by omega
      obtain ⟨bb, oo, k1, q0⟩ := Sl.hd (ks := s.t1) m1.sl hpos
      refine WO.ops (StepK.mv rfl) ?_
      refine WO.ops (StepK.nilck rfl) ?_
      refine WO.ops (StepK.fieldAddr rfl) ?_
      refine WO.ops (StepK.load1 rfl t1) ?_
      refine WO.ops (StepK.idxSl rfl rfl k1) ?_
      refine WO.ops (StepK.load1 rfl q0) ?_
      refine WO.ops (StepK.mv rfl) (WO.nil (WC.ops ?_))
      have P := A.post g5
      have w1 := APost.wf P
      obtain ⟨F1, A1, c1, m1⟩ := P
      obtain ⟨cs1, x1, G1, lp1, pp1⟩ := A1.op w1 0 (by decide)
      have r1 : Heap.rd h5 a (0 + 0) = some x1 := lp1.rd
      (repeat (first | refine WO.ops (StepK.mv rfl) ?_ | refine WO.ops (StepK.lenSl rfl (by first | with_reducible assumption | rfl)) ?_ | refine WO.ops (StepK.fieldAddr rfl) ?_ | refine WO.ops (StepK.add rfl rfl (by omega)) ?_ | refine WO.ops (StepK.sub rfl rfl (by omega)) ?_ | refine WO.ops (StepK.bin rfl rfl rfl) ?_ | refine WO.ops (StepK.pickT rfl rfl) ?_ | refine WO.ops (StepK.pickF rfl rfl) ?_ | refine WO.ops (StepK.not rfl) ?_ | refine WO.ops (StepK.eq rfl rfl rfl) ?_ | refine WO.ops (StepK.extract rfl rfl) ?_ | refine WO.ops (StepK.build rfl rfl) ?_ | refine WO.ops (StepK.mkFn rfl rfl) ?_ | refine WO.ops (StepK.field rfl rfl) ?_ | refine WO.ops (StepK.lenStr rfl) ?_ | refine WO.ops (StepK.nilck rfl) ?_ | refine WO.ops (StepK.min2 rfl rfl) ?_ | refine WO.ops (StepK.max2 rfl rfl) ?_ | refine WO.ops (StepK.load1 rfl (by first | with_reducible assumption | rfl)) ?_ | refine WO.run rfl ?_ | refine WO.skip rfl rfl ?_ | refine WO.skipu rfl ?_))
      refine WO.call rfl rfl (without_ans S h5 w1 x1 _ (s.t1.headD []) lp1.sl ((o.b 0))) ?_
      rintro v1 hh1 ⟨F21, kl1, g1, cm1⟩
      obtain ⟨h1, q11, q21, lo1, _⟩ := lp1.store w1 kl1 (g1.chg _) (fun b hb => .inr ((cm1 b hb).resolve_left (by simp)))
      (repeat (first | refine WO.ops (StepK.mv rfl) ?_ | refine WO.ops (StepK.lenSl rfl (by first | with_reducible assumption | rfl)) ?_ | refine WO.ops (StepK.fieldAddr rfl) ?_ | refine WO.ops (StepK.add rfl rfl (by omega)) ?_ | refine WO.ops (StepK.sub rfl rfl (by omega)) ?_ | refine WO.ops (StepK.bin rfl rfl rfl) ?_ | refine WO.ops (StepK.pickT rfl rfl) ?_ | refine WO.ops (StepK.pickF rfl rfl) ?_ | refine WO.ops (StepK.not rfl) ?_ | refine WO.ops (StepK.eq rfl rfl rfl) ?_ | refine WO.ops (StepK.extract rfl rfl) ?_ | refine WO.ops (StepK.build rfl rfl) ?_ | refine WO.ops (StepK.mkFn rfl rfl) ?_ | refine WO.ops (StepK.field rfl rfl) ?_ | refine WO.ops (StepK.lenStr rfl) ?_ | refine WO.ops (StepK.nilck rfl) ?_ | refine WO.ops (StepK.min2 rfl rfl) ?_ | refine WO.ops (StepK.max2 rfl rfl) ?_ | refine WO.ops (StepK.load1 rfl (by first | with_reducible assumption | rfl)) ?_ | refine WO.run rfl ?_ | refine WO.skip rfl rfl ?_ | refine WO.skipu rfl ?_))
      refine WO.op (StepK.store rfl rfl (by rw [kl1.one.1]; rfl) q11) ?_
      have P1 := APost.also hw c1 m1 (pp1 _ _ q21)
      have hfr : freshR s = (s.t1.headD [], { s with t1 := wo s.t1 (s.t1.headD []) }) := by rw [freshR, if_pos hq1, if_neg hq2]
      rw [hfr]
      exact WO.nil ⟨Cov.cons rfl (Cov.cons rfl (Cov.cons rfl (Cov.nil _))), P1, Nat.le_trans (wo_len _ _) (o.b 0)⟩
  have hq1 := of_decide_eq_false hq1
  refine WO.ops (StepK.mv rfl) ?_
  refine WO.ops (StepK.mv rfl) ?_
  refine WO.ops (StepK.nilck rfl) ?_
  refine WO.ops (StepK.fieldAddr rfl) ?_
  refine WO.ops (StepK.load1 rfl rc) ?_
  (repeat (first | refine WO.ops (StepK.mv rfl) ?_ | refine WO.ops (StepK.lenSl rfl (by first | with_reducible assumption | rfl)) ?_ | refine WO.ops (StepK.fieldAddr rfl) ?_ | refine WO.ops (StepK.add rfl rfl (by omega)) ?_ | refine WO.ops (StepK.sub rfl rfl (by omega)) ?_ | refine WO.ops (StepK.bin rfl rfl rfl) ?_ | refine WO.ops (StepK.pickT rfl rfl) ?_ | refine WO.ops (StepK.pickF rfl rfl) ?_ | refine WO.ops (StepK.not rfl) ?_ | refine WO.ops (StepK.eq rfl rfl rfl) ?_ | refine WO.ops (StepK.extract rfl rfl) ?_ | refine WO.ops (StepK.build rfl rfl) ?_ | refine WO.ops (StepK.mkFn rfl rfl) ?_ | refine WO.ops (StepK.field rfl rfl) ?_ | refine WO.ops (StepK.lenStr rfl) ?_ | refine WO.ops (StepK.nilck rfl) ?_ | refine WO.ops (StepK.min2 rfl rfl) ?_ | refine WO.ops (StepK.max2 rfl rfl) ?_ | refine WO.ops (StepK.load1 rfl (by first | with_reducible assumption | rfl)) ?_ | refine WO.run rfl ?_ | refine WO.skip rfl rfl ?_ | refine WO.skipu rfl ?_))
  refine WO.nil (WC.cond rfl (fun hq2 => WC.seqM (M := fun e' h' => ∃ s', freshR s = roomR s' false ∧ Cov [(0, .ptr (some (a, 0))), (1, .str k)] e' ∧ APost h h' a F s' ∧ ∀ i, (s'.get i).length ≤ 50000) ?_ ?_) (fun hq2 => WC.skip ?_))
  rotate_left
  · rintro e8 h8 ⟨s', hfr, cv, p8, hb8⟩
    refine WC.cov cv (WC.ops ?_)
    have w8 := p8.wf
    obtain ⟨F8, A8, c8, n8⟩ := p8
    (repeat (first | refine WO.ops (StepK.mv rfl) ?_ | refine WO.ops (StepK.lenSl rfl (by first | with_reducible assumption | rfl)) ?_ | refine WO.ops (StepK.fieldAddr rfl) ?_ | refine WO.ops (StepK.add rfl rfl (by omega)) ?_ | refine WO.ops (StepK.sub rfl rfl (by omega)) ?_ | refine WO.ops (StepK.bin rfl rfl rfl) ?_ | refine WO.ops (StepK.pickT rfl rfl) ?_ | refine WO.ops (StepK.pickF rfl rfl) ?_ | refine WO.ops (StepK.not rfl) ?_ | refine WO.ops (StepK.eq rfl rfl rfl) ?_ | refine WO.ops (StepK.extract rfl rfl) ?_ | refine WO.ops (StepK.build rfl rfl) ?_ | refine WO.ops (StepK.mkFn rfl rfl) ?_ | refine WO.ops (StepK.field rfl rfl) ?_ | refine WO.ops (StepK.lenStr rfl) ?_ | refine WO.ops (StepK.nilck rfl) ?_ | refine WO.ops (StepK.min2 rfl rfl) ?_ | refine WO.ops (StepK.max2 rfl rfl) ?_ | refine WO.ops (StepK.load1 rfl (by first | with_reducible assumption | rfl)) ?_ | refine WO.run rfl ?_ | refine WO.skip rfl rfl ?_ | refine WO.skipu rfl ?_))
    refine WO.call rfl rfl (refRoom_ans S w8 A8 (fun i => by have := hb8 i; omega) false) ?_
    rintro v h9 ⟨rfl, p9, lo9⟩
    (repeat (first | refine WO.ops (StepK.mv rfl) ?_ | refine WO.ops (StepK.lenSl rfl (by first | with_reducible assumption | rfl)) ?_ | refine WO.ops (StepK.fieldAddr rfl) ?_ | refine WO.ops (StepK.add rfl rfl (by omega)) ?_ | refine WO.ops (StepK.sub rfl rfl (by omega)) ?_ | refine WO.ops (StepK.bin rfl rfl rfl) ?_ | refine WO.ops (StepK.pickT rfl rfl) ?_ | refine WO.ops (StepK.pickF rfl rfl) ?_ | refine WO.ops (StepK.not rfl) ?_ | refine WO.ops (StepK.eq rfl rfl rfl) ?_ | refine WO.ops (StepK.extract rfl rfl) ?_ | refine WO.ops (StepK.build rfl rfl) ?_ | refine WO.ops (StepK.mkFn rfl rfl) ?_ | refine WO.ops (StepK.field rfl rfl) ?_ | refine WO.ops (StepK.lenStr rfl) ?_ | refine WO.ops (StepK.nilck rfl) ?_ | refine WO.ops (StepK.min2 rfl rfl) ?_ | refine WO.ops (StepK.max2 rfl rfl) ?_ | refine WO.ops (StepK.load1 rfl (by first | with_reducible assumption | rfl)) ?_ | refine WO.run rfl ?_ | refine WO.skip rfl rfl ?_ | refine WO.skipu rfl ?_))
    rw [hfr]
    exact WO.nil ⟨Cov.cons rfl (Cov.cons rfl (Cov.cons rfl (Cov.nil _))), APost.also hw c8 n8 p9, roomR_bd1 hb8 false 0⟩
  · have hq2 := of_decide_eq_false hq2
    have hfr : freshR s = ([], s) := by rw [freshR, if_neg hq1, if_neg (by omega)]
    rw [hfr]
    exact ⟨Cov.cons rfl (Cov.cons rfl (Cov.cons rfl (Cov.nil _))), A.post g5, o.b 0⟩
  have hq2 := of_decide_eq_true hq2
  have hmul : binA .mul (iv 2) (iv s.c) = some (iv (2 * s.c)) := by
    simp only [binA, if_true]
    rw [StepK.wrap64 (by omega) (by omega)]
  refine WC.seqO ?_
  refine WO.ops (StepK.mv rfl) ?_
  refine WO.ops (StepK.mv rfl) ?_
  refine WO.ops (StepK.nilck rfl) ?_
  refine WO.ops (StepK.fieldAddr rfl) ?_
  refine WO.ops (StepK.load1 rfl rc) ?_
  refine WO.ops (StepK.bin rfl rfl hmul) ?_
  refine WO.ops (StepK.bin rfl rfl (eql_nn _ _)) ?_
  refine WO.nil (WC.cond rfl (fun hq3 => WC.draw ?_) (fun hq3 => WC.skip ?_))
  · have hq3 := of_decide_eq_true hq3
    have hpos : 0 < s.b2.length := by omega
    obtain ⟨bb, oo, k1, q0⟩ := Sl.hd (ks := s.b2) m4.sl hpos
    refine WD.pure (StepK.mv rfl) rfl ?_
    refine WD.pure (StepK.mv rfl) rfl ?_
    refine WD.pure (StepK.nilck rfl) rfl ?_
    refine WD.pure (StepK.fieldAddr rfl) rfl ?_
    refine WD.load1 rfl t4 ?_
    refine WD.pure (StepK.mv rfl) rfl ?_
    refine WD.pure (StepK.nilck rfl) rfl ?_
    refine WD.pure (StepK.fieldAddr rfl) rfl ?_
    refine WD.load1 rfl t4 ?_
    refine WD.pure (StepK.idxSl rfl rfl k1) rfl ?_
    refine WD.load1 rfl q0 ?_
    refine WD.call ⟨q0, t4, t4, trivial⟩ rfl rfl (without_ans S h5 g5.wf y4 s.b2 (s.b2.headD []) m4.sl (by omega)) ?_
    rintro v h6 ⟨F2, kl, g6, cm⟩
    obtain ⟨_, _, G', lp, pp⟩ := A5.op g5.wf 3 (by decide)
    obtain ⟨h7, w1, w2, lo7, w7⟩ := lp.store g5.wf kl (g6.chg _) (fun b hb => .inr ((cm b hb).resolve_left (by simp)))
    refine WD.pure (StepK.nilck rfl) rfl ?_
    refine WD.pure (StepK.fieldAddr rfl) rfl ?_
    refine WD.opC trivial rfl (StepK.store rfl rfl (by rw [kl.one.1]; rfl) w1) ?_
    have p7 := (pp _ _ w2).growl g5
    refine WD.nil trivial ⟨{ s with b2 := wo s.b2 (s.b2.headD []) }, ?_, Cov.cons rfl (Cov.cons rfl (Cov.nil _)), p7, fun i => ?_⟩
    · rw [freshR, if_neg hq1, if_pos (by omega), if_pos (by omega)]
    · match i with
      | 0 => exact b0
      | 1 => exact b1
      | 2 => exact b2
      | _ + 3 => exact Nat.le_trans (wo_len _ _) b3
  · have hq3 := of_decide_eq_false hq3
    refine ⟨s, ?_, Cov.cons rfl (Cov.cons rfl (Cov.nil _)), A.post g5, o.bd⟩
    rw [freshR, if_neg hq1, if_pos (by omega), if_neg (by omega)]
end
end Abs
end Go.Proofs.Ytnbljblnikdeiaa
