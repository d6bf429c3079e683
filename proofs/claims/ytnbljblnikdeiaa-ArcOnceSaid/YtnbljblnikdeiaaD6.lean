/- Layer 11: the cache's Ask; New. -/
import Derived.Test.YtnbljblnikdeiaaD5
namespace Go.Proofs.Ytnbljblnikdeiaa
namespace Abs
set_option linter.unusedVariables false
set_option linter.unusedSimpArgs false
set_option maxHeartbeats 3200000
open Go.RowKit
attribute [local irreducible] WO WC WD StepK Ans Does Runs DoesD

theorem dropS_ok {s : AS} (o : OkS s) (k : List Nat) : OkS (dropS s k) := by
  have h0 : s.t1.length ≤ 50000 := o.bd 0
  have h1 : s.t2.length ≤ 50000 := o.bd 1
  have h2 : s.b1.length ≤ 50000 := o.bd 2
  have h3 : s.b2.length ≤ 50000 := o.bd 3
  have e : ∀ l : List (List Nat), l.length ≤ 50000 → (l.erase k).length ≤ 50000 := fun l hl => Nat.le_trans List.length_erase_le hl
  unfold dropS
  split
  · exact ⟨fun i => by
      match i with
      | 0 => exact e _ h0
      | 1 => exact h1
      | 2 => exact h2
      | _ + 3 => exact h3, o.p, o.c⟩
  · split
    · exact ⟨fun i => by
        match i with
        | 0 => exact h0
        | 1 => exact e _ h1
        | 2 => exact h2
        | _ + 3 => exact h3, o.p, o.c⟩
    · split
      · exact ⟨fun i => by
          match i with
          | 0 => exact h0
          | 1 => exact h1
          | 2 => exact e _ h2
          | _ + 3 => exact h3, o.p, o.c⟩
      · split
        · exact ⟨fun i => by
            match i with
            | 0 => exact h0
            | 1 => exact h1
            | 2 => exact h2
            | _ + 3 => exact e _ h3, o.p, o.c⟩
        · exact o
theorem roomS_bd1 {s : AS} (o : ∀ i, (s.get i).length ≤ 50000) (b : Bool) (i : Nat) : ((roomS s b).2.get i).length ≤ 100000 :=
  roomS_bd (fun i => by have := o i; omega) (fun i => by have := o i; omega) b i
theorem freshS_bd {s : AS} (o : OkS s) (i : Nat) : ((freshS s).2.get i).length ≤ 100000 := by
  have h0 : s.t1.length ≤ 50000 := o.bd 0
  have h1 : s.t2.length ≤ 50000 := o.bd 1
  have h2 : s.b1.length ≤ 50000 := o.bd 2
  have h3 : s.b2.length ≤ 50000 := o.bd 3
  unfold freshS
  split
  · match i with
    | 0 => simp only [AS.get, List.length_tail]; omega
    | 1 => simp only [AS.get]; omega
    | 2 => simp only [AS.get]; omega
    | _ + 3 => simp only [AS.get]; omega
  · split
    · refine roomS_bd1 (fun i => ?_) false i
      match i with
      | 0 => exact h0
      | 1 => exact h1
      | 2 => simp only [AS.get, List.length_tail]; omega
      | _ + 3 => exact h3
    · split
      · exact Nat.le_trans (o.bd i) (by omega)
      · split
        · refine roomS_bd1 (fun i => ?_) false i
          match i with
          | 0 => exact h0
          | 1 => exact h1
          | 2 => exact h2
          | _ + 3 => simp only [AS.get, List.length_tail]; omega
        · exact roomS_bd1 o.bd false i
theorem quo_nn {x y : Nat} (hx : x ≠ 0) (hy : y ≤ 1000000) : binA .quo (iv y) (iv x) = some (iv ((y / x : Nat) : Int)) := by
  simp only [binA]
  rw [if_pos ⟨trivial, by omega⟩, ← Int.ofNat_tdiv]
  have := Nat.div_le_self y x
  generalize y / x = q at *
  rw [StepK.wrap64 (by omega) (by omega)]

theorem APost.then {h h1 h2 : Heap} {a : Nat} {s s' : AS} {F F1 : List Nat} (hw : Wf h) (c : Chg F h h1) (m : Comes h F F1) (p : APost h1 h2 a F1 s') : APost h h2 a F s' := by
  obtain ⟨F2, w1, w2, w3⟩ := p
  exact ⟨F2, w1, c.trans w2 hw m, m.trans w3 c.size⟩

variable {C : Cfg} (S : Std C)
include S
section
variable {h : Heap} (hw : Wf h) {a : Nat} {s : AS} {F : List Nat} (A : ArcAt h a s F)
include hw A

theorem ask_ans (o : OkS s) (k : List Nat) : Ans C 12 [.ptr (some (a, 0)), .str k] h fun v h' => v = .tuple [.bool (askF s k).1, .str (askF s k).2.1] ∧ APost h h' a F (askF s k).2.2 := by
  have hF : C.F 12 = some a12 := S.f rfl
  unfold a12 at hF
  refine Ans.fnM (fun _ _ => S.s _ _ _ (by decide)) hF rfl rfl hw fun h2 g0 hsz hge => ?_
  clear hF
  have hb := o.b
  have A2 := A.grow g0
  have ha := A.at_lt hw
  have l0 : s.t1.length ≤ 50000 := o.bd 0
  have l1 : s.t2.length ≤ 50000 := o.bd 1
  have l2 : s.b1.length ≤ 50000 := o.bd 2
  have l3 : s.b2.length ≤ 50000 := o.bd 3
  have oc := o.c
  have op := o.p
  have e2 : s.get 2 = s.b1 := rfl
  have e3 : s.get 3 = s.b2 := rfl
  have hke : binA .eql (.str k) (.str []) = some (.bool (decide (k = []))) := by
    simp only [binA]
    congr 2
    rw [Bool.eq_iff_iff, beqL_iff]; simp
  refine WC.seqO ?_
  (repeat (first | refine WO.ops (StepK.mv rfl) ?_ | refine WO.ops (StepK.lenSl rfl (by first | with_reducible assumption | rfl)) ?_ | refine WO.ops (StepK.fieldAddr rfl) ?_ | refine WO.ops (StepK.add rfl rfl (by omega)) ?_ | refine WO.ops (StepK.sub rfl rfl (by omega)) ?_ | refine WO.ops (StepK.bin rfl rfl rfl) ?_ | refine WO.ops (StepK.pickT rfl rfl) ?_ | refine WO.ops (StepK.pickF rfl rfl) ?_ | refine WO.ops (StepK.not rfl) ?_ | refine WO.ops (StepK.eq rfl rfl rfl) ?_ | refine WO.ops (StepK.extract rfl rfl) ?_ | refine WO.ops (StepK.build rfl rfl) ?_ | refine WO.ops (StepK.mkFn rfl rfl) ?_ | refine WO.ops (StepK.field rfl rfl) ?_ | refine WO.ops (StepK.lenStr rfl) ?_ | refine WO.ops (StepK.nilck rfl) ?_ | refine WO.ops (StepK.min2 rfl rfl) ?_ | refine WO.ops (StepK.max2 rfl rfl) ?_ | refine WO.ops (StepK.load1 rfl (by first | with_reducible assumption | rfl)) ?_ | refine WO.run rfl ?_ | refine WO.skip rfl rfl ?_ | refine WO.skipu rfl ?_))
  refine WO.nil (WC.seq (WC.seqO ?_))
  refine WO.ops (StepK.mv rfl) ?_
  refine WO.ops (StepK.eq (t := false) rfl rfl rfl) ?_
  refine WO.ops (StepK.mv rfl) ?_
  refine WO.run rfl (WO.ops (StepK.mv rfl) ?_)
  refine WO.run rfl (WO.ops (StepK.bin rfl rfl hke) ?_)
  (repeat (first | refine WO.ops (StepK.mv rfl) ?_ | refine WO.ops (StepK.lenSl rfl (by first | with_reducible assumption | rfl)) ?_ | refine WO.ops (StepK.fieldAddr rfl) ?_ | refine WO.ops (StepK.add rfl rfl (by omega)) ?_ | refine WO.ops (StepK.sub rfl rfl (by omega)) ?_ | refine WO.ops (StepK.bin rfl rfl rfl) ?_ | refine WO.ops (StepK.pickT rfl rfl) ?_ | refine WO.ops (StepK.pickF rfl rfl) ?_ | refine WO.ops (StepK.not rfl) ?_ | refine WO.ops (StepK.eq rfl rfl rfl) ?_ | refine WO.ops (StepK.extract rfl rfl) ?_ | refine WO.ops (StepK.build rfl rfl) ?_ | refine WO.ops (StepK.mkFn rfl rfl) ?_ | refine WO.ops (StepK.field rfl rfl) ?_ | refine WO.ops (StepK.lenStr rfl) ?_ | refine WO.ops (StepK.nilck rfl) ?_ | refine WO.ops (StepK.min2 rfl rfl) ?_ | refine WO.ops (StepK.max2 rfl rfl) ?_ | refine WO.ops (StepK.load1 rfl (by first | with_reducible assumption | rfl)) ?_ | refine WO.run rfl ?_ | refine WO.skip rfl rfl ?_ | refine WO.skipu rfl ?_))
  refine WO.nil (WC.cond rfl (fun hc => WC.seqO ?_) (fun hc => WC.skip (WC.seqD ?_)))
  · have hc := of_decide_eq_true hc
    have hf : askF s k = (false, [], s) := by rw [askF, if_pos hc]
    (repeat (first | refine WO.ops (StepK.mv rfl) ?_ | refine WO.ops (StepK.lenSl rfl (by first | with_reducible assumption | rfl)) ?_ | refine WO.ops (StepK.fieldAddr rfl) ?_ | refine WO.ops (StepK.add rfl rfl (by omega)) ?_ | refine WO.ops (StepK.sub rfl rfl (by omega)) ?_ | refine WO.ops (StepK.bin rfl rfl rfl) ?_ | refine WO.ops (StepK.pickT rfl rfl) ?_ | refine WO.ops (StepK.pickF rfl rfl) ?_ | refine WO.ops (StepK.not rfl) ?_ | refine WO.ops (StepK.eq rfl rfl rfl) ?_ | refine WO.ops (StepK.extract rfl rfl) ?_ | refine WO.ops (StepK.build rfl rfl) ?_ | refine WO.ops (StepK.mkFn rfl rfl) ?_ | refine WO.ops (StepK.field rfl rfl) ?_ | refine WO.ops (StepK.lenStr rfl) ?_ | refine WO.ops (StepK.nilck rfl) ?_ | refine WO.ops (StepK.min2 rfl rfl) ?_ | refine WO.ops (StepK.max2 rfl rfl) ?_ | refine WO.ops (StepK.load1 rfl (by first | with_reducible assumption | rfl)) ?_ | refine WO.run rfl ?_ | refine WO.skip rfl rfl ?_ | refine WO.skipu rfl ?_))
    rw [hf]
    exact WO.nil (WC.ret ⟨trivial, _, rfl, fun n hn => ⟨rfl, (A.post g0).low n⟩, fun _ _ => ⟨rfl, A.post (Grow.refl hw)⟩⟩)
  have hc := of_decide_eq_false hc
  have hf : askF s k = askS s k := by rw [askF, if_neg hc]
  rw [hf]
  clear hf
  (repeat (first | refine WD.pure (StepK.mv rfl) rfl ?_ | refine WD.pure (StepK.lenSl rfl (by first | with_reducible assumption | rfl)) rfl ?_ | refine WD.pure (StepK.fieldAddr rfl) rfl ?_ | refine WD.pure (StepK.add rfl rfl (by omega)) rfl ?_ | refine WD.pure (StepK.sub rfl rfl (by omega)) rfl ?_ | refine WD.pure (StepK.bin rfl rfl rfl) rfl ?_ | refine WD.pure (StepK.pickT rfl rfl) rfl ?_ | refine WD.pure (StepK.pickF rfl rfl) rfl ?_ | refine WD.pure (StepK.not rfl) rfl ?_ | refine WD.pure (StepK.eq rfl rfl rfl) rfl ?_ | refine WD.pure (StepK.extract rfl rfl) rfl ?_ | refine WD.pure (StepK.build rfl rfl) rfl ?_ | refine WD.pure (StepK.mkFn rfl rfl) rfl ?_ | refine WD.pure (StepK.field rfl rfl) rfl ?_ | refine WD.pure (StepK.lenStr rfl) rfl ?_ | refine WD.pure (StepK.nilck rfl) rfl ?_ | refine WD.pure (StepK.min2 rfl rfl) rfl ?_ | refine WD.pure (StepK.max2 rfl rfl) rfl ?_ | refine WD.load1 rfl (by first | with_reducible assumption | rfl) ?_ | refine WD.run rfl ?_ | refine WD.skipn rfl rfl rfl ?_ | refine WD.skipun rfl rfl ?_))
  refine WD.call trivial rfl rfl (lenA S g0.wf A2 2 (by decide)) ?_
  rintro v h3 ⟨rfl, g3⟩
  have A3 := A2.grow g3
  have g3 := g0.trans g3
  refine WD.call trivial rfl rfl (lenA S g3.wf A3 3 (by decide)) ?_
  rintro v h4 ⟨rfl, g4⟩
  have A4 := A3.grow g4
  have g4 := g3.trans g4
  rw [e2, e3]
  (repeat (first | refine WD.pure (StepK.mv rfl) rfl ?_ | refine WD.pure (StepK.lenSl rfl (by first | with_reducible assumption | rfl)) rfl ?_ | refine WD.pure (StepK.fieldAddr rfl) rfl ?_ | refine WD.pure (StepK.add rfl rfl (by omega)) rfl ?_ | refine WD.pure (StepK.sub rfl rfl (by omega)) rfl ?_ | refine WD.pure (StepK.bin rfl rfl rfl) rfl ?_ | refine WD.pure (StepK.pickT rfl rfl) rfl ?_ | refine WD.pure (StepK.pickF rfl rfl) rfl ?_ | refine WD.pure (StepK.not rfl) rfl ?_ | refine WD.pure (StepK.eq rfl rfl rfl) rfl ?_ | refine WD.pure (StepK.extract rfl rfl) rfl ?_ | refine WD.pure (StepK.build rfl rfl) rfl ?_ | refine WD.pure (StepK.mkFn rfl rfl) rfl ?_ | refine WD.pure (StepK.field rfl rfl) rfl ?_ | refine WD.pure (StepK.lenStr rfl) rfl ?_ | refine WD.pure (StepK.nilck rfl) rfl ?_ | refine WD.pure (StepK.min2 rfl rfl) rfl ?_ | refine WD.pure (StepK.max2 rfl rfl) rfl ?_ | refine WD.load1 rfl (by first | with_reducible assumption | rfl) ?_ | refine WD.run rfl ?_ | refine WD.skipn rfl rfl rfl ?_ | refine WD.skipun rfl rfl ?_))
  refine WD.nil trivial (WC.seqO ?_)
  (repeat (first | refine WO.ops (StepK.mv rfl) ?_ | refine WO.ops (StepK.lenSl rfl (by first | with_reducible assumption | rfl)) ?_ | refine WO.ops (StepK.fieldAddr rfl) ?_ | refine WO.ops (StepK.add rfl rfl (by omega)) ?_ | refine WO.ops (StepK.sub rfl rfl (by omega)) ?_ | refine WO.ops (StepK.bin rfl rfl rfl) ?_ | refine WO.ops (StepK.pickT rfl rfl) ?_ | refine WO.ops (StepK.pickF rfl rfl) ?_ | refine WO.ops (StepK.not rfl) ?_ | refine WO.ops (StepK.eq rfl rfl rfl) ?_ | refine WO.ops (StepK.extract rfl rfl) ?_ | refine WO.ops (StepK.build rfl rfl) ?_ | refine WO.ops (StepK.mkFn rfl rfl) ?_ | refine WO.ops (StepK.field rfl rfl) ?_ | refine WO.ops (StepK.lenStr rfl) ?_ | refine WO.ops (StepK.nilck rfl) ?_ | refine WO.ops (StepK.min2 rfl rfl) ?_ | refine WO.ops (StepK.max2 rfl rfl) ?_ | refine WO.ops (StepK.load1 rfl (by first | with_reducible assumption | rfl)) ?_ | refine WO.run rfl ?_ | refine WO.skip rfl rfl ?_ | refine WO.skipu rfl ?_))
  refine WO.nil ?_
  -- what is behind the block: the key goes to those that are asked often
  have hs1 := dropS_ok o k
  generalize hsd : dropS s k = s1 at *
  have m0 : s1.t1.length ≤ 50000 := hs1.bd 0
  have m1 : s1.t2.length ≤ 50000 := hs1.bd 1
  have m2 : s1.b1.length ≤ 50000 := hs1.bd 2
  have m3 : s1.b2.length ≤ 50000 := hs1.bd 3
  refine WC.seqM (M := fun e' h' => ∃ k2 s', Cov [(0, .ptr (some (a, 0))), (1, .str k), (8, .str k2)] e' ∧ APost h h' a F s' ∧ s'.t2.length ≤ 100000 ∧ askS s k = (false, k2, { s' with t2 := s'.t2 ++ [k] })) ?_ ?_
  rotate_left
  · rintro e7 h7 ⟨k2, s', cv, p7, hl7, hfs⟩
    refine WC.cov cv (WC.seqO ?_)
    have w7 := p7.wf
    obtain ⟨F7, A7, c7, n7⟩ := p7
    (repeat (first | refine WO.ops (StepK.mv rfl) ?_ | refine WO.ops (StepK.lenSl rfl (by first | with_reducible assumption | rfl)) ?_ | refine WO.ops (StepK.fieldAddr rfl) ?_ | refine WO.ops (StepK.add rfl rfl (by omega)) ?_ | refine WO.ops (StepK.sub rfl rfl (by omega)) ?_ | refine WO.ops (StepK.bin rfl rfl rfl) ?_ | refine WO.ops (StepK.pickT rfl rfl) ?_ | refine WO.ops (StepK.pickF rfl rfl) ?_ | refine WO.ops (StepK.not rfl) ?_ | refine WO.ops (StepK.eq rfl rfl rfl) ?_ | refine WO.ops (StepK.extract rfl rfl) ?_ | refine WO.ops (StepK.build rfl rfl) ?_ | refine WO.ops (StepK.mkFn rfl rfl) ?_ | refine WO.ops (StepK.field rfl rfl) ?_ | refine WO.ops (StepK.lenStr rfl) ?_ | refine WO.ops (StepK.nilck rfl) ?_ | refine WO.ops (StepK.min2 rfl rfl) ?_ | refine WO.ops (StepK.max2 rfl rfl) ?_ | refine WO.ops (StepK.load1 rfl (by first | with_reducible assumption | rfl)) ?_ | refine WO.run rfl ?_ | refine WO.skip rfl rfl ?_ | refine WO.skipu rfl ?_))
    refine WO.call rfl rfl (addA S w7 A7 1 (by decide) k hl7) ?_
    rintro v h8 ⟨rfl, p8, lo8⟩
    refine WO.nil (WC.seqO ?_)
    (repeat (first | refine WO.ops (StepK.mv rfl) ?_ | refine WO.ops (StepK.lenSl rfl (by first | with_reducible assumption | rfl)) ?_ | refine WO.ops (StepK.fieldAddr rfl) ?_ | refine WO.ops (StepK.add rfl rfl (by omega)) ?_ | refine WO.ops (StepK.sub rfl rfl (by omega)) ?_ | refine WO.ops (StepK.bin rfl rfl rfl) ?_ | refine WO.ops (StepK.pickT rfl rfl) ?_ | refine WO.ops (StepK.pickF rfl rfl) ?_ | refine WO.ops (StepK.not rfl) ?_ | refine WO.ops (StepK.eq rfl rfl rfl) ?_ | refine WO.ops (StepK.extract rfl rfl) ?_ | refine WO.ops (StepK.build rfl rfl) ?_ | refine WO.ops (StepK.mkFn rfl rfl) ?_ | refine WO.ops (StepK.field rfl rfl) ?_ | refine WO.ops (StepK.lenStr rfl) ?_ | refine WO.ops (StepK.nilck rfl) ?_ | refine WO.ops (StepK.min2 rfl rfl) ?_ | refine WO.ops (StepK.max2 rfl rfl) ?_ | refine WO.ops (StepK.load1 rfl (by first | with_reducible assumption | rfl)) ?_ | refine WO.run rfl ?_ | refine WO.skip rfl rfl ?_ | refine WO.skipu rfl ?_))
    have p8 := APost.then (s := s') hw c7 n7 p8
    rw [hfs]
    exact WO.nil (WC.ret ⟨trivial, _, rfl, fun n hn => ⟨rfl, p8.low n⟩, fun hc2 _ => by omega⟩)
  refine WC.block (WC.seqO ?_)
  (repeat (first | refine WO.ops (StepK.mv rfl) ?_ | refine WO.ops (StepK.lenSl rfl (by first | with_reducible assumption | rfl)) ?_ | refine WO.ops (StepK.fieldAddr rfl) ?_ | refine WO.ops (StepK.add rfl rfl (by omega)) ?_ | refine WO.ops (StepK.sub rfl rfl (by omega)) ?_ | refine WO.ops (StepK.bin rfl rfl rfl) ?_ | refine WO.ops (StepK.pickT rfl rfl) ?_ | refine WO.ops (StepK.pickF rfl rfl) ?_ | refine WO.ops (StepK.not rfl) ?_ | refine WO.ops (StepK.eq rfl rfl rfl) ?_ | refine WO.ops (StepK.extract rfl rfl) ?_ | refine WO.ops (StepK.build rfl rfl) ?_ | refine WO.ops (StepK.mkFn rfl rfl) ?_ | refine WO.ops (StepK.field rfl rfl) ?_ | refine WO.ops (StepK.lenStr rfl) ?_ | refine WO.ops (StepK.nilck rfl) ?_ | refine WO.ops (StepK.min2 rfl rfl) ?_ | refine WO.ops (StepK.max2 rfl rfl) ?_ | refine WO.ops (StepK.load1 rfl (by first | with_reducible assumption | rfl)) ?_ | refine WO.run rfl ?_ | refine WO.skip rfl rfl ?_ | refine WO.skipu rfl ?_))
  refine WO.call rfl rfl (dropArc S g4.wf A4 hb k) ?_
  rw [hsd]
  rintro v h5 ⟨rfl, p5, lo5⟩
  have w5 := p5.wf
  have p5 := p5.growl g4
  obtain ⟨F5, A5, c5, n5⟩ := p5
  (repeat (first | refine WO.ops (StepK.mv rfl) ?_ | refine WO.ops (StepK.lenSl rfl (by first | with_reducible assumption | rfl)) ?_ | refine WO.ops (StepK.fieldAddr rfl) ?_ | refine WO.ops (StepK.add rfl rfl (by omega)) ?_ | refine WO.ops (StepK.sub rfl rfl (by omega)) ?_ | refine WO.ops (StepK.bin rfl rfl rfl) ?_ | refine WO.ops (StepK.pickT rfl rfl) ?_ | refine WO.ops (StepK.pickF rfl rfl) ?_ | refine WO.ops (StepK.not rfl) ?_ | refine WO.ops (StepK.eq rfl rfl rfl) ?_ | refine WO.ops (StepK.extract rfl rfl) ?_ | refine WO.ops (StepK.build rfl rfl) ?_ | refine WO.ops (StepK.mkFn rfl rfl) ?_ | refine WO.ops (StepK.field rfl rfl) ?_ | refine WO.ops (StepK.lenStr rfl) ?_ | refine WO.ops (StepK.nilck rfl) ?_ | refine WO.ops (StepK.min2 rfl rfl) ?_ | refine WO.ops (StepK.max2 rfl rfl) ?_ | refine WO.ops (StepK.load1 rfl (by first | with_reducible assumption | rfl)) ?_ | refine WO.run rfl ?_ | refine WO.skip rfl rfl ?_ | refine WO.skipu rfl ?_))
  refine WO.nil (WC.cond rfl (fun hc1 => WC.seqO ?_) (fun hc1 => WC.seqO ?_))
  · have hfs : askS s k = (true, [], { s1 with t2 := s1.t2 ++ [k] }) := by simp only [askS, hsd]; rw [if_pos hc1]
    (repeat (first | refine WO.ops (StepK.mv rfl) ?_ | refine WO.ops (StepK.lenSl rfl (by first | with_reducible assumption | rfl)) ?_ | refine WO.ops (StepK.fieldAddr rfl) ?_ | refine WO.ops (StepK.add rfl rfl (by omega)) ?_ | refine WO.ops (StepK.sub rfl rfl (by omega)) ?_ | refine WO.ops (StepK.bin rfl rfl rfl) ?_ | refine WO.ops (StepK.pickT rfl rfl) ?_ | refine WO.ops (StepK.pickF rfl rfl) ?_ | refine WO.ops (StepK.not rfl) ?_ | refine WO.ops (StepK.eq rfl rfl rfl) ?_ | refine WO.ops (StepK.extract rfl rfl) ?_ | refine WO.ops (StepK.build rfl rfl) ?_ | refine WO.ops (StepK.mkFn rfl rfl) ?_ | refine WO.ops (StepK.field rfl rfl) ?_ | refine WO.ops (StepK.lenStr rfl) ?_ | refine WO.ops (StepK.nilck rfl) ?_ | refine WO.ops (StepK.min2 rfl rfl) ?_ | refine WO.ops (StepK.max2 rfl rfl) ?_ | refine WO.ops (StepK.load1 rfl (by first | with_reducible assumption | rfl)) ?_ | refine WO.run rfl ?_ | refine WO.skip rfl rfl ?_ | refine WO.skipu rfl ?_))
    refine WO.call rfl rfl (addA S w5 A5 1 (by decide) k (by have : (s1.get 1).length = s1.t2.length := rfl; omega)) ?_
    rintro v h6 ⟨rfl, p6, lo6⟩
    refine WO.nil (WC.seqO ?_)
    (repeat (first | refine WO.ops (StepK.mv rfl) ?_ | refine WO.ops (StepK.lenSl rfl (by first | with_reducible assumption | rfl)) ?_ | refine WO.ops (StepK.fieldAddr rfl) ?_ | refine WO.ops (StepK.add rfl rfl (by omega)) ?_ | refine WO.ops (StepK.sub rfl rfl (by omega)) ?_ | refine WO.ops (StepK.bin rfl rfl rfl) ?_ | refine WO.ops (StepK.pickT rfl rfl) ?_ | refine WO.ops (StepK.pickF rfl rfl) ?_ | refine WO.ops (StepK.not rfl) ?_ | refine WO.ops (StepK.eq rfl rfl rfl) ?_ | refine WO.ops (StepK.extract rfl rfl) ?_ | refine WO.ops (StepK.build rfl rfl) ?_ | refine WO.ops (StepK.mkFn rfl rfl) ?_ | refine WO.ops (StepK.field rfl rfl) ?_ | refine WO.ops (StepK.lenStr rfl) ?_ | refine WO.ops (StepK.nilck rfl) ?_ | refine WO.ops (StepK.min2 rfl rfl) ?_ | refine WO.ops (StepK.max2 rfl rfl) ?_ | refine WO.ops (StepK.load1 rfl (by first | with_reducible assumption | rfl)) ?_ | refine WO.run rfl ?_ | refine WO.skip rfl rfl ?_ | refine WO.skipu rfl ?_))
    have p6 := APost.then (s := s1) hw c5 n5 p6
    rw [hfs]
    exact WO.nil (WC.ret ⟨trivial, _, rfl, fun n hn => ⟨rfl, p6.low n⟩, fun hc2 _ => by omega⟩)
  refine WO.ops (StepK.mv rfl) ?_
  refine WO.ops (StepK.mv rfl) ?_
  refine WO.ops (StepK.nilck rfl) ?_
  refine WO.ops (StepK.fieldAddr rfl) ?_
  refine WO.call rfl rfl (lenA S w5 A5 2 (by decide)) ?_
  rintro v h6 ⟨rfl, g6⟩
  have A6 := A5.grow g6
  have w6 := g6.wf
  have c6 := c5.growr g6
  have f2 : s1.get 2 = s1.b1 := rfl
  have f3 : s1.get 3 = s1.b2 := rfl
  rw [f2]
  (repeat (first | refine WO.ops (StepK.mv rfl) ?_ | refine WO.ops (StepK.lenSl rfl (by first | with_reducible assumption | rfl)) ?_ | refine WO.ops (StepK.fieldAddr rfl) ?_ | refine WO.ops (StepK.add rfl rfl (by omega)) ?_ | refine WO.ops (StepK.sub rfl rfl (by omega)) ?_ | refine WO.ops (StepK.bin rfl rfl rfl) ?_ | refine WO.ops (StepK.pickT rfl rfl) ?_ | refine WO.ops (StepK.pickF rfl rfl) ?_ | refine WO.ops (StepK.not rfl) ?_ | refine WO.ops (StepK.eq rfl rfl rfl) ?_ | refine WO.ops (StepK.extract rfl rfl) ?_ | refine WO.ops (StepK.build rfl rfl) ?_ | refine WO.ops (StepK.mkFn rfl rfl) ?_ | refine WO.ops (StepK.field rfl rfl) ?_ | refine WO.ops (StepK.lenStr rfl) ?_ | refine WO.ops (StepK.nilck rfl) ?_ | refine WO.ops (StepK.min2 rfl rfl) ?_ | refine WO.ops (StepK.max2 rfl rfl) ?_ | refine WO.ops (StepK.load1 rfl (by first | with_reducible assumption | rfl)) ?_ | refine WO.run rfl ?_ | refine WO.skip rfl rfl ?_ | refine WO.skipu rfl ?_))
  refine WO.nil (WC.cond rfl (fun hc2 => WC.seqD ?_) (fun hc2 => WC.seqO ?_))
  · have hc2 := of_decide_eq_true hc2
    have hx : s.b1.length ≠ 0 := by omega
    have rc := A6.rdc
    have rp := A6.rdp
    obtain ⟨h7, w7, p7, lo7⟩ := A6.setp w6 (upS s1 s.b1.length s.b2.length).p
    have hq : s.b2.length / s.b1.length ≤ s.b2.length := Nat.div_le_self _ _
    have q1 := hs1.p
    have q2 := hs1.c
    refine WD.pure (StepK.mv rfl) rfl ?_
    refine WD.pure (StepK.mv rfl) rfl ?_
    refine WD.pure (StepK.nilck rfl) rfl ?_
    refine WD.pure (StepK.fieldAddr rfl) rfl ?_
    refine WD.load1 rfl rc ?_
    refine WD.pure (StepK.mv rfl) rfl ?_
    refine WD.pure (StepK.nilck rfl) rfl ?_
    refine WD.pure (StepK.fieldAddr rfl) rfl ?_
    refine WD.load1 rfl rp ?_
    refine WD.pure (StepK.mv rfl) rfl ?_
    refine WD.pure (StepK.mv rfl) rfl ?_
    refine WD.pure (StepK.bin rfl rfl (quo_nn hx (by omega))) rfl ?_
    refine WD.pure (StepK.max2 rfl rfl) rfl ?_
    refine WD.pure (StepK.add rfl rfl (by split <;> omega)) rfl ?_
    refine WD.pure (StepK.min2 rfl rfl) rfl ?_
    refine WD.pure (StepK.nilck rfl) rfl ?_
    refine WD.pure (StepK.fieldAddr rfl) rfl ?_
    refine WD.opC ⟨rp, rc, trivial⟩ rfl (StepK.store rfl rfl rfl w7) ?_
    refine WD.nil trivial (WC.ops ?_)
    have w7' := p7.wf
    obtain ⟨F7, A7, c7, n7⟩ := p7
    have b7 : Bd (upS s1 s.b1.length s.b2.length) := fun i => hs1.b i
    (repeat (first | refine WO.ops (StepK.mv rfl) ?_ | refine WO.ops (StepK.lenSl rfl (by first | with_reducible assumption | rfl)) ?_ | refine WO.ops (StepK.fieldAddr rfl) ?_ | refine WO.ops (StepK.add rfl rfl (by omega)) ?_ | refine WO.ops (StepK.sub rfl rfl (by omega)) ?_ | refine WO.ops (StepK.bin rfl rfl rfl) ?_ | refine WO.ops (StepK.pickT rfl rfl) ?_ | refine WO.ops (StepK.pickF rfl rfl) ?_ | refine WO.ops (StepK.not rfl) ?_ | refine WO.ops (StepK.eq rfl rfl rfl) ?_ | refine WO.ops (StepK.extract rfl rfl) ?_ | refine WO.ops (StepK.build rfl rfl) ?_ | refine WO.ops (StepK.mkFn rfl rfl) ?_ | refine WO.ops (StepK.field rfl rfl) ?_ | refine WO.ops (StepK.lenStr rfl) ?_ | refine WO.ops (StepK.nilck rfl) ?_ | refine WO.ops (StepK.min2 rfl rfl) ?_ | refine WO.ops (StepK.max2 rfl rfl) ?_ | refine WO.ops (StepK.load1 rfl (by first | with_reducible assumption | rfl)) ?_ | refine WO.run rfl ?_ | refine WO.skip rfl rfl ?_ | refine WO.skipu rfl ?_))
    refine WO.call rfl rfl (room_ans S w7' (s := upS s1 s.b1.length s.b2.length) A7 b7 false) ?_
    rintro v h8 ⟨rfl, p8, lo8⟩
    (repeat (first | refine WO.ops (StepK.mv rfl) ?_ | refine WO.ops (StepK.lenSl rfl (by first | with_reducible assumption | rfl)) ?_ | refine WO.ops (StepK.fieldAddr rfl) ?_ | refine WO.ops (StepK.add rfl rfl (by omega)) ?_ | refine WO.ops (StepK.sub rfl rfl (by omega)) ?_ | refine WO.ops (StepK.bin rfl rfl rfl) ?_ | refine WO.ops (StepK.pickT rfl rfl) ?_ | refine WO.ops (StepK.pickF rfl rfl) ?_ | refine WO.ops (StepK.not rfl) ?_ | refine WO.ops (StepK.eq rfl rfl rfl) ?_ | refine WO.ops (StepK.extract rfl rfl) ?_ | refine WO.ops (StepK.build rfl rfl) ?_ | refine WO.ops (StepK.mkFn rfl rfl) ?_ | refine WO.ops (StepK.field rfl rfl) ?_ | refine WO.ops (StepK.lenStr rfl) ?_ | refine WO.ops (StepK.nilck rfl) ?_ | refine WO.ops (StepK.min2 rfl rfl) ?_ | refine WO.ops (StepK.max2 rfl rfl) ?_ | refine WO.ops (StepK.load1 rfl (by first | with_reducible assumption | rfl)) ?_ | refine WO.run rfl ?_ | refine WO.skip rfl rfl ?_ | refine WO.skipu rfl ?_))
    refine WO.nil ⟨_, (roomS (upS s1 s.b1.length s.b2.length) false).2, Cov.cons rfl (Cov.cons rfl (Cov.cons rfl (Cov.nil _))), ?_, roomS_bd1 (s := upS s1 s.b1.length s.b2.length) (fun i => hs1.bd i) false 1, ?_⟩
    · exact APost.then (s := s1) hw (c6.trans c7 hw n5) (n5.trans n7 c6.size) p8
    · simp only [askS, hsd]
      rw [if_neg (by rw [hc1]; decide), if_pos (by omega)]
  have hc2 := of_decide_eq_false hc2
  refine WO.ops (StepK.mv rfl) ?_
  refine WO.ops (StepK.mv rfl) ?_
  refine WO.ops (StepK.nilck rfl) ?_
  refine WO.ops (StepK.fieldAddr rfl) ?_
  refine WO.call rfl rfl (lenA S w6 A6 3 (by decide)) ?_
  rintro v h7 ⟨rfl, g7⟩
  have A7 := A6.grow g7
  have w7 := g7.wf
  have c7 := c6.growr g7
  rw [f3]
  (repeat (first | refine WO.ops (StepK.mv rfl) ?_ | refine WO.ops (StepK.lenSl rfl (by first | with_reducible assumption | rfl)) ?_ | refine WO.ops (StepK.fieldAddr rfl) ?_ | refine WO.ops (StepK.add rfl rfl (by omega)) ?_ | refine WO.ops (StepK.sub rfl rfl (by omega)) ?_ | refine WO.ops (StepK.bin rfl rfl rfl) ?_ | refine WO.ops (StepK.pickT rfl rfl) ?_ | refine WO.ops (StepK.pickF rfl rfl) ?_ | refine WO.ops (StepK.not rfl) ?_ | refine WO.ops (StepK.eq rfl rfl rfl) ?_ | refine WO.ops (StepK.extract rfl rfl) ?_ | refine WO.ops (StepK.build rfl rfl) ?_ | refine WO.ops (StepK.mkFn rfl rfl) ?_ | refine WO.ops (StepK.field rfl rfl) ?_ | refine WO.ops (StepK.lenStr rfl) ?_ | refine WO.ops (StepK.nilck rfl) ?_ | refine WO.ops (StepK.min2 rfl rfl) ?_ | refine WO.ops (StepK.max2 rfl rfl) ?_ | refine WO.ops (StepK.load1 rfl (by first | with_reducible assumption | rfl)) ?_ | refine WO.run rfl ?_ | refine WO.skip rfl rfl ?_ | refine WO.skipu rfl ?_))
  refine WO.nil (WC.cond rfl (fun hc3 => WC.seqD ?_) (fun hc3 => WC.seqO ?_))
  · have hc3 := of_decide_eq_true hc3
    have hx : s.b2.length ≠ 0 := by omega
    have rp := A7.rdp
    obtain ⟨h8, w8, p8, lo8⟩ := A7.setp w7 (downS s1 s.b1.length s.b2.length).p
    have hq : s.b1.length / s.b2.length ≤ s.b1.length := Nat.div_le_self _ _
    have q1 := hs1.p
    have q2 := hs1.c
    refine WD.pure (StepK.mv rfl) rfl ?_
    refine WD.pure (StepK.mv rfl) rfl ?_
    refine WD.pure (StepK.nilck rfl) rfl ?_
    refine WD.pure (StepK.fieldAddr rfl) rfl ?_
    refine WD.load1 rfl rp ?_
    refine WD.pure (StepK.mv rfl) rfl ?_
    refine WD.pure (StepK.mv rfl) rfl ?_
    refine WD.pure (StepK.bin rfl rfl (quo_nn hx (by omega))) rfl ?_
    refine WD.pure (StepK.max2 rfl rfl) rfl ?_
    refine WD.pure (StepK.sub rfl rfl (by split <;> omega)) rfl ?_
    refine WD.pure (StepK.max2 rfl rfl) rfl ?_
    refine WD.pure (StepK.nilck rfl) rfl ?_
    refine WD.pure (StepK.fieldAddr rfl) rfl ?_
    refine WD.opC ⟨rp, trivial⟩ rfl (StepK.store rfl rfl rfl w8) ?_
    refine WD.nil trivial (WC.ops ?_)
    have w8' := p8.wf
    obtain ⟨F8, A8, c8, n8⟩ := p8
    have b8 : Bd (downS s1 s.b1.length s.b2.length) := fun i => hs1.b i
    (repeat (first | refine WO.ops (StepK.mv rfl) ?_ | refine WO.ops (StepK.lenSl rfl (by first | with_reducible assumption | rfl)) ?_ | refine WO.ops (StepK.fieldAddr rfl) ?_ | refine WO.ops (StepK.add rfl rfl (by omega)) ?_ | refine WO.ops (StepK.sub rfl rfl (by omega)) ?_ | refine WO.ops (StepK.bin rfl rfl rfl) ?_ | refine WO.ops (StepK.pickT rfl rfl) ?_ | refine WO.ops (StepK.pickF rfl rfl) ?_ | refine WO.ops (StepK.not rfl) ?_ | refine WO.ops (StepK.eq rfl rfl rfl) ?_ | refine WO.ops (StepK.extract rfl rfl) ?_ | refine WO.ops (StepK.build rfl rfl) ?_ | refine WO.ops (StepK.mkFn rfl rfl) ?_ | refine WO.ops (StepK.field rfl rfl) ?_ | refine WO.ops (StepK.lenStr rfl) ?_ | refine WO.ops (StepK.nilck rfl) ?_ | refine WO.ops (StepK.min2 rfl rfl) ?_ | refine WO.ops (StepK.max2 rfl rfl) ?_ | refine WO.ops (StepK.load1 rfl (by first | with_reducible assumption | rfl)) ?_ | refine WO.run rfl ?_ | refine WO.skip rfl rfl ?_ | refine WO.skipu rfl ?_))
    refine WO.call rfl rfl (room_ans S w8' (s := downS s1 s.b1.length s.b2.length) A8 b8 true) ?_
    rintro v h9 ⟨rfl, p9, lo9⟩
    (repeat (first | refine WO.ops (StepK.mv rfl) ?_ | refine WO.ops (StepK.lenSl rfl (by first | with_reducible assumption | rfl)) ?_ | refine WO.ops (StepK.fieldAddr rfl) ?_ | refine WO.ops (StepK.add rfl rfl (by omega)) ?_ | refine WO.ops (StepK.sub rfl rfl (by omega)) ?_ | refine WO.ops (StepK.bin rfl rfl rfl) ?_ | refine WO.ops (StepK.pickT rfl rfl) ?_ | refine WO.ops (StepK.pickF rfl rfl) ?_ | refine WO.ops (StepK.not rfl) ?_ | refine WO.ops (StepK.eq rfl rfl rfl) ?_ | refine WO.ops (StepK.extract rfl rfl) ?_ | refine WO.ops (StepK.build rfl rfl) ?_ | refine WO.ops (StepK.mkFn rfl rfl) ?_ | refine WO.ops (StepK.field rfl rfl) ?_ | refine WO.ops (StepK.lenStr rfl) ?_ | refine WO.ops (StepK.nilck rfl) ?_ | refine WO.ops (StepK.min2 rfl rfl) ?_ | refine WO.ops (StepK.max2 rfl rfl) ?_ | refine WO.ops (StepK.load1 rfl (by first | with_reducible assumption | rfl)) ?_ | refine WO.run rfl ?_ | refine WO.skip rfl rfl ?_ | refine WO.skipu rfl ?_))
    refine WO.nil ⟨_, (roomS (downS s1 s.b1.length s.b2.length) true).2, Cov.cons rfl (Cov.cons rfl (Cov.cons rfl (Cov.nil _))), ?_, roomS_bd1 (s := downS s1 s.b1.length s.b2.length) (fun i => hs1.bd i) true 1, ?_⟩
    · exact APost.then (s := s1) hw (c7.trans c8 hw n5) (n5.trans n8 c7.size) p9
    · simp only [askS, hsd]
      rw [if_neg (by rw [hc1]; decide), if_neg (by omega), if_pos (by omega)]
  have hc3 := of_decide_eq_false hc3
  have hfs : askS s k = (false, (freshS s1).1, { (freshS s1).2 with t1 := (freshS s1).2.t1 ++ [k] }) := by
    simp only [askS, hsd]
    rw [if_neg (by rw [hc1]; decide), if_neg (by omega), if_neg (by omega)]
  (repeat (first | refine WO.ops (StepK.mv rfl) ?_ | refine WO.ops (StepK.lenSl rfl (by first | with_reducible assumption | rfl)) ?_ | refine WO.ops (StepK.fieldAddr rfl) ?_ | refine WO.ops (StepK.add rfl rfl (by omega)) ?_ | refine WO.ops (StepK.sub rfl rfl (by omega)) ?_ | refine WO.ops (StepK.bin rfl rfl rfl) ?_ | refine WO.ops (StepK.pickT rfl rfl) ?_ | refine WO.ops (StepK.pickF rfl rfl) ?_ | refine WO.ops (StepK.not rfl) ?_ | refine WO.ops (StepK.eq rfl rfl rfl) ?_ | refine WO.ops (StepK.extract rfl rfl) ?_ | refine WO.ops (StepK.build rfl rfl) ?_ | refine WO.ops (StepK.mkFn rfl rfl) ?_ | refine WO.ops (StepK.field rfl rfl) ?_ | refine WO.ops (StepK.lenStr rfl) ?_ | refine WO.ops (StepK.nilck rfl) ?_ | refine WO.ops (StepK.min2 rfl rfl) ?_ | refine WO.ops (StepK.max2 rfl rfl) ?_ | refine WO.ops (StepK.load1 rfl (by first | with_reducible assumption | rfl)) ?_ | refine WO.run rfl ?_ | refine WO.skip rfl rfl ?_ | refine WO.skipu rfl ?_))
  refine WO.call rfl rfl (fresh_ans S w7 A7 hs1) ?_
  rintro v h8 ⟨rfl, p8⟩
  have w8 := p8.wf
  obtain ⟨F8, A8, c8, n8⟩ := p8
  refine WO.ops (StepK.mv rfl) (WO.nil (WC.seqO ?_))
  (repeat (first | refine WO.ops (StepK.mv rfl) ?_ | refine WO.ops (StepK.lenSl rfl (by first | with_reducible assumption | rfl)) ?_ | refine WO.ops (StepK.fieldAddr rfl) ?_ | refine WO.ops (StepK.add rfl rfl (by omega)) ?_ | refine WO.ops (StepK.sub rfl rfl (by omega)) ?_ | refine WO.ops (StepK.bin rfl rfl rfl) ?_ | refine WO.ops (StepK.pickT rfl rfl) ?_ | refine WO.ops (StepK.pickF rfl rfl) ?_ | refine WO.ops (StepK.not rfl) ?_ | refine WO.ops (StepK.eq rfl rfl rfl) ?_ | refine WO.ops (StepK.extract rfl rfl) ?_ | refine WO.ops (StepK.build rfl rfl) ?_ | refine WO.ops (StepK.mkFn rfl rfl) ?_ | refine WO.ops (StepK.field rfl rfl) ?_ | refine WO.ops (StepK.lenStr rfl) ?_ | refine WO.ops (StepK.nilck rfl) ?_ | refine WO.ops (StepK.min2 rfl rfl) ?_ | refine WO.ops (StepK.max2 rfl rfl) ?_ | refine WO.ops (StepK.load1 rfl (by first | with_reducible assumption | rfl)) ?_ | refine WO.run rfl ?_ | refine WO.skip rfl rfl ?_ | refine WO.skipu rfl ?_))
  refine WO.call rfl rfl (addA S w8 A8 0 (by decide) k (freshS_bd hs1 0)) ?_
  rintro v h9 ⟨rfl, p9, lo9⟩
  refine WO.nil (WC.seqO ?_)
  (repeat (first | refine WO.ops (StepK.mv rfl) ?_ | refine WO.ops (StepK.lenSl rfl (by first | with_reducible assumption | rfl)) ?_ | refine WO.ops (StepK.fieldAddr rfl) ?_ | refine WO.ops (StepK.add rfl rfl (by omega)) ?_ | refine WO.ops (StepK.sub rfl rfl (by omega)) ?_ | refine WO.ops (StepK.bin rfl rfl rfl) ?_ | refine WO.ops (StepK.pickT rfl rfl) ?_ | refine WO.ops (StepK.pickF rfl rfl) ?_ | refine WO.ops (StepK.not rfl) ?_ | refine WO.ops (StepK.eq rfl rfl rfl) ?_ | refine WO.ops (StepK.extract rfl rfl) ?_ | refine WO.ops (StepK.build rfl rfl) ?_ | refine WO.ops (StepK.mkFn rfl rfl) ?_ | refine WO.ops (StepK.field rfl rfl) ?_ | refine WO.ops (StepK.lenStr rfl) ?_ | refine WO.ops (StepK.nilck rfl) ?_ | refine WO.ops (StepK.min2 rfl rfl) ?_ | refine WO.ops (StepK.max2 rfl rfl) ?_ | refine WO.ops (StepK.load1 rfl (by first | with_reducible assumption | rfl)) ?_ | refine WO.run rfl ?_ | refine WO.skip rfl rfl ?_ | refine WO.skipu rfl ?_))
  have p9 := APost.then (s := s1) hw (c7.trans c8 hw n5) (n5.trans n8 c7.size) p9
  rw [hfs]
  exact WO.nil (WC.ret ⟨trivial, _, rfl, fun n hn => ⟨rfl, p9.low n⟩, fun hc2 _ => by omega⟩)
end
end Abs
end Go.Proofs.Ytnbljblnikdeiaa
