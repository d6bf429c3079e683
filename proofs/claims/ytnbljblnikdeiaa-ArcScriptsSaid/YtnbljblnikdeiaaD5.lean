/- Layer 11: the cache's fresh and Ask. -/
import Derived.Test.YtnbljblnikdeiaaD4
namespace Go.Proofs.Ytnbljblnikdeiaa
namespace Abs
set_option linter.unusedVariables false
set_option linter.unusedSimpArgs false
set_option maxHeartbeats 3200000
open Go.RowKit
attribute [local irreducible] WO WC WD StepK Ans Does Runs DoesD

variable {C : Cfg} (S : Std C)
include S
section
variable {h : Heap} (hw : Wf h) {a : Nat} {s : AS} {F : List Nat} (A : ArcAt h a s F)
include hw A

theorem fresh_ans (o : OkS s) : Ans C 26 [.ptr (some (a, 0))] h fun v h' => v = .str (freshS s).1 ∧ APost h h' a F (freshS s).2 := by
  have hF : C.F 26 = some a26 := S.f rfl
  unfold a26 at hF
  refine Ans.fnM (fun _ _ => S.s _ _ _ (by decide)) hF rfl rfl hw fun h2 g0 hsz hge => ?_
  clear hF
  have hb := o.b
  have A2 := A.grow g0
  have ha := A.at_lt hw
  have l0 : s.t1.length ≤ 50000 := o.bd 0
  have l1 : s.t2.length ≤ 50000 := o.bd 1
  have l2 : s.b1.length ≤ 50000 := o.bd 2
  have l3 : s.b2.length ≤ 50000 := o.bd 3
  have oc := o.c
  refine WC.seqO ?_
  (repeat (first | refine WO.ops (StepK.mv rfl) ?_ | refine WO.ops (StepK.lenSl rfl (by first | with_reducible assumption | rfl)) ?_ | refine WO.ops (StepK.fieldAddr rfl) ?_ | refine WO.ops (StepK.add rfl rfl (by omega)) ?_ | refine WO.ops (StepK.sub rfl rfl (by omega)) ?_ | refine WO.ops (StepK.bin rfl rfl rfl) ?_ | refine WO.ops (StepK.pickT rfl rfl) ?_ | refine WO.ops (StepK.pickF rfl rfl) ?_ | refine WO.ops (StepK.not rfl) ?_ | refine WO.ops (StepK.eq rfl rfl rfl) ?_ | refine WO.ops (StepK.extract rfl rfl) ?_ | refine WO.ops (StepK.build rfl rfl) ?_ | refine WO.ops (StepK.mkFn rfl rfl) ?_ | refine WO.ops (StepK.field rfl rfl) ?_ | refine WO.ops (StepK.lenStr rfl) ?_ | refine WO.ops (StepK.nilck rfl) ?_ | refine WO.ops (StepK.min2 rfl rfl) ?_ | refine WO.ops (StepK.max2 rfl rfl) ?_ | refine WO.ops (StepK.load1 rfl (by first | with_reducible assumption | rfl)) ?_ | refine WO.run rfl ?_ | refine WO.skip rfl rfl ?_ | refine WO.skipu rfl ?_))
  refine WO.nil (WC.seqD ?_)
  (repeat (first | refine WD.pure (StepK.mv rfl) rfl ?_ | refine WD.pure (StepK.lenSl rfl (by first | with_reducible assumption | rfl)) rfl ?_ | refine WD.pure (StepK.fieldAddr rfl) rfl ?_ | refine WD.pure (StepK.add rfl rfl (by omega)) rfl ?_ | refine WD.pure (StepK.sub rfl rfl (by omega)) rfl ?_ | refine WD.pure (StepK.bin rfl rfl rfl) rfl ?_ | refine WD.pure (StepK.pickT rfl rfl) rfl ?_ | refine WD.pure (StepK.pickF rfl rfl) rfl ?_ | refine WD.pure (StepK.not rfl) rfl ?_ | refine WD.pure (StepK.eq rfl rfl rfl) rfl ?_ | refine WD.pure (StepK.extract rfl rfl) rfl ?_ | refine WD.pure (StepK.build rfl rfl) rfl ?_ | refine WD.pure (StepK.mkFn rfl rfl) rfl ?_ | refine WD.pure (StepK.field rfl rfl) rfl ?_ | refine WD.pure (StepK.lenStr rfl) rfl ?_ | refine WD.pure (StepK.nilck rfl) rfl ?_ | refine WD.pure (StepK.min2 rfl rfl) rfl ?_ | refine WD.pure (StepK.max2 rfl rfl) rfl ?_ | refine WD.load1 rfl (by first | with_reducible assumption | rfl) ?_ | refine WD.run rfl ?_ | refine WD.skipn rfl rfl rfl ?_ | refine WD.skipun rfl rfl ?_))
  refine WD.call trivial rfl rfl (lenA S g0.wf A2 0 (by decide)) ?_
  rintro v h3 ⟨rfl, g3⟩
  have A3 := A2.grow g3
  have g3 := g0.trans g3
  refine WD.call trivial rfl rfl (lenA S g3.wf A3 2 (by decide)) ?_
  rintro v h4 ⟨rfl, g4⟩
  have A4 := A3.grow g4
  have g4 := g3.trans g4
  have e0 : s.get 0 = s.t1 := rfl
  have e1 : s.get 1 = s.t2 := rfl
  have e2 : s.get 2 = s.b1 := rfl
  have e3 : s.get 3 = s.b2 := rfl
  rw [e0, e2]
  (repeat (first | refine WD.pure (StepK.mv rfl) rfl ?_ | refine WD.pure (StepK.lenSl rfl (by first | with_reducible assumption | rfl)) rfl ?_ | refine WD.pure (StepK.fieldAddr rfl) rfl ?_ | refine WD.pure (StepK.add rfl rfl (by omega)) rfl ?_ | refine WD.pure (StepK.sub rfl rfl (by omega)) rfl ?_ | refine WD.pure (StepK.bin rfl rfl rfl) rfl ?_ | refine WD.pure (StepK.pickT rfl rfl) rfl ?_ | refine WD.pure (StepK.pickF rfl rfl) rfl ?_ | refine WD.pure (StepK.not rfl) rfl ?_ | refine WD.pure (StepK.eq rfl rfl rfl) rfl ?_ | refine WD.pure (StepK.extract rfl rfl) rfl ?_ | refine WD.pure (StepK.build rfl rfl) rfl ?_ | refine WD.pure (StepK.mkFn rfl rfl) rfl ?_ | refine WD.pure (StepK.field rfl rfl) rfl ?_ | refine WD.pure (StepK.lenStr rfl) rfl ?_ | refine WD.pure (StepK.nilck rfl) rfl ?_ | refine WD.pure (StepK.min2 rfl rfl) rfl ?_ | refine WD.pure (StepK.max2 rfl rfl) rfl ?_ | refine WD.load1 rfl (by first | with_reducible assumption | rfl) ?_ | refine WD.run rfl ?_ | refine WD.skipn rfl rfl rfl ?_ | refine WD.skipun rfl rfl ?_))
  refine WD.nil trivial (WC.seqD ?_)
  (repeat (first | refine WD.pure (StepK.mv rfl) rfl ?_ | refine WD.pure (StepK.lenSl rfl (by first | with_reducible assumption | rfl)) rfl ?_ | refine WD.pure (StepK.fieldAddr rfl) rfl ?_ | refine WD.pure (StepK.add rfl rfl (by omega)) rfl ?_ | refine WD.pure (StepK.sub rfl rfl (by omega)) rfl ?_ | refine WD.pure (StepK.bin rfl rfl rfl) rfl ?_ | refine WD.pure (StepK.pickT rfl rfl) rfl ?_ | refine WD.pure (StepK.pickF rfl rfl) rfl ?_ | refine WD.pure (StepK.not rfl) rfl ?_ | refine WD.pure (StepK.eq rfl rfl rfl) rfl ?_ | refine WD.pure (StepK.extract rfl rfl) rfl ?_ | refine WD.pure (StepK.build rfl rfl) rfl ?_ | refine WD.pure (StepK.mkFn rfl rfl) rfl ?_ | refine WD.pure (StepK.field rfl rfl) rfl ?_ | refine WD.pure (StepK.lenStr rfl) rfl ?_ | refine WD.pure (StepK.nilck rfl) rfl ?_ | refine WD.pure (StepK.min2 rfl rfl) rfl ?_ | refine WD.pure (StepK.max2 rfl rfl) rfl ?_ | refine WD.load1 rfl (by first | with_reducible assumption | rfl) ?_ | refine WD.run rfl ?_ | refine WD.skipn rfl rfl rfl ?_ | refine WD.skipun rfl rfl ?_))
  refine WD.call trivial rfl rfl (lenA S g4.wf A4 1 (by decide)) ?_
  rintro v h5 ⟨rfl, g5⟩
  have A5 := A4.grow g5
  have g5 := g4.trans g5
  rw [e1]
  (repeat (first | refine WD.pure (StepK.mv rfl) rfl ?_ | refine WD.pure (StepK.lenSl rfl (by first | with_reducible assumption | rfl)) rfl ?_ | refine WD.pure (StepK.fieldAddr rfl) rfl ?_ | refine WD.pure (StepK.add rfl rfl (by omega)) rfl ?_ | refine WD.pure (StepK.sub rfl rfl (by omega)) rfl ?_ | refine WD.pure (StepK.bin rfl rfl rfl) rfl ?_ | refine WD.pure (StepK.pickT rfl rfl) rfl ?_ | refine WD.pure (StepK.pickF rfl rfl) rfl ?_ | refine WD.pure (StepK.not rfl) rfl ?_ | refine WD.pure (StepK.eq rfl rfl rfl) rfl ?_ | refine WD.pure (StepK.extract rfl rfl) rfl ?_ | refine WD.pure (StepK.build rfl rfl) rfl ?_ | refine WD.pure (StepK.mkFn rfl rfl) rfl ?_ | refine WD.pure (StepK.field rfl rfl) rfl ?_ | refine WD.pure (StepK.lenStr rfl) rfl ?_ | refine WD.pure (StepK.nilck rfl) rfl ?_ | refine WD.pure (StepK.min2 rfl rfl) rfl ?_ | refine WD.pure (StepK.max2 rfl rfl) rfl ?_ | refine WD.load1 rfl (by first | with_reducible assumption | rfl) ?_ | refine WD.run rfl ?_ | refine WD.skipn rfl rfl rfl ?_ | refine WD.skipun rfl rfl ?_))
  refine WD.call trivial rfl rfl (lenA S g5.wf A5 3 (by decide)) ?_
  rintro v h6 ⟨rfl, g6⟩
  have A6 := A5.grow g6
  have g6 := g5.trans g6
  rw [e3]
  (repeat (first | refine WD.pure (StepK.mv rfl) rfl ?_ | refine WD.pure (StepK.lenSl rfl (by first | with_reducible assumption | rfl)) rfl ?_ | refine WD.pure (StepK.fieldAddr rfl) rfl ?_ | refine WD.pure (StepK.add rfl rfl (by omega)) rfl ?_ | refine WD.pure (StepK.sub rfl rfl (by omega)) rfl ?_ | refine WD.pure (StepK.bin rfl rfl rfl) rfl ?_ | refine WD.pure (StepK.pickT rfl rfl) rfl ?_ | refine WD.pure (StepK.pickF rfl rfl) rfl ?_ | refine WD.pure (StepK.not rfl) rfl ?_ | refine WD.pure (StepK.eq rfl rfl rfl) rfl ?_ | refine WD.pure (StepK.extract rfl rfl) rfl ?_ | refine WD.pure (StepK.build rfl rfl) rfl ?_ | refine WD.pure (StepK.mkFn rfl rfl) rfl ?_ | refine WD.pure (StepK.field rfl rfl) rfl ?_ | refine WD.pure (StepK.lenStr rfl) rfl ?_ | refine WD.pure (StepK.nilck rfl) rfl ?_ | refine WD.pure (StepK.min2 rfl rfl) rfl ?_ | refine WD.pure (StepK.max2 rfl rfl) rfl ?_ | refine WD.load1 rfl (by first | with_reducible assumption | rfl) ?_ | refine WD.run rfl ?_ | refine WD.skipn rfl rfl rfl ?_ | refine WD.skipun rfl rfl ?_))
  refine WD.nil trivial ?_
  have hcr := A6.rdc
  -- the end: room is made
  have done : ∀ (h7 : Heap) (s' : AS) (e : List (Nat × V)) (Q : Ex → List (Nat × V) → Heap → Prop), Cov [(0, .ptr (some (a, 0)))] e → APost h h7 a F s' → Bd s' → (∀ k e' h8, APost h h8 a F (roomS s' false).2 → (h8.low ≤ h7.low) → (h8.low ≤ a ∨ (roomS s' false).2 = s') → k = (roomS s' false).1 → Q .ret ((2, .str k) :: e') h8) → WC C (.seq (.ops [⟨(some 74), none, .mv (.t 0)⟩,
    ⟨(some 75), none, .call (.c (.func (.func 25) [] [])) [(.t 74), (.c (.bool false))]⟩,
    ⟨(some 2), none, .mv (.t 75)⟩]) (.ret)) e h7 Q := by
    intro h7 s' e Q cv p7 hb7 hQ
    refine WC.cov cv (WC.seqO ?_)
    have w7 := p7.wf
    obtain ⟨F7, A7, c7, m7⟩ := p7
    (repeat (first | refine WO.ops (StepK.mv rfl) ?_ | refine WO.ops (StepK.lenSl rfl (by first | with_reducible assumption | rfl)) ?_ | refine WO.ops (StepK.fieldAddr rfl) ?_ | refine WO.ops (StepK.add rfl rfl (by omega)) ?_ | refine WO.ops (StepK.sub rfl rfl (by omega)) ?_ | refine WO.ops (StepK.bin rfl rfl rfl) ?_ | refine WO.ops (StepK.pickT rfl rfl) ?_ | refine WO.ops (StepK.pickF rfl rfl) ?_ | refine WO.ops (StepK.not rfl) ?_ | refine WO.ops (StepK.eq rfl rfl rfl) ?_ | refine WO.ops (StepK.extract rfl rfl) ?_ | refine WO.ops (StepK.build rfl rfl) ?_ | refine WO.ops (StepK.mkFn rfl rfl) ?_ | refine WO.ops (StepK.field rfl rfl) ?_ | refine WO.ops (StepK.lenStr rfl) ?_ | refine WO.ops (StepK.nilck rfl) ?_ | refine WO.ops (StepK.min2 rfl rfl) ?_ | refine WO.ops (StepK.max2 rfl rfl) ?_ | refine WO.ops (StepK.load1 rfl (by first | with_reducible assumption | rfl)) ?_ | refine WO.run rfl ?_ | refine WO.skip rfl rfl ?_ | refine WO.skipu rfl ?_))
    refine WO.call rfl rfl ((room_ans S w7 A7 hb7 false).hm S.hm) ?_
    rintro v h8 ⟨⟨rfl, p8, lo8⟩, lo⟩
    (repeat (first | refine WO.ops (StepK.mv rfl) ?_ | refine WO.ops (StepK.lenSl rfl (by first | with_reducible assumption | rfl)) ?_ | refine WO.ops (StepK.fieldAddr rfl) ?_ | refine WO.ops (StepK.add rfl rfl (by omega)) ?_ | refine WO.ops (StepK.sub rfl rfl (by omega)) ?_ | refine WO.ops (StepK.bin rfl rfl rfl) ?_ | refine WO.ops (StepK.pickT rfl rfl) ?_ | refine WO.ops (StepK.pickF rfl rfl) ?_ | refine WO.ops (StepK.not rfl) ?_ | refine WO.ops (StepK.eq rfl rfl rfl) ?_ | refine WO.ops (StepK.extract rfl rfl) ?_ | refine WO.ops (StepK.build rfl rfl) ?_ | refine WO.ops (StepK.mkFn rfl rfl) ?_ | refine WO.ops (StepK.field rfl rfl) ?_ | refine WO.ops (StepK.lenStr rfl) ?_ | refine WO.ops (StepK.nilck rfl) ?_ | refine WO.ops (StepK.min2 rfl rfl) ?_ | refine WO.ops (StepK.max2 rfl rfl) ?_ | refine WO.ops (StepK.load1 rfl (by first | with_reducible assumption | rfl)) ?_ | refine WO.run rfl ?_ | refine WO.skip rfl rfl ?_ | refine WO.skipu rfl ?_))
    refine WO.nil (WC.ret (hQ _ _ h8 ?_ lo lo8 rfl))
    obtain ⟨F8, A8, c8, m8⟩ := p8
    exact ⟨F8, A8, c7.trans c8 hw m7, m7.trans m8 c7.size⟩
  refine WC.seqM (M := fun e' h' => ∃ s', Cov [(0, .ptr (some (a, 0)))] e' ∧ APost h h' a F s' ∧ Bd s' ∧ freshS s = roomS s' false ∧ (h'.low ≤ a ∨ s' = s)) ?_ ?_
  rotate_left
  · rintro e7 h7 ⟨s', cv, p7, hb7, hfs, lo7⟩
    refine done h7 s' e7 _ cv p7 hb7 fun k e' h8 p8 l8 lo8 hk => ⟨trivial, .str k, rfl, fun n hn => ⟨by rw [hfs, hk], by rw [hfs]; exact p8.low n⟩, fun hc _ => ?_⟩
    rcases lo8 with e | e
    · omega
    · rcases lo7 with e' | e'
      · omega
      · have hk' : (roomS s' false).2 = s := by rw [e, e']
        exact ⟨by rw [hfs, hk], by rw [hfs, hk']; exact A.post (Grow.refl hw)⟩
  refine WC.block ?_
  refine WC.seqO ?_
  refine WO.ops (StepK.mv rfl) ?_
  refine WO.ops (StepK.mv rfl) ?_
  refine WO.ops (StepK.nilck rfl) ?_
  refine WO.ops (StepK.fieldAddr rfl) ?_
  refine WO.ops (StepK.load1 rfl hcr) ?_
  refine WO.ops (StepK.bin rfl rfl (eql_nn _ _)) ?_
  refine WO.ops (StepK.mv rfl) ?_
  -- all behind the first question
  have rest : ∀ (e : List (Nat × V)) (Q : Ex → List (Nat × V) → Heap → Prop), Cov [(0, .ptr (some (a, 0))), (3, iv s.t1.length), (4, iv s.b1.length), (5, iv ((s.t1.length : Int) + s.b1.length + s.t2.length + s.b2.length))] e → ¬ ((s.t1.length : Int) = s.c ∧ s.b1.length = 0) →
      (∀ e' h' s', Cov [(0, .ptr (some (a, 0)))] e' → APost h h' a F s' → Bd s' → freshS s = roomS s' false → (h'.low ≤ a ∨ s' = s) → Q .normal e' h') → (∀ e' h', Grow h h' → freshS s = ([], s) → Q .ret ((2, .str []) :: e') h') →
      WC C (.seq (.ops [⟨(some 43), none, .mv (.t 3)⟩,
      ⟨(some 44), none, .mv (.t 4)⟩,
      ⟨(some 45), none, .bin .add (.t 43) (.t 44)⟩,
      ⟨(some 46), none, .mv (.t 0)⟩,
      ⟨(some 47), none, .nilck (.t 46)⟩,
      ⟨(some 48), none, .fieldAddr 5 (.t 47)⟩,
      ⟨(some 49), none, .load none (.t 48)⟩,
      ⟨(some 50), none, .bin .eql (.t 45) (.t 49)⟩,
      ⟨(some 42), none, .mv (.t 50)⟩])
    (.cond (.t 42)
     (.ops [⟨(some 51), none, .mv (.t 0)⟩,
       ⟨(some 52), none, .nilck (.t 51)⟩,
       ⟨(some 53), none, .fieldAddr 2 (.t 52)⟩,
       ⟨(some 54), none, .call (.c (.func (.func 35) [] [])) [(.t 53)]⟩])
     (.seq (.ops [⟨(some 56), none, .mv (.t 5)⟩,
       ⟨(some 57), none, .mv (.t 0)⟩,
       ⟨(some 58), none, .nilck (.t 57)⟩,
       ⟨(some 59), none, .fieldAddr 5 (.t 58)⟩,
       ⟨(some 60), none, .load none (.t 59)⟩,
       ⟨(some 61), none, .bin .lss (.t 56) (.t 60)⟩,
       ⟨(some 55), none, .mv (.t 61)⟩])
     (.cond (.t 55)
      (.seq (.ops [⟨(some 2), none, .mv (.c (.str []))⟩])
      (.ret))
      (.seq (.ops [⟨(some 63), none, .mv (.t 5)⟩,
        ⟨(some 64), none, .mv (.t 0)⟩,
        ⟨(some 65), none, .nilck (.t 64)⟩,
        ⟨(some 66), none, .fieldAddr 5 (.t 65)⟩,
        ⟨(some 67), none, .load none (.t 66)⟩,
        ⟨(some 68), none, .bin .mul (.c (.int .i64 (2))) (.t 67)⟩,
        ⟨(some 69), none, .bin .eql (.t 63) (.t 68)⟩,
        ⟨(some 62), none, .mv (.t 69)⟩])
      (.cond (.t 62)
       (.ops [⟨(some 70), none, .mv (.t 0)⟩,
         ⟨(some 71), none, .nilck (.t 70)⟩,
         ⟨(some 72), none, .fieldAddr 3 (.t 71)⟩,
         ⟨(some 73), none, .call (.c (.func (.func 35) [] [])) [(.t 72)]⟩])
       (.skip))))))) e h6 Q := by
    intro e Q cv hn1 hN hR
    refine WC.cov cv (WC.seqO ?_)
    refine WO.ops (StepK.mv rfl) ?_
    refine WO.ops (StepK.mv rfl) ?_
    refine WO.ops (StepK.add rfl rfl (by omega)) ?_
    refine WO.ops (StepK.mv rfl) ?_
    refine WO.ops (StepK.nilck rfl) ?_
    refine WO.ops (StepK.fieldAddr rfl) ?_
    refine WO.ops (StepK.load1 rfl hcr) ?_
    refine WO.ops (StepK.bin rfl rfl (eql_nn _ _)) ?_
    refine WO.ops (StepK.mv rfl) (WO.nil (WC.cond rfl (fun hc2 => WC.ops ?_) (fun hc2 => WC.seqO ?_)))
    · have hc2 := of_decide_eq_true hc2
      (repeat (first | refine WO.ops (StepK.mv rfl) ?_ | refine WO.ops (StepK.lenSl rfl (by first | with_reducible assumption | rfl)) ?_ | refine WO.ops (StepK.fieldAddr rfl) ?_ | refine WO.ops (StepK.add rfl rfl (by omega)) ?_ | refine WO.ops (StepK.sub rfl rfl (by omega)) ?_ | refine WO.ops (StepK.bin rfl rfl rfl) ?_ | refine WO.ops (StepK.pickT rfl rfl) ?_ | refine WO.ops (StepK.pickF rfl rfl) ?_ | refine WO.ops (StepK.not rfl) ?_ | refine WO.ops (StepK.eq rfl rfl rfl) ?_ | refine WO.ops (StepK.extract rfl rfl) ?_ | refine WO.ops (StepK.build rfl rfl) ?_ | refine WO.ops (StepK.mkFn rfl rfl) ?_ | refine WO.ops (StepK.field rfl rfl) ?_ | refine WO.ops (StepK.lenStr rfl) ?_ | refine WO.ops (StepK.nilck rfl) ?_ | refine WO.ops (StepK.min2 rfl rfl) ?_ | refine WO.ops (StepK.max2 rfl rfl) ?_ | refine WO.ops (StepK.load1 rfl (by first | with_reducible assumption | rfl)) ?_ | refine WO.run rfl ?_ | refine WO.skip rfl rfl ?_ | refine WO.skipu rfl ?_))
      refine WO.call rfl rfl (oldestA S g6.wf A6 2 (by decide) (hb 2)) ?_
      rintro v h7 ⟨rfl, p7, lo7⟩
      refine WO.nil (hN _ h7 { s with b1 := s.b1.tail } (Cov.cons rfl (Cov.nil _)) (p7.growl g6) (put_bd hb 2 (by rw [List.length_tail]; omega)) ?_ ?_)
      · rw [freshS, if_neg hn1, if_pos hc2]
      · rcases lo7 with e | e
        · exact .inl e
        · exact .inr (as_tail3 e)
    have hc2 := of_decide_eq_false hc2
    refine WO.ops (StepK.mv rfl) ?_
    refine WO.ops (StepK.mv rfl) ?_
    refine WO.ops (StepK.nilck rfl) ?_
    refine WO.ops (StepK.fieldAddr rfl) ?_
    refine WO.ops (StepK.load1 rfl hcr) ?_
    (repeat (first | refine WO.ops (StepK.mv rfl) ?_ | refine WO.ops (StepK.lenSl rfl (by first | with_reducible assumption | rfl)) ?_ | refine WO.ops (StepK.fieldAddr rfl) ?_ | refine WO.ops (StepK.add rfl rfl (by omega)) ?_ | refine WO.ops (StepK.sub rfl rfl (by omega)) ?_ | refine WO.ops (StepK.bin rfl rfl rfl) ?_ | refine WO.ops (StepK.pickT rfl rfl) ?_ | refine WO.ops (StepK.pickF rfl rfl) ?_ | refine WO.ops (StepK.not rfl) ?_ | refine WO.ops (StepK.eq rfl rfl rfl) ?_ | refine WO.ops (StepK.extract rfl rfl) ?_ | refine WO.ops (StepK.build rfl rfl) ?_ | refine WO.ops (StepK.mkFn rfl rfl) ?_ | refine WO.ops (StepK.field rfl rfl) ?_ | refine WO.ops (StepK.lenStr rfl) ?_ | refine WO.ops (StepK.nilck rfl) ?_ | refine WO.ops (StepK.min2 rfl rfl) ?_ | refine WO.ops (StepK.max2 rfl rfl) ?_ | refine WO.ops (StepK.load1 rfl (by first | with_reducible assumption | rfl)) ?_ | refine WO.run rfl ?_ | refine WO.skip rfl rfl ?_ | refine WO.skipu rfl ?_))
    refine WO.nil (WC.cond rfl (fun hc3 => WC.seqO ?_) (fun hc3 => WC.seqO ?_))
    · have hc3 := of_decide_eq_true hc3
      (repeat (first | refine WO.ops (StepK.mv rfl) ?_ | refine WO.ops (StepK.lenSl rfl (by first | with_reducible assumption | rfl)) ?_ | refine WO.ops (StepK.fieldAddr rfl) ?_ | refine WO.ops (StepK.add rfl rfl (by omega)) ?_ | refine WO.ops (StepK.sub rfl rfl (by omega)) ?_ | refine WO.ops (StepK.bin rfl rfl rfl) ?_ | refine WO.ops (StepK.pickT rfl rfl) ?_ | refine WO.ops (StepK.pickF rfl rfl) ?_ | refine WO.ops (StepK.not rfl) ?_ | refine WO.ops (StepK.eq rfl rfl rfl) ?_ | refine WO.ops (StepK.extract rfl rfl) ?_ | refine WO.ops (StepK.build rfl rfl) ?_ | refine WO.ops (StepK.mkFn rfl rfl) ?_ | refine WO.ops (StepK.field rfl rfl) ?_ | refine WO.ops (StepK.lenStr rfl) ?_ | refine WO.ops (StepK.nilck rfl) ?_ | refine WO.ops (StepK.min2 rfl rfl) ?_ | refine WO.ops (StepK.max2 rfl rfl) ?_ | refine WO.ops (StepK.load1 rfl (by first | with_reducible assumption | rfl)) ?_ | refine WO.run rfl ?_ | refine WO.skip rfl rfl ?_ | refine WO.skipu rfl ?_))
      exact WO.nil (WC.ret (hR _ _ g6 (by rw [freshS, if_neg hn1, if_neg hc2, if_pos hc3])))
    have hc3 := of_decide_eq_false hc3
    have hmul : binA .mul (iv 2) (iv s.c) = some (iv (2 * s.c)) := by
      simp only [binA, if_true]
      rw [StepK.wrap64 (by omega) (by omega)]
    refine WO.ops (StepK.mv rfl) ?_
    refine WO.ops (StepK.mv rfl) ?_
    refine WO.ops (StepK.nilck rfl) ?_
    refine WO.ops (StepK.fieldAddr rfl) ?_
    refine WO.ops (StepK.load1 rfl hcr) ?_
    refine WO.ops (StepK.bin rfl rfl hmul) ?_
    refine WO.ops (StepK.bin rfl rfl (eql_nn _ _)) ?_
    refine WO.ops (StepK.mv rfl) (WO.nil (WC.cond rfl (fun hc4 => WC.ops ?_) (fun hc4 => WC.skip ?_)))
    · have hc4 := of_decide_eq_true hc4
      (repeat (first | refine WO.ops (StepK.mv rfl) ?_ | refine WO.ops (StepK.lenSl rfl (by first | with_reducible assumption | rfl)) ?_ | refine WO.ops (StepK.fieldAddr rfl) ?_ | refine WO.ops (StepK.add rfl rfl (by omega)) ?_ | refine WO.ops (StepK.sub rfl rfl (by omega)) ?_ | refine WO.ops (StepK.bin rfl rfl rfl) ?_ | refine WO.ops (StepK.pickT rfl rfl) ?_ | refine WO.ops (StepK.pickF rfl rfl) ?_ | refine WO.ops (StepK.not rfl) ?_ | refine WO.ops (StepK.eq rfl rfl rfl) ?_ | refine WO.ops (StepK.extract rfl rfl) ?_ | refine WO.ops (StepK.build rfl rfl) ?_ | refine WO.ops (StepK.mkFn rfl rfl) ?_ | refine WO.ops (StepK.field rfl rfl) ?_ | refine WO.ops (StepK.lenStr rfl) ?_ | refine WO.ops (StepK.nilck rfl) ?_ | refine WO.ops (StepK.min2 rfl rfl) ?_ | refine WO.ops (StepK.max2 rfl rfl) ?_ | refine WO.ops (StepK.load1 rfl (by first | with_reducible assumption | rfl)) ?_ | refine WO.run rfl ?_ | refine WO.skip rfl rfl ?_ | refine WO.skipu rfl ?_))
      refine WO.call rfl rfl (oldestA S g6.wf A6 3 (by decide) (hb 3)) ?_
      rintro v h7 ⟨rfl, p7, lo7⟩
      refine WO.nil (hN _ h7 { s with b2 := s.b2.tail } (Cov.cons rfl (Cov.nil _)) (p7.growl g6) (put_bd hb 3 (by rw [List.length_tail]; omega)) ?_ ?_)
      · rw [freshS, if_neg hn1, if_neg hc2, if_neg hc3, if_pos hc4]
      · rcases lo7 with e | e
        · exact .inl e
        · exact .inr (as_tail4 e)
    · have hc4 := of_decide_eq_false hc4
      exact hN _ h6 s (Cov.cons rfl (Cov.nil _)) (A.post g6) hb (by rw [freshS, if_neg hn1, if_neg hc2, if_neg hc3, if_neg hc4]) (.inr rfl)
  have fin1 : ∀ (e : List (Nat × V)), Cov [(0, .ptr (some (a, 0))), (3, iv s.t1.length), (4, iv s.b1.length), (5, iv ((s.t1.length : Int) + s.b1.length + s.t2.length + s.b2.length))] e → ((s.t1.length : Int) = s.c ∧ s.b1.length = 0) → ∀ Q : Ex → List (Nat × V) → Heap → Prop, (∀ k e' h', APost h h' a F (freshS s).2 → (h'.low ≤ a ∨ (freshS s).2 = s) → k = (freshS s).1 → Q .ret ((2, .str k) :: e') h') → WC C (.seq (.ops [⟨(some 38), none, .mv (.t 0)⟩,
      ⟨(some 39), none, .nilck (.t 38)⟩,
      ⟨(some 40), none, .fieldAddr 0 (.t 39)⟩,
      ⟨(some 41), none, .call (.c (.func (.func 35) [] [])) [(.t 40)]⟩,
      ⟨(some 2), none, .mv (.t 41)⟩])
    (.ret)) e h6 Q := by
    intro e cv hc1 Q hQ
    refine WC.cov cv (WC.seqO ?_)
    (repeat (first | refine WO.ops (StepK.mv rfl) ?_ | refine WO.ops (StepK.lenSl rfl (by first | with_reducible assumption | rfl)) ?_ | refine WO.ops (StepK.fieldAddr rfl) ?_ | refine WO.ops (StepK.add rfl rfl (by omega)) ?_ | refine WO.ops (StepK.sub rfl rfl (by omega)) ?_ | refine WO.ops (StepK.bin rfl rfl rfl) ?_ | refine WO.ops (StepK.pickT rfl rfl) ?_ | refine WO.ops (StepK.pickF rfl rfl) ?_ | refine WO.ops (StepK.not rfl) ?_ | refine WO.ops (StepK.eq rfl rfl rfl) ?_ | refine WO.ops (StepK.extract rfl rfl) ?_ | refine WO.ops (StepK.build rfl rfl) ?_ | refine WO.ops (StepK.mkFn rfl rfl) ?_ | refine WO.ops (StepK.field rfl rfl) ?_ | refine WO.ops (StepK.lenStr rfl) ?_ | refine WO.ops (StepK.nilck rfl) ?_ | refine WO.ops (StepK.min2 rfl rfl) ?_ | refine WO.ops (StepK.max2 rfl rfl) ?_ | refine WO.ops (StepK.load1 rfl (by first | with_reducible assumption | rfl)) ?_ | refine WO.run rfl ?_ | refine WO.skip rfl rfl ?_ | refine WO.skipu rfl ?_))
    refine WO.call rfl rfl (oldestA S g6.wf A6 0 (by decide) (hb 0)) ?_
    rintro v h7 ⟨rfl, p7, lo7⟩
    (repeat (first | refine WO.ops (StepK.mv rfl) ?_ | refine WO.ops (StepK.lenSl rfl (by first | with_reducible assumption | rfl)) ?_ | refine WO.ops (StepK.fieldAddr rfl) ?_ | refine WO.ops (StepK.add rfl rfl (by omega)) ?_ | refine WO.ops (StepK.sub rfl rfl (by omega)) ?_ | refine WO.ops (StepK.bin rfl rfl rfl) ?_ | refine WO.ops (StepK.pickT rfl rfl) ?_ | refine WO.ops (StepK.pickF rfl rfl) ?_ | refine WO.ops (StepK.not rfl) ?_ | refine WO.ops (StepK.eq rfl rfl rfl) ?_ | refine WO.ops (StepK.extract rfl rfl) ?_ | refine WO.ops (StepK.build rfl rfl) ?_ | refine WO.ops (StepK.mkFn rfl rfl) ?_ | refine WO.ops (StepK.field rfl rfl) ?_ | refine WO.ops (StepK.lenStr rfl) ?_ | refine WO.ops (StepK.nilck rfl) ?_ | refine WO.ops (StepK.min2 rfl rfl) ?_ | refine WO.ops (StepK.max2 rfl rfl) ?_ | refine WO.ops (StepK.load1 rfl (by first | with_reducible assumption | rfl)) ?_ | refine WO.run rfl ?_ | refine WO.skip rfl rfl ?_ | refine WO.skipu rfl ?_))
    have hfs : freshS s = (s.t1.headD [], { s with t1 := s.t1.tail }) := by rw [freshS, if_pos hc1]
    refine WO.nil (WC.ret (hQ _ _ h7 (by rw [hfs]; exact p7.growl g6) ?_ (by rw [hfs]; rfl)))
    rcases lo7 with e | e
    · exact .inl e
    · rw [hfs]; exact .inr (as_tail1 e)
  have retQ : ∀ k (e' : List (Nat × V)) h', APost h h' a F (freshS s).2 → (h'.low ≤ a ∨ (freshS s).2 = s) → k = (freshS s).1 → Fin .ret ∧ ∃ v, retE ((2, .str k) :: e') h' [.tmp 2] = some v ∧ (∀ n, n ≤ h'.low → v = .str (freshS s).1 ∧ APost h { h' with low := n } a F (freshS s).2) ∧ (h.size ≤ h'.low → v.scopd h.size = true → v = .str (freshS s).1 ∧ APost h h a F (freshS s).2) := by
    intro k e' h' p7 lo hk
    refine ⟨trivial, .str k, rfl, fun n hn => ⟨by rw [hk], p7.low n⟩, fun hc _ => ⟨by rw [hk], ?_⟩⟩
    rcases lo with e | e
    · omega
    · rw [e]; exact A.post (Grow.refl hw)
  refine WO.splitG rfl (fun hc1 => ?_) (fun hc1 => ?_)
  · have hc1 := of_decide_eq_true hc1
    refine WO.run rfl (WO.ops (StepK.mv rfl) ?_)
    refine WO.run rfl (WO.ops (StepK.bin rfl rfl (eql_nn _ _)) ?_)
    refine WO.ops (StepK.pickT rfl rfl) ?_
    refine WO.ops (StepK.mv rfl) (WO.nil (WC.cond rfl (fun hc2 => ?_) (fun hc2 => ?_)))
    · have hc2 := of_decide_eq_true hc2
      exact fin1 _ (Cov.cons rfl (Cov.cons rfl (Cov.cons rfl (Cov.cons rfl (Cov.nil _))))) ⟨hc1, by omega⟩ _ fun k e' h' p lo hk => retQ k e' h' p lo hk
    · have hc2 := of_decide_eq_false hc2
      refine rest _ _ (Cov.cons rfl (Cov.cons rfl (Cov.cons rfl (Cov.cons rfl (Cov.nil _))))) (by omega) (fun e' h' s' c1 c2 c3 c4 c5 => ⟨s', c1, c2, c3, c4, c5⟩) (fun e' h' g' hfs => ?_)
      exact retQ _ e' h' (by rw [hfs]; exact A.post g') (by rw [hfs]; exact .inr rfl) (by rw [hfs])
  · have hc1 := of_decide_eq_false hc1
    (repeat (first | refine WO.ops (StepK.mv rfl) ?_ | refine WO.ops (StepK.lenSl rfl (by first | with_reducible assumption | rfl)) ?_ | refine WO.ops (StepK.fieldAddr rfl) ?_ | refine WO.ops (StepK.add rfl rfl (by omega)) ?_ | refine WO.ops (StepK.sub rfl rfl (by omega)) ?_ | refine WO.ops (StepK.bin rfl rfl rfl) ?_ | refine WO.ops (StepK.pickT rfl rfl) ?_ | refine WO.ops (StepK.pickF rfl rfl) ?_ | refine WO.ops (StepK.not rfl) ?_ | refine WO.ops (StepK.eq rfl rfl rfl) ?_ | refine WO.ops (StepK.extract rfl rfl) ?_ | refine WO.ops (StepK.build rfl rfl) ?_ | refine WO.ops (StepK.mkFn rfl rfl) ?_ | refine WO.ops (StepK.field rfl rfl) ?_ | refine WO.ops (StepK.lenStr rfl) ?_ | refine WO.ops (StepK.nilck rfl) ?_ | refine WO.ops (StepK.min2 rfl rfl) ?_ | refine WO.ops (StepK.max2 rfl rfl) ?_ | refine WO.ops (StepK.load1 rfl (by first | with_reducible assumption | rfl)) ?_ | refine WO.run rfl ?_ | refine WO.skip rfl rfl ?_ | refine WO.skipu rfl ?_))
    refine WO.nil (WC.condF rfl ?_)
    refine rest _ _ (Cov.cons rfl (Cov.cons rfl (Cov.cons rfl (Cov.cons rfl (Cov.nil _))))) (by omega) (fun e' h' s' c1 c2 c3 c4 c5 => ⟨s', c1, c2, c3, c4, c5⟩) (fun e' h' g' hfs => ?_)
    exact retQ _ e' h' (by rw [hfs]; exact A.post g') (by rw [hfs]; exact .inr rfl) (by rw [hfs])
end
end Abs
end Go.Proofs.Ytnbljblnikdeiaa
