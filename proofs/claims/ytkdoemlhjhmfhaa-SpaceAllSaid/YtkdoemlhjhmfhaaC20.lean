/- Layer 7: SpaceAll. -/
import Derived.Test.YtkdoemlhjhmfhaaC19
namespace Go.Proofs.Ytkdoemlhjhmfhaa
namespace Abs
set_option linter.unusedVariables false
set_option linter.unusedSimpArgs false
set_option maxHeartbeats 3200000
open Go.RowKit
attribute [local irreducible] WO WC WD StepK Ans Does Runs DoesD

structure AI (h : Heap) (U : List Bool) (t : Nat) (h' : Heap) (k : Nat) (u : V) (X : List (Int × Int)) : Prop where
  grow : Grow h h'
  sl : Sl h' 2 u (X.map rn)
  le : k ≤ U.length
  len : X.length ≤ k
  may : May (-1) X
  ins : ∀ p, InR X p ↔ ∃ j : Nat, j < k ∧ p = ((j + t) % U.length : Nat) ∧ U[(j + t) % U.length]? = some false

theorem all_ans {C : Cfg} (hS : ∀ f args h, f ≠ 8 → C.S f args h = none) (hT : C.F = tab) (hlive : ∀ h, Wf h → Ans C 8 [] h fun v h' => v = .bool true ∧ Grow h h') (h : Heap) (hw : Wf h) (y : V) (U : List Bool) (turn : Int) (hy : Sl h 1 y (U.map fun u => [.bool u])) (hturn : turn < 9223372036854775808) : Ans C 5 [y, iv turn] h fun v h' => v = .bool true ∧ Grow h h' := by
  refine Ans.val (fun _ _ => hS _ _ _ (by decide)) (show C.F 5 = some a5 by rw [hT]; rfl) rfl rfl hw fun h2 g => ?_
  have hsu : slLen y = some U.length := by rw [hy.len, List.length_map]
  refine WC.seqO ?_
  (repeat (first | refine WO.ops (StepK.mv rfl) ?_ | refine WO.ops (StepK.lenSl rfl (by first | with_reducible assumption | rfl)) ?_ | refine WO.ops (StepK.fieldAddr rfl) ?_ | refine WO.ops (StepK.add rfl rfl (by omega)) ?_ | refine WO.ops (StepK.sub rfl rfl (by omega)) ?_ | refine WO.ops (StepK.bin rfl rfl rfl) ?_ | refine WO.ops (StepK.pickT rfl rfl) ?_ | refine WO.ops (StepK.pickF rfl rfl) ?_ | refine WO.ops (StepK.not rfl) ?_ | refine WO.ops (StepK.eq rfl rfl rfl) ?_ | refine WO.ops (StepK.extract rfl rfl) ?_ | refine WO.ops (StepK.build rfl rfl) ?_ | refine WO.ops (StepK.mkFn rfl rfl) ?_ | refine WO.ops (StepK.field rfl rfl) ?_ | refine WO.ops (StepK.lenStr rfl) ?_ | refine WO.ops (StepK.min2 rfl rfl) ?_ | refine WO.ops (StepK.max2 rfl rfl) ?_ | refine WO.ops (StepK.load1 rfl (by first | with_reducible assumption | rfl)) ?_ | refine WO.run rfl ?_ | refine WO.skip rfl rfl ?_ | refine WO.skipu rfl ?_))
  refine WO.nil (WC.seq (WC.seqO ?_))
  refine WO.ops (StepK.mv rfl) ?_
  refine WO.ops (StepK.lenSl rfl hsu) ?_
  (repeat (first | refine WO.ops (StepK.mv rfl) ?_ | refine WO.ops (StepK.lenSl rfl (by first | with_reducible assumption | rfl)) ?_ | refine WO.ops (StepK.fieldAddr rfl) ?_ | refine WO.ops (StepK.add rfl rfl (by omega)) ?_ | refine WO.ops (StepK.sub rfl rfl (by omega)) ?_ | refine WO.ops (StepK.bin rfl rfl rfl) ?_ | refine WO.ops (StepK.pickT rfl rfl) ?_ | refine WO.ops (StepK.pickF rfl rfl) ?_ | refine WO.ops (StepK.not rfl) ?_ | refine WO.ops (StepK.eq rfl rfl rfl) ?_ | refine WO.ops (StepK.extract rfl rfl) ?_ | refine WO.ops (StepK.build rfl rfl) ?_ | refine WO.ops (StepK.mkFn rfl rfl) ?_ | refine WO.ops (StepK.field rfl rfl) ?_ | refine WO.ops (StepK.lenStr rfl) ?_ | refine WO.ops (StepK.min2 rfl rfl) ?_ | refine WO.ops (StepK.max2 rfl rfl) ?_ | refine WO.ops (StepK.load1 rfl (by first | with_reducible assumption | rfl)) ?_ | refine WO.run rfl ?_ | refine WO.skip rfl rfl ?_ | refine WO.skipu rfl ?_))
  have early : ∀ (e : List (Nat × V)) (Q : Ex → List (Nat × V) → Heap → Prop), (∀ e' h', Grow h h' → Env.get e' 4 = some (.bool true) → Q .ret e' h') → WC C (.seq (.ops [⟨(some 23), none, .call (.c (.func (.func 8) [] [])) []⟩, ⟨(some 4), none, .mv (.t 23)⟩]) (.ret)) e h2 Q := by
    intro e Q hQ
    refine WC.seqO ?_
    refine WO.call rfl rfl (hlive h2 g.wf) ?_
    rintro v h3 ⟨rfl, g3⟩
    (repeat (first | refine WO.ops (StepK.mv rfl) ?_ | refine WO.ops (StepK.lenSl rfl (by first | with_reducible assumption | rfl)) ?_ | refine WO.ops (StepK.fieldAddr rfl) ?_ | refine WO.ops (StepK.add rfl rfl (by omega)) ?_ | refine WO.ops (StepK.sub rfl rfl (by omega)) ?_ | refine WO.ops (StepK.bin rfl rfl rfl) ?_ | refine WO.ops (StepK.pickT rfl rfl) ?_ | refine WO.ops (StepK.pickF rfl rfl) ?_ | refine WO.ops (StepK.not rfl) ?_ | refine WO.ops (StepK.eq rfl rfl rfl) ?_ | refine WO.ops (StepK.extract rfl rfl) ?_ | refine WO.ops (StepK.build rfl rfl) ?_ | refine WO.ops (StepK.mkFn rfl rfl) ?_ | refine WO.ops (StepK.field rfl rfl) ?_ | refine WO.ops (StepK.lenStr rfl) ?_ | refine WO.ops (StepK.min2 rfl rfl) ?_ | refine WO.ops (StepK.max2 rfl rfl) ?_ | refine WO.ops (StepK.load1 rfl (by first | with_reducible assumption | rfl)) ?_ | refine WO.run rfl ?_ | refine WO.skip rfl rfl ?_ | refine WO.skipu rfl ?_))
    exact WO.nil (WC.ret (hQ _ _ (g.trans g3) rfl))
  refine WO.splitG rfl (fun hc => ?_) (fun hc => ?_)
  · (repeat (first | refine WO.ops (StepK.mv rfl) ?_ | refine WO.ops (StepK.lenSl rfl (by first | with_reducible assumption | rfl)) ?_ | refine WO.ops (StepK.fieldAddr rfl) ?_ | refine WO.ops (StepK.add rfl rfl (by omega)) ?_ | refine WO.ops (StepK.sub rfl rfl (by omega)) ?_ | refine WO.ops (StepK.bin rfl rfl rfl) ?_ | refine WO.ops (StepK.pickT rfl rfl) ?_ | refine WO.ops (StepK.pickF rfl rfl) ?_ | refine WO.ops (StepK.not rfl) ?_ | refine WO.ops (StepK.eq rfl rfl rfl) ?_ | refine WO.ops (StepK.extract rfl rfl) ?_ | refine WO.ops (StepK.build rfl rfl) ?_ | refine WO.ops (StepK.mkFn rfl rfl) ?_ | refine WO.ops (StepK.field rfl rfl) ?_ | refine WO.ops (StepK.lenStr rfl) ?_ | refine WO.ops (StepK.min2 rfl rfl) ?_ | refine WO.ops (StepK.max2 rfl rfl) ?_ | refine WO.ops (StepK.load1 rfl (by first | with_reducible assumption | rfl)) ?_ | refine WO.run rfl ?_ | refine WO.skip rfl rfl ?_ | refine WO.skipu rfl ?_))
    refine WO.nil (WC.condT rfl (early _ _ fun e' h' g' he => ⟨trivial, g', ?_⟩))
    simp only [retE, ressE, resE, he, oneOf]
  have hc := of_decide_eq_false hc
  refine WO.run rfl ?_
  refine WO.ops (StepK.mv rfl) ?_
  refine WO.run rfl ?_
  refine WO.ops (StepK.lenSl rfl hsu) ?_
  have hz : binA .eql (iv U.length) (iv 0) = some (.bool (decide (U.length = 0))) := by
    simp only [binA, if_true]
    congr 2
    rw [Bool.eq_iff_iff]
    simp
  refine WO.run rfl ?_
  refine WO.ops (StepK.bin rfl rfl hz) ?_
  (repeat (first | refine WO.ops (StepK.mv rfl) ?_ | refine WO.ops (StepK.lenSl rfl (by first | with_reducible assumption | rfl)) ?_ | refine WO.ops (StepK.fieldAddr rfl) ?_ | refine WO.ops (StepK.add rfl rfl (by omega)) ?_ | refine WO.ops (StepK.sub rfl rfl (by omega)) ?_ | refine WO.ops (StepK.bin rfl rfl rfl) ?_ | refine WO.ops (StepK.pickT rfl rfl) ?_ | refine WO.ops (StepK.pickF rfl rfl) ?_ | refine WO.ops (StepK.not rfl) ?_ | refine WO.ops (StepK.eq rfl rfl rfl) ?_ | refine WO.ops (StepK.extract rfl rfl) ?_ | refine WO.ops (StepK.build rfl rfl) ?_ | refine WO.ops (StepK.mkFn rfl rfl) ?_ | refine WO.ops (StepK.field rfl rfl) ?_ | refine WO.ops (StepK.lenStr rfl) ?_ | refine WO.ops (StepK.min2 rfl rfl) ?_ | refine WO.ops (StepK.max2 rfl rfl) ?_ | refine WO.ops (StepK.load1 rfl (by first | with_reducible assumption | rfl)) ?_ | refine WO.run rfl ?_ | refine WO.skip rfl rfl ?_ | refine WO.skipu rfl ?_))
  refine WO.splitG rfl (fun hc1 => ?_) (fun hc1 => ?_)
  · (repeat (first | refine WO.ops (StepK.mv rfl) ?_ | refine WO.ops (StepK.lenSl rfl (by first | with_reducible assumption | rfl)) ?_ | refine WO.ops (StepK.fieldAddr rfl) ?_ | refine WO.ops (StepK.add rfl rfl (by omega)) ?_ | refine WO.ops (StepK.sub rfl rfl (by omega)) ?_ | refine WO.ops (StepK.bin rfl rfl rfl) ?_ | refine WO.ops (StepK.pickT rfl rfl) ?_ | refine WO.ops (StepK.pickF rfl rfl) ?_ | refine WO.ops (StepK.not rfl) ?_ | refine WO.ops (StepK.eq rfl rfl rfl) ?_ | refine WO.ops (StepK.extract rfl rfl) ?_ | refine WO.ops (StepK.build rfl rfl) ?_ | refine WO.ops (StepK.mkFn rfl rfl) ?_ | refine WO.ops (StepK.field rfl rfl) ?_ | refine WO.ops (StepK.lenStr rfl) ?_ | refine WO.ops (StepK.min2 rfl rfl) ?_ | refine WO.ops (StepK.max2 rfl rfl) ?_ | refine WO.ops (StepK.load1 rfl (by first | with_reducible assumption | rfl)) ?_ | refine WO.run rfl ?_ | refine WO.skip rfl rfl ?_ | refine WO.skipu rfl ?_))
    refine WO.nil (WC.condT rfl (early _ _ fun e' h' g' he => ⟨trivial, g', ?_⟩))
    simp only [retE, ressE, resE, he, oneOf]
  have hc1 := of_decide_eq_false hc1
  (repeat (first | refine WO.ops (StepK.mv rfl) ?_ | refine WO.ops (StepK.lenSl rfl (by first | with_reducible assumption | rfl)) ?_ | refine WO.ops (StepK.fieldAddr rfl) ?_ | refine WO.ops (StepK.add rfl rfl (by omega)) ?_ | refine WO.ops (StepK.sub rfl rfl (by omega)) ?_ | refine WO.ops (StepK.bin rfl rfl rfl) ?_ | refine WO.ops (StepK.pickT rfl rfl) ?_ | refine WO.ops (StepK.pickF rfl rfl) ?_ | refine WO.ops (StepK.not rfl) ?_ | refine WO.ops (StepK.eq rfl rfl rfl) ?_ | refine WO.ops (StepK.extract rfl rfl) ?_ | refine WO.ops (StepK.build rfl rfl) ?_ | refine WO.ops (StepK.mkFn rfl rfl) ?_ | refine WO.ops (StepK.field rfl rfl) ?_ | refine WO.ops (StepK.lenStr rfl) ?_ | refine WO.ops (StepK.min2 rfl rfl) ?_ | refine WO.ops (StepK.max2 rfl rfl) ?_ | refine WO.ops (StepK.load1 rfl (by first | with_reducible assumption | rfl)) ?_ | refine WO.run rfl ?_ | refine WO.skip rfl rfl ?_ | refine WO.skipu rfl ?_))
  refine WO.nil (WC.cond rfl (fun hc2 => early _ _ fun e' h' g' he => ⟨trivial, g', ?_⟩) (fun hc2 => WC.skip (WC.seqO ?_)))
  · simp only [retE, ressE, resE, he, oneOf]
  have hc2 := of_decide_eq_false hc2
  obtain ⟨T, rfl⟩ : ∃ T : Nat, turn = T := ⟨turn.toNat, by omega⟩
  refine WO.ops (StepK.mv rfl) ?_
  refine WO.call rfl rfl (of_ans hS (show C.F 18 = some a18 by rw [hT]; rfl) (show C.F 24 = some a24 by rw [hT]; rfl) h2 g.wf y U (hy.grow g) (by omega)) ?_
  rintro z h3 ⟨hz3, g3⟩
  have hz3 := hz3.sl
  have g3 := g.trans g3
  obtain ⟨om, oin⟩ := of_places U 0 [] (by omega) trivial (by simp)
  have olen : (ofF 0 [] U).length ≤ U.length := by
    have key : ∀ (U : List Bool) (i : Int) (R : List (Int × Int)), (ofF i R U).length ≤ R.length + U.length := by
      intro U
      induction U with
      | nil => intro i R; simp [ofF]
      | cons u l ih =>
        intro i R
        simp only [ofF]
        refine Nat.le_trans (ih _ _) ?_
        have : (if u = true then R else addF R i).length ≤ R.length + 1 := by
          split
          · omega
          · unfold addF
            split
            · split <;> simp
            · simp
        simp only [List.length_cons]; omega
    simpa using key U 0 []
  have oin' : ∀ k : Nat, k < U.length → (InR (ofF 0 [] U) k ↔ U[k]? = some false) := by
    intro k hk
    have := oin k
    simp only [Int.natCast_zero] at this
    rw [this]
    constructor
    · rintro (q | ⟨j, q1, q2⟩)
      · exact (inR_nil _ q).elim
      · have : j = k := by omega
        subst this; exact q2
    · intro q; exact .inr ⟨k, by omega, q⟩
  simp only [Int.natCast_zero] at om
  have omf := (may_iff _ _).2 om
  have obd := mayF_bounds _ (-1) (by omega) omf
  generalize hL : ofF 0 [] U = L at *
  (repeat (first | refine WO.ops (StepK.mv rfl) ?_ | refine WO.ops (StepK.lenSl rfl (by first | with_reducible assumption | rfl)) ?_ | refine WO.ops (StepK.fieldAddr rfl) ?_ | refine WO.ops (StepK.add rfl rfl (by omega)) ?_ | refine WO.ops (StepK.sub rfl rfl (by omega)) ?_ | refine WO.ops (StepK.bin rfl rfl rfl) ?_ | refine WO.ops (StepK.pickT rfl rfl) ?_ | refine WO.ops (StepK.pickF rfl rfl) ?_ | refine WO.ops (StepK.not rfl) ?_ | refine WO.ops (StepK.eq rfl rfl rfl) ?_ | refine WO.ops (StepK.extract rfl rfl) ?_ | refine WO.ops (StepK.build rfl rfl) ?_ | refine WO.ops (StepK.mkFn rfl rfl) ?_ | refine WO.ops (StepK.field rfl rfl) ?_ | refine WO.ops (StepK.lenStr rfl) ?_ | refine WO.ops (StepK.min2 rfl rfl) ?_ | refine WO.ops (StepK.max2 rfl rfl) ?_ | refine WO.ops (StepK.load1 rfl (by first | with_reducible assumption | rfl)) ?_ | refine WO.run rfl ?_ | refine WO.skip rfl rfl ?_ | refine WO.skipu rfl ?_))
  refine WO.nil (WC.seqO ?_)
  (repeat (first | refine WO.ops (StepK.mv rfl) ?_ | refine WO.ops (StepK.lenSl rfl (by first | with_reducible assumption | rfl)) ?_ | refine WO.ops (StepK.fieldAddr rfl) ?_ | refine WO.ops (StepK.add rfl rfl (by omega)) ?_ | refine WO.ops (StepK.sub rfl rfl (by omega)) ?_ | refine WO.ops (StepK.bin rfl rfl rfl) ?_ | refine WO.ops (StepK.pickT rfl rfl) ?_ | refine WO.ops (StepK.pickF rfl rfl) ?_ | refine WO.ops (StepK.not rfl) ?_ | refine WO.ops (StepK.eq rfl rfl rfl) ?_ | refine WO.ops (StepK.extract rfl rfl) ?_ | refine WO.ops (StepK.build rfl rfl) ?_ | refine WO.ops (StepK.mkFn rfl rfl) ?_ | refine WO.ops (StepK.field rfl rfl) ?_ | refine WO.ops (StepK.lenStr rfl) ?_ | refine WO.ops (StepK.min2 rfl rfl) ?_ | refine WO.ops (StepK.max2 rfl rfl) ?_ | refine WO.ops (StepK.load1 rfl (by first | with_reducible assumption | rfl)) ?_ | refine WO.run rfl ?_ | refine WO.skip rfl rfl ?_ | refine WO.skipu rfl ?_))
  refine WO.nil (WC.seq (WC.seqO ?_))
  (repeat (first | refine WO.ops (StepK.mv rfl) ?_ | refine WO.ops (StepK.lenSl rfl (by first | with_reducible assumption | rfl)) ?_ | refine WO.ops (StepK.fieldAddr rfl) ?_ | refine WO.ops (StepK.add rfl rfl (by omega)) ?_ | refine WO.ops (StepK.sub rfl rfl (by omega)) ?_ | refine WO.ops (StepK.bin rfl rfl rfl) ?_ | refine WO.ops (StepK.pickT rfl rfl) ?_ | refine WO.ops (StepK.pickF rfl rfl) ?_ | refine WO.ops (StepK.not rfl) ?_ | refine WO.ops (StepK.eq rfl rfl rfl) ?_ | refine WO.ops (StepK.extract rfl rfl) ?_ | refine WO.ops (StepK.build rfl rfl) ?_ | refine WO.ops (StepK.mkFn rfl rfl) ?_ | refine WO.ops (StepK.field rfl rfl) ?_ | refine WO.ops (StepK.lenStr rfl) ?_ | refine WO.ops (StepK.min2 rfl rfl) ?_ | refine WO.ops (StepK.max2 rfl rfl) ?_ | refine WO.ops (StepK.load1 rfl (by first | with_reducible assumption | rfl)) ?_ | refine WO.run rfl ?_ | refine WO.skip rfl rfl ?_ | refine WO.skipu rfl ?_))
  have htn : T % U.length < U.length := Nat.mod_lt _ (by omega)
  refine WO.nil (WC.block ?_)
  refine WC.loop (σ := Nat × V × List (Int × Int)) (fun s => [(0, y), (1, iv T), (5, z), (6, s.2.1), (7, iv s.1)])
    (fun s h' => AI h U (T % U.length) h' s.1 s.2.1 s.2.2 ∧ Sl h' 2 z (L.map rn)) (fun s => U.length - s.1) (0, .slice none 0 0, []) ?_ ⟨⟨g3, Sl.nil h3 2, by omega, by simp, trivial, fun p => ⟨fun q => (inR_nil p q).elim, fun ⟨j, q, _⟩ => by omega⟩⟩, hz3⟩ ?_
  · exact Cov.cons rfl (Cov.cons rfl (Cov.cons rfl (Cov.cons rfl (Cov.cons rfl (Cov.nil _)))))
  rintro ⟨k, u, X⟩ h4 ⟨ai, hz4⟩
  simp only at ai
  have hkl := ai.le
  have hxl := ai.len
  have g4 := ai.grow
  have xbd := mayF_bounds X (-1) (by omega) ((may_iff _ _).2 ai.may)
  refine WC.seq (WC.seqO ?_)
  refine WO.ops (StepK.mv rfl) ?_
  refine WO.ops (StepK.mv rfl) ?_
  refine WO.ops (StepK.lenSl rfl hsu) ?_
  (repeat (first | refine WO.ops (StepK.mv rfl) ?_ | refine WO.ops (StepK.lenSl rfl (by first | with_reducible assumption | rfl)) ?_ | refine WO.ops (StepK.fieldAddr rfl) ?_ | refine WO.ops (StepK.add rfl rfl (by omega)) ?_ | refine WO.ops (StepK.sub rfl rfl (by omega)) ?_ | refine WO.ops (StepK.bin rfl rfl rfl) ?_ | refine WO.ops (StepK.pickT rfl rfl) ?_ | refine WO.ops (StepK.pickF rfl rfl) ?_ | refine WO.ops (StepK.not rfl) ?_ | refine WO.ops (StepK.eq rfl rfl rfl) ?_ | refine WO.ops (StepK.extract rfl rfl) ?_ | refine WO.ops (StepK.build rfl rfl) ?_ | refine WO.ops (StepK.mkFn rfl rfl) ?_ | refine WO.ops (StepK.field rfl rfl) ?_ | refine WO.ops (StepK.lenStr rfl) ?_ | refine WO.ops (StepK.min2 rfl rfl) ?_ | refine WO.ops (StepK.max2 rfl rfl) ?_ | refine WO.ops (StepK.load1 rfl (by first | with_reducible assumption | rfl)) ?_ | refine WO.run rfl ?_ | refine WO.skip rfl rfl ?_ | refine WO.skipu rfl ?_))
  refine WO.nil (WC.cond rfl (fun hc3 => WC.skip ?_) (fun hc3 => WC.exit (WC.seqO ?_)))
  rotate_left
  · have hc3 := of_decide_eq_false hc3
    have : k = U.length := by omega
    subst this
    have hXL : X = L := by
      refine may_same X L (-1) (-1) ai.may om fun p => ?_
      rw [ai.ins p, oin p]
      constructor
      · rintro ⟨j, q1, q2, q3⟩
        exact .inr ⟨(j + T % U.length) % U.length, by simpa using q2, q3⟩
      · rintro (q | ⟨j, q1, q2⟩)
        · exact (inR_nil p q).elim
        · have hj : j < U.length := (List.getElem?_eq_some_iff.1 q2).1
          have e : ((j + U.length - T % U.length) % U.length + T % U.length) % U.length = j := by
            rw [mod_two (a := j + U.length - T % U.length) (by omega)]
            split
            · rw [mod_two (by omega)]; split <;> omega
            · rw [mod_two (by omega)]; split <;> omega
          refine ⟨(j + U.length - T % U.length) % U.length, Nat.mod_lt _ (by omega), ?_, ?_⟩
          · rw [e]; simpa using q1
          · rw [e]; exact q2
    have hXL2 : decide (X = L) = true := decide_eq_true hXL
    refine WO.ops (StepK.mv rfl) ?_
    refine WO.call rfl rfl (own_ans hS (f := 17) (by decide) (show C.F 17 = some a9 by rw [hT]; rfl) h4 g4.wf u X ai.sl (by omega)) ?_
    rintro q1 h5 ⟨hq1, g5⟩
    have hq1 := hq1.sl
    have hz5 := hz4.grow g5
    have g5 := g4.trans g5
    refine WO.ops (StepK.mv rfl) ?_
    refine WO.call rfl rfl (own_ans hS (f := 17) (by decide) (show C.F 17 = some a9 by rw [hT]; rfl) h5 g5.wf z L hz5 (by omega)) ?_
    rintro q2 h6 ⟨hq2, g6⟩
    have hq2 := hq2.sl
    have hq1 := hq1.grow g6
    have hz6 := hz5.grow g6
    have g6 := g5.trans g6
    refine WO.call rfl rfl (same_ans hS (show C.F 16 = some a16 by rw [hT]; rfl) h6 g6.wf q1 q2 _ _ hq1 hq2 (by omega) (by omega)) ?_
    rintro v h7 ⟨rfl, g7⟩
    have hz7 := hz6.grow g7
    have g7 := g6.trans g7
    rw [hXL2]
    (repeat (first | refine WO.ops (StepK.mv rfl) ?_ | refine WO.ops (StepK.lenSl rfl (by first | with_reducible assumption | rfl)) ?_ | refine WO.ops (StepK.fieldAddr rfl) ?_ | refine WO.ops (StepK.add rfl rfl (by omega)) ?_ | refine WO.ops (StepK.sub rfl rfl (by omega)) ?_ | refine WO.ops (StepK.bin rfl rfl rfl) ?_ | refine WO.ops (StepK.pickT rfl rfl) ?_ | refine WO.ops (StepK.pickF rfl rfl) ?_ | refine WO.ops (StepK.not rfl) ?_ | refine WO.ops (StepK.eq rfl rfl rfl) ?_ | refine WO.ops (StepK.extract rfl rfl) ?_ | refine WO.ops (StepK.build rfl rfl) ?_ | refine WO.ops (StepK.mkFn rfl rfl) ?_ | refine WO.ops (StepK.field rfl rfl) ?_ | refine WO.ops (StepK.lenStr rfl) ?_ | refine WO.ops (StepK.min2 rfl rfl) ?_ | refine WO.ops (StepK.max2 rfl rfl) ?_ | refine WO.ops (StepK.load1 rfl (by first | with_reducible assumption | rfl)) ?_ | refine WO.run rfl ?_ | refine WO.skip rfl rfl ?_ | refine WO.skipu rfl ?_))
    refine WO.call rfl rfl (may_ans hS (show C.F 10 = some a10 by rw [hT]; rfl) (show C.F 24 = some a24 by rw [hT]; rfl) h7 g7.wf z L hz7 (fun r hr => by have := obd r hr; omega) (by omega)) ?_
    rintro v h8 ⟨rfl, g8⟩
    have g8 := g7.trans g8
    rw [omf]
    (repeat (first | refine WO.ops (StepK.mv rfl) ?_ | refine WO.ops (StepK.lenSl rfl (by first | with_reducible assumption | rfl)) ?_ | refine WO.ops (StepK.fieldAddr rfl) ?_ | refine WO.ops (StepK.add rfl rfl (by omega)) ?_ | refine WO.ops (StepK.sub rfl rfl (by omega)) ?_ | refine WO.ops (StepK.bin rfl rfl rfl) ?_ | refine WO.ops (StepK.pickT rfl rfl) ?_ | refine WO.ops (StepK.pickF rfl rfl) ?_ | refine WO.ops (StepK.not rfl) ?_ | refine WO.ops (StepK.eq rfl rfl rfl) ?_ | refine WO.ops (StepK.extract rfl rfl) ?_ | refine WO.ops (StepK.build rfl rfl) ?_ | refine WO.ops (StepK.mkFn rfl rfl) ?_ | refine WO.ops (StepK.field rfl rfl) ?_ | refine WO.ops (StepK.lenStr rfl) ?_ | refine WO.ops (StepK.min2 rfl rfl) ?_ | refine WO.ops (StepK.max2 rfl rfl) ?_ | refine WO.ops (StepK.load1 rfl (by first | with_reducible assumption | rfl)) ?_ | refine WO.run rfl ?_ | refine WO.skip rfl rfl ?_ | refine WO.skipu rfl ?_))
    refine WO.call rfl rfl (hlive h8 g8.wf) ?_
    rintro v h9 ⟨rfl, g9⟩
    (repeat (first | refine WO.ops (StepK.mv rfl) ?_ | refine WO.ops (StepK.lenSl rfl (by first | with_reducible assumption | rfl)) ?_ | refine WO.ops (StepK.fieldAddr rfl) ?_ | refine WO.ops (StepK.add rfl rfl (by omega)) ?_ | refine WO.ops (StepK.sub rfl rfl (by omega)) ?_ | refine WO.ops (StepK.bin rfl rfl rfl) ?_ | refine WO.ops (StepK.pickT rfl rfl) ?_ | refine WO.ops (StepK.pickF rfl rfl) ?_ | refine WO.ops (StepK.not rfl) ?_ | refine WO.ops (StepK.eq rfl rfl rfl) ?_ | refine WO.ops (StepK.extract rfl rfl) ?_ | refine WO.ops (StepK.build rfl rfl) ?_ | refine WO.ops (StepK.mkFn rfl rfl) ?_ | refine WO.ops (StepK.field rfl rfl) ?_ | refine WO.ops (StepK.lenStr rfl) ?_ | refine WO.ops (StepK.min2 rfl rfl) ?_ | refine WO.ops (StepK.max2 rfl rfl) ?_ | refine WO.ops (StepK.load1 rfl (by first | with_reducible assumption | rfl)) ?_ | refine WO.run rfl ?_ | refine WO.skip rfl rfl ?_ | refine WO.skipu rfl ?_))
    exact WO.nil (WC.ret ⟨trivial, g8.trans g9, rfl⟩)
  have hc3 := of_decide_eq_true hc3
  have hk : k < U.length := by omega
  have hul : (U.length : Int) ≤ 200 := by omega
  have r1 : binA .rem (iv T) (iv U.length) = some (iv ((T % U.length : Nat) : Int)) := by
    simp only [binA]
    rw [if_pos ⟨trivial, by omega⟩, Int.ofNat_tmod]
  have r2 : binA .rem (iv ((k : Int) + ((T % U.length : Nat) : Int))) (iv U.length) = some (iv (((k + T % U.length) % U.length : Nat) : Int)) := by
    simp only [binA]
    rw [if_pos ⟨trivial, by omega⟩, Int.ofNat_tmod]
    rfl
  have hal : (k + T % U.length) % U.length < U.length := Nat.mod_lt _ (by omega)
  refine WC.seq (WC.block (WC.seqO ?_))
  refine WO.ops (StepK.mv rfl) ?_
  refine WO.ops (StepK.mv rfl) ?_
  refine WO.ops (StepK.mv rfl) ?_
  refine WO.ops (StepK.lenSl rfl hsu) ?_
  refine WO.ops (StepK.bin rfl rfl r1) ?_
  refine WO.ops (StepK.add rfl rfl (by omega)) ?_
  refine WO.ops (StepK.mv rfl) ?_
  refine WO.ops (StepK.lenSl rfl hsu) ?_
  refine WO.ops (StepK.bin rfl rfl r2) ?_
  refine WO.ops (StepK.mv rfl) (WO.nil (WC.seq (WC.seqD ?_)))
  obtain ⟨b, o, k1, k2⟩ := (hy.grow g4).at (i := (k + T % U.length) % U.length) (by rw [List.length_map]; exact hal)
  rw [List.getElem_map] at k2
  have hget : U[(k + T % U.length) % U.length]? = some U[(k + T % U.length) % U.length] := List.getElem?_eq_getElem hal
  generalize hat : (k + T % U.length) % U.length = at_ at *
  generalize U[at_] = bit at *
  have q0 : h4.rd b o = some (.bool bit) := rds_rd k2 (j := 0) rfl
  have hhas : hasF L at_ = !bit := by
    have h1 := oin' at_ hal
    rw [hget] at h1
    have h2 := any_in omf (at_ : Int)
    have h3 : hasF L at_ = true ↔ some bit = some false := by
      rw [hasF, omf, Bool.true_and, h2]; exact h1
    cases bit with
    | true => simpa using h3
    | false => simpa using h3
  refine WD.pure (StepK.mv rfl) rfl ?_
  refine WD.pure (StepK.mv rfl) rfl ?_
  refine WD.pure (StepK.mv rfl) rfl ?_
  refine WD.pure (StepK.mv rfl) rfl ?_
  refine WD.pure (StepK.idxSl rfl rfl k1) rfl ?_
  refine WD.load1 rfl q0 ?_
  refine WD.call ⟨q0, trivial⟩ rfl rfl (has_ans hS (show C.F 14 = some a14 by rw [hT]; rfl) (show C.F 10 = some a10 by rw [hT]; rfl) (show C.F 24 = some a24 by rw [hT]; rfl) (show C.F 25 = some a25 by rw [hT]; rfl) (show C.F 26 = some a26 by rw [hT]; rfl) (show C.F 27 = some a27 by rw [hT]; rfl) h4 g4.wf z L at_ hz4 (fun r hr => by have := obd r hr; omega) (by omega)) ?_
  rintro v h5 ⟨rfl, g5⟩
  have q0 := g5.rd q0
  have hz5 := hz4.grow g5
  have hu5 := ai.sl.grow g5
  have g5 := g4.trans g5
  rw [hhas]
  have hne : eqA (.flat .bool) (.bool (!bit)) (.bool bit) = some false := by cases bit <;> rfl
  refine WD.pure (StepK.eq rfl rfl hne) rfl ?_
  refine WD.nil ⟨q0, trivial⟩ (WC.condF rfl (WC.skip (WC.seqO ?_)))
  refine WO.ops (StepK.mv rfl) ?_
  refine WO.ops (StepK.mv rfl) ?_
  refine WO.ops (StepK.idxSl rfl rfl k1) ?_
  refine WO.ops (StepK.load1 rfl q0) ?_
  refine WO.ops (StepK.not rfl) ?_
  have hn : ¬ InR X at_ := by
    intro q
    obtain ⟨j, q1, q2, q3⟩ := (ai.ins at_).1 q
    have e1 : (j + T % U.length) % U.length = at_ := by omega
    rw [mod_two (by omega)] at hat e1
    split at hat <;> split at e1 <;> omega
  have inc : ∀ (e : List (Nat × V)) (h7 : Heap) (u' : V) (X' : List (Int × Int)), Cov [(0, y), (1, iv T), (5, z), (6, u'), (7, iv k)] e → AI h U (T % U.length) h7 (k + 1) u' X' → Sl h7 2 z (L.map rn) → WC C (.ops [⟨(some 30), none, .mv (.t 7)⟩, ⟨(some 31), none, .bin .add (.t 30) (.c (.int .i64 (1)))⟩, ⟨(some 7), none, .mv (.t 31)⟩]) e h7 (fun x_1 e' h' => match x_1 with
      | .normal => ∃ s' : Nat × V × List (Int × Int), Cov [(0, y), (1, iv T), (5, z), (6, s'.2.1), (7, iv s'.1)] e' ∧ (AI h U (T % U.length) h' s'.1 s'.2.1 s'.2.2 ∧ Sl h' 2 z (L.map rn)) ∧ U.length - s'.1 < U.length - k
      | _ => False) := by
    intro e h7 u' X' hcv g7 hz7
    refine WC.cov hcv (WC.ops ?_)
    (repeat (first | refine WO.ops (StepK.mv rfl) ?_ | refine WO.ops (StepK.lenSl rfl (by first | with_reducible assumption | rfl)) ?_ | refine WO.ops (StepK.fieldAddr rfl) ?_ | refine WO.ops (StepK.add rfl rfl (by omega)) ?_ | refine WO.ops (StepK.sub rfl rfl (by omega)) ?_ | refine WO.ops (StepK.bin rfl rfl rfl) ?_ | refine WO.ops (StepK.pickT rfl rfl) ?_ | refine WO.ops (StepK.pickF rfl rfl) ?_ | refine WO.ops (StepK.not rfl) ?_ | refine WO.ops (StepK.eq rfl rfl rfl) ?_ | refine WO.ops (StepK.extract rfl rfl) ?_ | refine WO.ops (StepK.build rfl rfl) ?_ | refine WO.ops (StepK.mkFn rfl rfl) ?_ | refine WO.ops (StepK.field rfl rfl) ?_ | refine WO.ops (StepK.lenStr rfl) ?_ | refine WO.ops (StepK.min2 rfl rfl) ?_ | refine WO.ops (StepK.max2 rfl rfl) ?_ | refine WO.ops (StepK.load1 rfl (by first | with_reducible assumption | rfl)) ?_ | refine WO.run rfl ?_ | refine WO.skip rfl rfl ?_ | refine WO.skipu rfl ?_))
    refine WO.nil ⟨(k + 1, u', X'), ?_, ⟨g7, hz7⟩, by simp only; omega⟩
    exact Cov.cons rfl (Cov.cons rfl (Cov.cons rfl (Cov.cons rfl (Cov.cons rfl (Cov.nil _)))))
  have onlyN : ∀ (Q : Ex → List (Nat × V) → Heap → Prop) (N : List (Nat × V) → Heap → Prop), (∀ e h, N e h → Q .normal e h) → ∀ x1 e1 h1, (match x1 with
      | .normal => N e1 h1
      | _ => False : Prop) → Q x1 e1 h1 := by
    intro Q N hN x1 e1 h1 hq
    cases x1 with
    | normal => exact hN _ _ hq
    | ret => exact hq.elim
    | exit id => exact hq.elim
  cases bit with
  | true =>
    refine WO.nil (WC.condF rfl (WC.skip ?_))
    have ai' : AI h U (T % U.length) h5 (k + 1) u X := ⟨g5, hu5, by omega, by omega, ai.may, fun p => by
      rw [ai.ins p]
      constructor
      · rintro ⟨j, w1, w2, w3⟩; exact ⟨j, by omega, w2, w3⟩
      · rintro ⟨j, w1, w2, w3⟩
        rcases Nat.lt_or_ge j k with g | g
        · exact ⟨j, g, w2, w3⟩
        · have : j = k := by omega
          subst this
          rw [hat, hget] at w3; cases w3⟩
    refine (inc _ h5 u X (Cov.cons rfl (Cov.cons rfl (Cov.cons rfl (Cov.cons rfl (Cov.cons rfl (Cov.nil _)))))) ai' hz5).mono ?_
    exact onlyN _ _ fun e1 h1 hq => hq
  | false =>
    have hgv := give_new ai.may (p := at_) (by omega) (by omega) hn
    refine WO.nil (WC.condT rfl (WC.seqO ?_))
    refine WO.ops (StepK.mv rfl) ?_
    refine WO.ops (StepK.mv rfl) ?_
    refine WO.ops (StepK.build (cs := rn (at_, 1)) rfl rfl) ?_
    refine WO.call rfl rfl (give_ans hS (show C.F 22 = some a22 by rw [hT]; rfl) hT h5 g5.wf u X (at_, 1) hu5 (fun r hr => by have := xbd r hr; omega) (by simp) (by omega)) ?_
    rw [hgv]
    rintro v h6 ⟨u2, rfl, hu2, g6⟩
    have hz6 := hz5.grow g6
    have g6 := g5.trans g6
    simp only at hu2
    (repeat (first | refine WO.ops (StepK.mv rfl) ?_ | refine WO.ops (StepK.lenSl rfl (by first | with_reducible assumption | rfl)) ?_ | refine WO.ops (StepK.fieldAddr rfl) ?_ | refine WO.ops (StepK.add rfl rfl (by omega)) ?_ | refine WO.ops (StepK.sub rfl rfl (by omega)) ?_ | refine WO.ops (StepK.bin rfl rfl rfl) ?_ | refine WO.ops (StepK.pickT rfl rfl) ?_ | refine WO.ops (StepK.pickF rfl rfl) ?_ | refine WO.ops (StepK.not rfl) ?_ | refine WO.ops (StepK.eq rfl rfl rfl) ?_ | refine WO.ops (StepK.extract rfl rfl) ?_ | refine WO.ops (StepK.build rfl rfl) ?_ | refine WO.ops (StepK.mkFn rfl rfl) ?_ | refine WO.ops (StepK.field rfl rfl) ?_ | refine WO.ops (StepK.lenStr rfl) ?_ | refine WO.ops (StepK.min2 rfl rfl) ?_ | refine WO.ops (StepK.max2 rfl rfl) ?_ | refine WO.ops (StepK.load1 rfl (by first | with_reducible assumption | rfl)) ?_ | refine WO.run rfl ?_ | refine WO.skip rfl rfl ?_ | refine WO.skipu rfl ?_))
    refine WO.nil (WC.seq (WC.seqO ?_))
    (repeat (first | refine WO.ops (StepK.mv rfl) ?_ | refine WO.ops (StepK.lenSl rfl (by first | with_reducible assumption | rfl)) ?_ | refine WO.ops (StepK.fieldAddr rfl) ?_ | refine WO.ops (StepK.add rfl rfl (by omega)) ?_ | refine WO.ops (StepK.sub rfl rfl (by omega)) ?_ | refine WO.ops (StepK.bin rfl rfl rfl) ?_ | refine WO.ops (StepK.pickT rfl rfl) ?_ | refine WO.ops (StepK.pickF rfl rfl) ?_ | refine WO.ops (StepK.not rfl) ?_ | refine WO.ops (StepK.eq rfl rfl rfl) ?_ | refine WO.ops (StepK.extract rfl rfl) ?_ | refine WO.ops (StepK.build rfl rfl) ?_ | refine WO.ops (StepK.mkFn rfl rfl) ?_ | refine WO.ops (StepK.field rfl rfl) ?_ | refine WO.ops (StepK.lenStr rfl) ?_ | refine WO.ops (StepK.min2 rfl rfl) ?_ | refine WO.ops (StepK.max2 rfl rfl) ?_ | refine WO.ops (StepK.load1 rfl (by first | with_reducible assumption | rfl)) ?_ | refine WO.run rfl ?_ | refine WO.skip rfl rfl ?_ | refine WO.skipu rfl ?_))
    refine WO.nil (WC.condF rfl (WC.skip (WC.ops ?_)))
    (repeat (first | refine WO.ops (StepK.mv rfl) ?_ | refine WO.ops (StepK.lenSl rfl (by first | with_reducible assumption | rfl)) ?_ | refine WO.ops (StepK.fieldAddr rfl) ?_ | refine WO.ops (StepK.add rfl rfl (by omega)) ?_ | refine WO.ops (StepK.sub rfl rfl (by omega)) ?_ | refine WO.ops (StepK.bin rfl rfl rfl) ?_ | refine WO.ops (StepK.pickT rfl rfl) ?_ | refine WO.ops (StepK.pickF rfl rfl) ?_ | refine WO.ops (StepK.not rfl) ?_ | refine WO.ops (StepK.eq rfl rfl rfl) ?_ | refine WO.ops (StepK.extract rfl rfl) ?_ | refine WO.ops (StepK.build rfl rfl) ?_ | refine WO.ops (StepK.mkFn rfl rfl) ?_ | refine WO.ops (StepK.field rfl rfl) ?_ | refine WO.ops (StepK.lenStr rfl) ?_ | refine WO.ops (StepK.min2 rfl rfl) ?_ | refine WO.ops (StepK.max2 rfl rfl) ?_ | refine WO.ops (StepK.load1 rfl (by first | with_reducible assumption | rfl)) ?_ | refine WO.run rfl ?_ | refine WO.skip rfl rfl ?_ | refine WO.skipu rfl ?_))
    refine WO.nil ?_
    have hlen := giveF_len X ((at_ : Int), 1)
    rw [hgv] at hlen
    have hno : NoOv X ((at_ : Int), 1) := by
      intro s hs
      have := ai.may.pos s hs
      simp only
      rcases Int.lt_or_le at_ (s.1 + s.2) with q | q
      · rcases Int.lt_or_le at_ s.1 with q2 | q2
        · exact .inr (by omega)
        · exact absurd ⟨s, hs, q2, q⟩ hn
      · exact .inl q
    have ai' : AI h U (T % U.length) h6 (k + 1) u2 (insF X ((at_ : Int), 1)) := ⟨g6, hu2, by omega, by simp only at hlen; omega, may_ins X _ (-1) (by omega) ai.may (by simp only; omega) (by simp) (by simp only; omega) hno, fun p => by
      rw [in_ins X _ p ai.may.pos (by simp), ai.ins p]
      constructor
      · rintro (⟨j, w1, w2, w3⟩ | w)
        · exact ⟨j, by omega, w2, w3⟩
        · exact ⟨k, by omega, by rw [hat]; simp only at w; omega, by rw [hat]; exact hget⟩
      · rintro ⟨j, w1, w2, w3⟩
        rcases Nat.lt_or_ge j k with g | g
        · exact .inl ⟨j, g, w2, w3⟩
        · have : j = k := by omega
          subst this
          exact .inr (by simp only; omega)⟩
    refine (inc _ h6 u2 _ (Cov.cons rfl (Cov.cons rfl (Cov.cons rfl (Cov.cons rfl (Cov.cons rfl (Cov.nil _)))))) ai' hz6).mono ?_
    exact onlyN _ _ fun e1 h1 hq => hq
end Abs
end Go.Proofs.Ytkdoemlhjhmfhaa
