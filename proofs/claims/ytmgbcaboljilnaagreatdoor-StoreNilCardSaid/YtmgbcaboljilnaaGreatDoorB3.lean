/- What behind answers: the words behind a block of 64 bytes more. -/
import Derived.Test.YtmgbcaboljilnaaGreatDoorB2
namespace Go.Proofs.YtmgbcaboljilnaaGreatDoor
namespace Abs
set_option linter.unusedVariables false
set_option linter.unusedSimpArgs false
open Go.RowKit
attribute [local irreducible] WO WC WD StepK Ans Does Runs DoesD

theorem WC.seqM {C : Cfg} {a b : AC} {e : List (Nat × V)} {h : Heap} {Q : Ex → List (Nat × V) → Heap → Prop} {M : List (Nat × V) → Heap → Prop}
    (hx : WC C a e h (fun x e' h' => match x with | .normal => M e' h' | x => Q x e' h')) (hm : ∀ e' h', M e' h' → WC C b e' h' Q) : WC C (.seq a b) e h Q :=
  WC.seq (hx.mono fun x e' h' q => by
    cases x with
    | normal => exact hm e' h' q
    | exit id => exact q
    | ret => exact q)

theorem at_get {W : List Int} {i : Nat} (hi : i < W.length) : W.getD i 0 = at32 W i := rfl

theorem bin_mul {m n : Int} (h : -9223372036854775808 ≤ m * n ∧ m * n < 9223372036854775808) : binA .mul (iv m) (iv n) = some (iv (m * n)) := by
  simp only [binA, if_true]
  rw [StepK.wrap64 h.1 h.2]
theorem at_str {s : List Nat} {k : IntKind} {n : Int} (h0 : 0 ≤ n) (h1 : n.toNat < s.length) : atStrA (.str s) (.int k n) = some (.int .u8 (Int.ofNat (s.getD n.toNat 0))) := by
  simp only [atStrA, intV]
  rw [if_pos h0, List.getElem?_eq_getElem h1, List.getD_eq_getElem?_getD, List.getElem?_eq_getElem h1]
  rfl
theorem idx_at {n sz b : Nat} {k : IntKind} {i : Int} {j : Nat} (h : i = j) (h1 : j < n) (hs : sz = 1) : idxArrA n sz (.ptr (some (b, 0))) (.int k i) = some (.ptr (some (b, j))) := by
  subst h hs
  rw [idxArr_at (by omega) (by omega)]
  simp

section
variable {C : Cfg} (S : Std C)

/-- Memory at a block's work: the old words, the answer's, the words of the schedule. -/
structure BW (h h' : Heap) (b2 b4 b5 : Nat) (H Z W : List Int) : Prop where
  g : Grow h h'
  a2 : AW h.size h' b2 H
  a4 : AW h.size h' b4 Z
  a5 : AW h.size h' b5 W

theorem BW.set5 {h h' : Heap} {b2 b4 b5 : Nat} {H Z W : List Int} (hw : Wf h) (m : BW h h' b2 b4 b5 H Z W) (h25 : b2 ≠ b5) (h45 : b4 ≠ b5) {i : Nat} (hi : i < W.length) (x : Int) :
    ∃ h2, h'.wr b5 i [uv x] = some h2 ∧ BW h h2 b2 b4 b5 H Z (W.set i x) := by
  obtain ⟨h2, q1, q2, q3, q4⟩ := m.a5.store hw m.g hi x
  exact ⟨h2, q1, q3, m.a2.other h25 q4, m.a4.other h45 q4, q2⟩

theorem BW.grow {h h' h2 : Heap} {b2 b4 b5 : Nat} {H Z W : List Int} (m : BW h h' b2 b4 b5 H Z W) (g : Grow h' h2) : BW h h2 b2 b4 b5 H Z W := ⟨m.g.trans g, m.a2.grow g, m.a4.grow g, m.a5.grow g⟩
/-- .. and the words that turn. -/
structure RW (h h' : Heap) (b2 b4 b5 b12 : Nat) (H Z W v : List Int) : Prop where
  m : BW h h' b2 b4 b5 H Z W
  a12 : AW h.size h' b12 v
theorem RW.grow {h h' h2 : Heap} {b2 b4 b5 b12 : Nat} {H Z W v : List Int} (m : RW h h' b2 b4 b5 b12 H Z W v) (g : Grow h' h2) : RW h h2 b2 b4 b5 b12 H Z W v := ⟨m.m.grow g, m.a12.grow g⟩
theorem RW.set12 {h h' : Heap} {b2 b4 b5 b12 : Nat} {H Z W v : List Int} (hw : Wf h) (m : RW h h' b2 b4 b5 b12 H Z W v) (n2 : b2 ≠ b12) (n4 : b4 ≠ b12) (n5 : b5 ≠ b12) (us : List Int) (hl : us.length = v.length) :
    ∃ h2, h'.wr b12 0 (us.map uv) = some h2 ∧ RW h h2 b2 b4 b5 b12 H Z W us := by
  obtain ⟨h2, q1, q2, q3, q4⟩ := m.a12.storeAll hw m.m.g us hl
  exact ⟨h2, q1, ⟨q3, m.m.a2.other n2 q4, m.m.a4.other n4 q4, m.m.a5.other n5 q4⟩, q2⟩
theorem RW.set2 {h h' : Heap} {b2 b4 b5 b12 : Nat} {H Z W v : List Int} (hw : Wf h) (m : RW h h' b2 b4 b5 b12 H Z W v) (n4 : b4 ≠ b2) (n5 : b5 ≠ b2) (n12 : b12 ≠ b2) {i : Nat} (hi : i < H.length) (x : Int) :
    ∃ h2, h'.wr b2 i [uv x] = some h2 ∧ RW h h2 b2 b4 b5 b12 (H.set i x) Z W v := by
  obtain ⟨h2, q1, q2, q3, q4⟩ := m.m.a2.store hw m.m.g hi x
  exact ⟨h2, q1, ⟨q3, q2, m.m.a4.other n4 q4, m.m.a5.other n5 q4⟩, m.a12.other n12 q4⟩
theorem sched_length (s : List Nat) : ∀ (n t : Nat) (W : List Int), (sched s n t W).length = W.length
  | 0, _, _ => rfl
  | n + 1, t, W => by unfold sched; rw [sched_length s n, schedStep_length]

include S
theorem behind_ans (h66 : ∀ args h, C.S 100 args h = none) (h : Heap) (hw : Wf h) (H K : List Int) (hH : H.length = 8) (hK : K.length = 64) (s : List Nat) (hs : s.length = 64) (hr : h.get 0 = some (.cells (K.map uv) .ro)) :
    Ans C 100 [.agg (H.map uv), .str s] h fun v h' => v = .agg ((behindF K H s).map uv) ∧ Grow h h' := by
  have hF : C.F 100 = some a100 := S.f rfl
  unfold a100 at hF
  refine Ans.val (fun _ _ => h66 _ _) hF rfl rfl hw fun h2 g => ?_
  have hA := AW.new g H
  refine WC.seqO ?_
  refine WO.ops (StepK.box rfl) ?_
  have a2 := (AW.new g H).1
  have g3 := (AW.new g H).2.1
  have sz3 : (h2.push (.cells (H.map uv) (.tip [] 0 none))).size = h2.size + 1 := rfl
  show WO C _ _ (h2.push (.cells (H.map uv) (.tip [] 0 none))) _
  generalize h2.push (.cells (H.map uv) (.tip [] 0 none)) = h3 at *
  refine WO.ops StepK.alloc (WO.nil ?_)
  have a4 := (AW.new g3 (zeros 8)).1
  have g4 := (AW.new g3 (zeros 8)).2.1
  have a2' := a2.other (Nat.ne_of_lt (by omega)) (AW.new g3 (zeros 8)).2.2
  have sz4 : (h3.push (.cells ((zeros 8).map uv) (.tip [] 0 none))).size = h3.size + 1 := rfl
  show WC C _ _ (h3.push (.cells ((zeros 8).map uv) (.tip [] 0 none))) _
  generalize h3.push (.cells ((zeros 8).map uv) (.tip [] 0 none)) = h4 at *
  refine WC.seqO (WO.ops StepK.alloc (WO.nil ?_))
  have a5 := (AW.new g4 (zeros 64)).1
  have g5 := (AW.new g4 (zeros 64)).2.1
  have a2'' := a2'.other (Nat.ne_of_lt (by omega)) (AW.new g4 (zeros 64)).2.2
  have a4'' := a4.other (Nat.ne_of_lt (by omega)) (AW.new g4 (zeros 64)).2.2
  show WC C _ _ (h4.push (.cells ((zeros 64).map uv) (.tip [] 0 none))) _
  generalize h4.push (.cells ((zeros 64).map uv) (.tip [] 0 none)) = h5 at *
  have m0 : BW h h5 h2.size h3.size h4.size H (zeros 8) (zeros 64) := ⟨g5, a2'', a4'', a5⟩
  have n24 : h2.size ≠ h3.size := by omega
  have n25 : h2.size ≠ h4.size := by omega
  have n45 : h3.size ≠ h4.size := by omega
  generalize h2.size = b2 at *
  generalize h3.size = b4 at *
  generalize h4.size = b5 at *
  clear a2 a2' a2'' a4 a4'' a5 g3 g4 g5 hA
  refine WC.seqM (M := fun e' h' => Cov [(1, .str s), (2, .ptr (some (b2, 0))), (4, .ptr (some (b4, 0))), (5, .ptr (some (b5, 0)))] e' ∧ BW h h' b2 b4 b5 H (zeros 8) (sched s 64 0 (zeros 64))) ?_ ?_
  · refine WC.seqO ?_
    (repeat (first | refine WO.ops (StepK.mv rfl) ?_ | refine WO.ops (StepK.lenSl rfl (by first | with_reducible assumption | rfl)) ?_ | refine WO.ops (StepK.fieldAddr rfl) ?_ | refine WO.ops (StepK.add rfl rfl (by omega)) ?_ | refine WO.ops (StepK.sub rfl rfl (by omega)) ?_ | refine WO.ops (StepK.bin rfl rfl rfl) ?_ | refine WO.ops (StepK.pickT rfl rfl) ?_ | refine WO.ops (StepK.pickF rfl rfl) ?_ | refine WO.ops (StepK.not rfl) ?_ | refine WO.ops (StepK.eq rfl rfl rfl) ?_ | refine WO.ops (StepK.extract rfl rfl) ?_ | refine WO.ops (StepK.build rfl rfl) ?_ | refine WO.ops (StepK.mkFn rfl rfl) ?_ | refine WO.ops (StepK.field rfl rfl) ?_ | refine WO.ops (StepK.lenStr rfl) ?_ | refine WO.ops (StepK.nilck rfl) ?_ | refine WO.ops (StepK.min2 rfl rfl) ?_ | refine WO.ops (StepK.max2 rfl rfl) ?_ | refine WO.ops (StepK.load1 rfl (by first | with_reducible assumption | rfl)) ?_ | refine WO.run rfl ?_ | refine WO.skip rfl rfl ?_ | refine WO.skipu rfl ?_))
    refine WO.nil (WC.block ?_)
    refine WC.loop (σ := Nat × List Int) (fun p => [(1, .str s), (2, .ptr (some (b2, 0))), (4, .ptr (some (b4, 0))), (5, .ptr (some (b5, 0))), (19, iv p.1)])
      (fun p h' => BW h h' b2 b4 b5 H (zeros 8) p.2 ∧ p.2.length = 64 ∧ p.1 ≤ 64 ∧ sched s 64 0 (zeros 64) = sched s (64 - p.1) p.1 p.2) (fun p => 64 - p.1) (0, zeros 64) ?_ ⟨m0, by decide, by omega, rfl⟩ ?_
    · exact Cov.cons rfl (Cov.cons rfl (Cov.cons rfl (Cov.cons rfl (Cov.cons rfl (Cov.nil _)))))
    rintro ⟨t, W⟩ h6 ⟨m, hl, ht, hsc⟩
    simp only at m hl ht hsc
    refine WC.seqO ?_
    (repeat (first | refine WO.ops (StepK.mv rfl) ?_ | refine WO.ops (StepK.lenSl rfl (by first | with_reducible assumption | rfl)) ?_ | refine WO.ops (StepK.fieldAddr rfl) ?_ | refine WO.ops (StepK.add rfl rfl (by omega)) ?_ | refine WO.ops (StepK.sub rfl rfl (by omega)) ?_ | refine WO.ops (StepK.bin rfl rfl rfl) ?_ | refine WO.ops (StepK.pickT rfl rfl) ?_ | refine WO.ops (StepK.pickF rfl rfl) ?_ | refine WO.ops (StepK.not rfl) ?_ | refine WO.ops (StepK.eq rfl rfl rfl) ?_ | refine WO.ops (StepK.extract rfl rfl) ?_ | refine WO.ops (StepK.build rfl rfl) ?_ | refine WO.ops (StepK.mkFn rfl rfl) ?_ | refine WO.ops (StepK.field rfl rfl) ?_ | refine WO.ops (StepK.lenStr rfl) ?_ | refine WO.ops (StepK.nilck rfl) ?_ | refine WO.ops (StepK.min2 rfl rfl) ?_ | refine WO.ops (StepK.max2 rfl rfl) ?_ | refine WO.ops (StepK.load1 rfl (by first | with_reducible assumption | rfl)) ?_ | refine WO.run rfl ?_ | refine WO.skip rfl rfl ?_ | refine WO.skipu rfl ?_))
    refine WO.nil (WC.seq ?_)
    refine WC.cond rfl (fun hc => WC.skip ?_) (fun hc => WC.exit ?_)
    rotate_left
    · have hc := of_decide_eq_false hc
      have : t = 64 := by omega
      subst this
      refine ⟨Cov.cons rfl (Cov.cons rfl (Cov.cons rfl (Cov.cons rfl (Cov.nil _)))), ?_⟩
      rw [hsc]; exact m
    have hc := of_decide_eq_true hc
    have ht : t < 64 := by omega
    have hsc2 : sched s (64 - t) t W = sched s (64 - (t + 1)) (t + 1) (schedStep s t W) := by
      rw [show 64 - t = (64 - (t + 1)) + 1 by omega]; rfl
    refine WC.seqM (M := fun e' h' => Cov [(1, .str s), (2, .ptr (some (b2, 0))), (4, .ptr (some (b4, 0))), (5, .ptr (some (b5, 0))), (19, iv t)] e' ∧ BW h h' b2 b4 b5 H (zeros 8) (schedStep s t W)) ?_ ?_
    rotate_left
    · rintro e7 h7 ⟨c7, m7⟩
      refine WC.cov c7 (WC.ops ?_)
      (repeat (first | refine WO.ops (StepK.mv rfl) ?_ | refine WO.ops (StepK.lenSl rfl (by first | with_reducible assumption | rfl)) ?_ | refine WO.ops (StepK.fieldAddr rfl) ?_ | refine WO.ops (StepK.add rfl rfl (by omega)) ?_ | refine WO.ops (StepK.sub rfl rfl (by omega)) ?_ | refine WO.ops (StepK.bin rfl rfl rfl) ?_ | refine WO.ops (StepK.pickT rfl rfl) ?_ | refine WO.ops (StepK.pickF rfl rfl) ?_ | refine WO.ops (StepK.not rfl) ?_ | refine WO.ops (StepK.eq rfl rfl rfl) ?_ | refine WO.ops (StepK.extract rfl rfl) ?_ | refine WO.ops (StepK.build rfl rfl) ?_ | refine WO.ops (StepK.mkFn rfl rfl) ?_ | refine WO.ops (StepK.field rfl rfl) ?_ | refine WO.ops (StepK.lenStr rfl) ?_ | refine WO.ops (StepK.nilck rfl) ?_ | refine WO.ops (StepK.min2 rfl rfl) ?_ | refine WO.ops (StepK.max2 rfl rfl) ?_ | refine WO.ops (StepK.load1 rfl (by first | with_reducible assumption | rfl)) ?_ | refine WO.run rfl ?_ | refine WO.skip rfl rfl ?_ | refine WO.skipu rfl ?_))
      refine WO.nil ⟨(t + 1, schedStep s t W), Cov.cons rfl (Cov.cons rfl (Cov.cons rfl (Cov.cons rfl (Cov.cons rfl (Cov.nil _))))), ⟨m7, by rw [schedStep_length]; exact hl, by simp only; omega, by rw [hsc, hsc2]⟩, by simp only; omega⟩
    refine WC.block (WC.seqO ?_)
    (repeat (first | refine WO.ops (StepK.mv rfl) ?_ | refine WO.ops (StepK.lenSl rfl (by first | with_reducible assumption | rfl)) ?_ | refine WO.ops (StepK.fieldAddr rfl) ?_ | refine WO.ops (StepK.add rfl rfl (by omega)) ?_ | refine WO.ops (StepK.sub rfl rfl (by omega)) ?_ | refine WO.ops (StepK.bin rfl rfl rfl) ?_ | refine WO.ops (StepK.pickT rfl rfl) ?_ | refine WO.ops (StepK.pickF rfl rfl) ?_ | refine WO.ops (StepK.not rfl) ?_ | refine WO.ops (StepK.eq rfl rfl rfl) ?_ | refine WO.ops (StepK.extract rfl rfl) ?_ | refine WO.ops (StepK.build rfl rfl) ?_ | refine WO.ops (StepK.mkFn rfl rfl) ?_ | refine WO.ops (StepK.field rfl rfl) ?_ | refine WO.ops (StepK.lenStr rfl) ?_ | refine WO.ops (StepK.nilck rfl) ?_ | refine WO.ops (StepK.min2 rfl rfl) ?_ | refine WO.ops (StepK.max2 rfl rfl) ?_ | refine WO.ops (StepK.load1 rfl (by first | with_reducible assumption | rfl)) ?_ | refine WO.run rfl ?_ | refine WO.skip rfl rfl ?_ | refine WO.skipu rfl ?_))
    refine WO.nil (WC.seq (WC.seqO ?_))
    (repeat (first | refine WO.ops (StepK.mv rfl) ?_ | refine WO.ops (StepK.lenSl rfl (by first | with_reducible assumption | rfl)) ?_ | refine WO.ops (StepK.fieldAddr rfl) ?_ | refine WO.ops (StepK.add rfl rfl (by omega)) ?_ | refine WO.ops (StepK.sub rfl rfl (by omega)) ?_ | refine WO.ops (StepK.bin rfl rfl rfl) ?_ | refine WO.ops (StepK.pickT rfl rfl) ?_ | refine WO.ops (StepK.pickF rfl rfl) ?_ | refine WO.ops (StepK.not rfl) ?_ | refine WO.ops (StepK.eq rfl rfl rfl) ?_ | refine WO.ops (StepK.extract rfl rfl) ?_ | refine WO.ops (StepK.build rfl rfl) ?_ | refine WO.ops (StepK.mkFn rfl rfl) ?_ | refine WO.ops (StepK.field rfl rfl) ?_ | refine WO.ops (StepK.lenStr rfl) ?_ | refine WO.ops (StepK.nilck rfl) ?_ | refine WO.ops (StepK.min2 rfl rfl) ?_ | refine WO.ops (StepK.max2 rfl rfl) ?_ | refine WO.ops (StepK.load1 rfl (by first | with_reducible assumption | rfl)) ?_ | refine WO.run rfl ?_ | refine WO.skip rfl rfl ?_ | refine WO.skipu rfl ?_))
    refine WO.nil ?_
    refine WC.cond rfl (fun hc16 => ?_) (fun hc16 => WC.skip ?_)
    · have hc16 := of_decide_eq_true hc16
      refine WC.seqM (M := fun e' h' => Cov [(1, .str s), (2, .ptr (some (b2, 0))), (4, .ptr (some (b4, 0))), (5, .ptr (some (b5, 0))), (19, iv t)] e' ∧ BW h h' b2 b4 b5 H (zeros 8) (byteW s t 4 W)) ?_ ?_
      rotate_left
      · rintro e7 h7 ⟨c7, m7⟩
        refine WC.exit ?_
        refine ⟨c7, ?_⟩
        unfold schedStep; rw [if_pos (by omega)]; exact m7
      refine WC.seqO ?_
      (repeat (first | refine WO.ops (StepK.mv rfl) ?_ | refine WO.ops (StepK.lenSl rfl (by first | with_reducible assumption | rfl)) ?_ | refine WO.ops (StepK.fieldAddr rfl) ?_ | refine WO.ops (StepK.add rfl rfl (by omega)) ?_ | refine WO.ops (StepK.sub rfl rfl (by omega)) ?_ | refine WO.ops (StepK.bin rfl rfl rfl) ?_ | refine WO.ops (StepK.pickT rfl rfl) ?_ | refine WO.ops (StepK.pickF rfl rfl) ?_ | refine WO.ops (StepK.not rfl) ?_ | refine WO.ops (StepK.eq rfl rfl rfl) ?_ | refine WO.ops (StepK.extract rfl rfl) ?_ | refine WO.ops (StepK.build rfl rfl) ?_ | refine WO.ops (StepK.mkFn rfl rfl) ?_ | refine WO.ops (StepK.field rfl rfl) ?_ | refine WO.ops (StepK.lenStr rfl) ?_ | refine WO.ops (StepK.nilck rfl) ?_ | refine WO.ops (StepK.min2 rfl rfl) ?_ | refine WO.ops (StepK.max2 rfl rfl) ?_ | refine WO.ops (StepK.load1 rfl (by first | with_reducible assumption | rfl)) ?_ | refine WO.run rfl ?_ | refine WO.skip rfl rfl ?_ | refine WO.skipu rfl ?_))
      refine WO.nil (WC.block ?_)
      refine WC.loop (σ := Nat × List Int) (fun p => [(1, .str s), (2, .ptr (some (b2, 0))), (4, .ptr (some (b4, 0))), (5, .ptr (some (b5, 0))), (19, iv t), (6, iv t), (24, iv p.1)])
        (fun p h' => BW h h' b2 b4 b5 H (zeros 8) p.2 ∧ p.2.length = 64 ∧ p.1 ≤ 4 ∧ byteW s t 4 W = byteW s t (4 - p.1) p.2) (fun p => 4 - p.1) (0, W) ?_ ⟨m, hl, by omega, rfl⟩ ?_
      · exact Cov.cons rfl (Cov.cons rfl (Cov.cons rfl (Cov.cons rfl (Cov.cons rfl (Cov.cons rfl (Cov.cons rfl (Cov.nil _)))))))
      rintro ⟨i, U⟩ h7 ⟨m7, hl7, hi, hb7⟩
      simp only at m7 hl7 hi hb7
      refine WC.seqO ?_
      (repeat (first | refine WO.ops (StepK.mv rfl) ?_ | refine WO.ops (StepK.lenSl rfl (by first | with_reducible assumption | rfl)) ?_ | refine WO.ops (StepK.fieldAddr rfl) ?_ | refine WO.ops (StepK.add rfl rfl (by omega)) ?_ | refine WO.ops (StepK.sub rfl rfl (by omega)) ?_ | refine WO.ops (StepK.bin rfl rfl rfl) ?_ | refine WO.ops (StepK.pickT rfl rfl) ?_ | refine WO.ops (StepK.pickF rfl rfl) ?_ | refine WO.ops (StepK.not rfl) ?_ | refine WO.ops (StepK.eq rfl rfl rfl) ?_ | refine WO.ops (StepK.extract rfl rfl) ?_ | refine WO.ops (StepK.build rfl rfl) ?_ | refine WO.ops (StepK.mkFn rfl rfl) ?_ | refine WO.ops (StepK.field rfl rfl) ?_ | refine WO.ops (StepK.lenStr rfl) ?_ | refine WO.ops (StepK.nilck rfl) ?_ | refine WO.ops (StepK.min2 rfl rfl) ?_ | refine WO.ops (StepK.max2 rfl rfl) ?_ | refine WO.ops (StepK.load1 rfl (by first | with_reducible assumption | rfl)) ?_ | refine WO.run rfl ?_ | refine WO.skip rfl rfl ?_ | refine WO.skipu rfl ?_))
      refine WO.nil (WC.seq ?_)
      refine WC.cond rfl (fun hci => WC.skip ?_) (fun hci => WC.exit ?_)
      rotate_left
      · have hci := of_decide_eq_false hci
        have : i = 4 := by omega
        subst this
        refine ⟨Cov.cons rfl (Cov.cons rfl (Cov.cons rfl (Cov.cons rfl (Cov.cons rfl (Cov.nil _))))), ?_⟩
        rw [hb7]; exact m7
      have hci := of_decide_eq_true hci
      have hi : i < 4 := by omega
      refine WC.seq (WC.block (WC.seqO ?_))
      (repeat (first | refine WO.ops (StepK.mv rfl) ?_ | refine WO.ops (StepK.lenSl rfl (by first | with_reducible assumption | rfl)) ?_ | refine WO.ops (StepK.fieldAddr rfl) ?_ | refine WO.ops (StepK.add rfl rfl (by omega)) ?_ | refine WO.ops (StepK.sub rfl rfl (by omega)) ?_ | refine WO.ops (StepK.bin rfl rfl rfl) ?_ | refine WO.ops (StepK.pickT rfl rfl) ?_ | refine WO.ops (StepK.pickF rfl rfl) ?_ | refine WO.ops (StepK.not rfl) ?_ | refine WO.ops (StepK.eq rfl rfl rfl) ?_ | refine WO.ops (StepK.extract rfl rfl) ?_ | refine WO.ops (StepK.build rfl rfl) ?_ | refine WO.ops (StepK.mkFn rfl rfl) ?_ | refine WO.ops (StepK.field rfl rfl) ?_ | refine WO.ops (StepK.lenStr rfl) ?_ | refine WO.ops (StepK.nilck rfl) ?_ | refine WO.ops (StepK.min2 rfl rfl) ?_ | refine WO.ops (StepK.max2 rfl rfl) ?_ | refine WO.ops (StepK.load1 rfl (by first | with_reducible assumption | rfl)) ?_ | refine WO.run rfl ?_ | refine WO.skip rfl rfl ?_ | refine WO.skipu rfl ?_))
      refine WO.nil (WC.draw ?_)
      have r1 : h7.rd b5 t = some (uv (at32 U t)) := m7.a5.rd (by omega)
      obtain ⟨h8, w8, m8⟩ := m7.set5 hw n25 n45 (i := t) (by omega) (or32 (shl32 (at32 U t) 8) (wr32 (Int.ofNat (s.getD (4 * t + i) 0))))
      refine WD.pure (StepK.mv rfl) rfl ?_
      refine WD.pure (StepK.mv rfl) rfl ?_
      refine WD.pure (StepK.idxArr rfl rfl (idx_at rfl (by omega) rfl)) rfl ?_
      refine WD.load1 rfl r1 ?_
      refine WD.pure (StepK.bin rfl rfl (bin_shl (by decide))) rfl ?_
      refine WD.pure (StepK.mv rfl) rfl ?_
      refine WD.pure (StepK.mv rfl) rfl ?_
      refine WD.pure (StepK.bin rfl rfl (bin_mul (by omega))) rfl ?_
      refine WD.pure (StepK.mv rfl) rfl ?_
      refine WD.pure (StepK.add rfl rfl (by omega)) rfl ?_
      have eS : ((4 : Int) * (t : Int) + (i : Int)).toNat = 4 * t + i := by omega
      have hS := at_str (s := s) (k := .i64) (n := (4 : Int) * (t : Int) + (i : Int)) (by omega) (by omega)
      rw [eS] at hS
      refine WD.pure (StepK.atStr rfl rfl hS) rfl ?_
      refine WD.pure (StepK.toInt rfl rfl) rfl ?_
      refine WD.pure (StepK.bin rfl rfl rfl) rfl ?_
      refine WD.pure (StepK.idxArr rfl rfl (idx_at rfl (by omega) rfl)) rfl ?_
      refine WD.opC (by repeat (first | exact trivial | refine ⟨by with_reducible assumption, ?_⟩)) rfl (StepK.store rfl rfl rfl w8) ?_
      refine WD.nil trivial ?_
      refine WC.ops ?_
      (repeat (first | refine WO.ops (StepK.mv rfl) ?_ | refine WO.ops (StepK.lenSl rfl (by first | with_reducible assumption | rfl)) ?_ | refine WO.ops (StepK.fieldAddr rfl) ?_ | refine WO.ops (StepK.add rfl rfl (by omega)) ?_ | refine WO.ops (StepK.sub rfl rfl (by omega)) ?_ | refine WO.ops (StepK.bin rfl rfl rfl) ?_ | refine WO.ops (StepK.pickT rfl rfl) ?_ | refine WO.ops (StepK.pickF rfl rfl) ?_ | refine WO.ops (StepK.not rfl) ?_ | refine WO.ops (StepK.eq rfl rfl rfl) ?_ | refine WO.ops (StepK.extract rfl rfl) ?_ | refine WO.ops (StepK.build rfl rfl) ?_ | refine WO.ops (StepK.mkFn rfl rfl) ?_ | refine WO.ops (StepK.field rfl rfl) ?_ | refine WO.ops (StepK.lenStr rfl) ?_ | refine WO.ops (StepK.nilck rfl) ?_ | refine WO.ops (StepK.min2 rfl rfl) ?_ | refine WO.ops (StepK.max2 rfl rfl) ?_ | refine WO.ops (StepK.load1 rfl (by first | with_reducible assumption | rfl)) ?_ | refine WO.run rfl ?_ | refine WO.skip rfl rfl ?_ | refine WO.skipu rfl ?_))
      refine WO.nil ⟨(i + 1, U.set t (or32 (shl32 (at32 U t) 8) (wr32 (Int.ofNat (s.getD (4 * t + i) 0))))), Cov.cons rfl (Cov.cons rfl (Cov.cons rfl (Cov.cons rfl (Cov.cons rfl (Cov.cons rfl (Cov.cons rfl (Cov.nil _))))))), ⟨m8, by rw [List.length_set]; exact hl7, by simp only; omega, ?_⟩, by simp only; omega⟩
      rw [hb7, show 4 - i = (4 - (i + 1)) + 1 by omega]
      show byteW s t (4 - (i + 1)) _ = _
      rw [show 3 - (4 - (i + 1)) = i by omega]
    have hc16 := of_decide_eq_false hc16
    have r15 : h6.rd b5 (t - 15) = some (uv (at32 W (t - 15))) := m.a5.rd (by omega)
    have r2 : h6.rd b5 (t - 2) = some (uv (at32 W (t - 2))) := m.a5.rd (by omega)
    refine WC.seqD ?_
    refine WD.pure (StepK.mv rfl) rfl ?_
    refine WD.pure (StepK.sub rfl rfl (by omega)) rfl ?_
    refine WD.pure (StepK.idxArr rfl rfl (idx_at (j := t - 15) (by omega) (by omega) rfl)) rfl ?_
    refine WD.load1 rfl r15 ?_
    refine WD.pure (StepK.mv rfl) rfl ?_
    refine WD.pure (StepK.sub rfl rfl (by omega)) rfl ?_
    refine WD.pure (StepK.idxArr rfl rfl (idx_at (j := t - 2) (by omega) (by omega) rfl)) rfl ?_
    refine WD.load1 rfl r2 ?_
    refine WD.pure (StepK.mv rfl) rfl ?_
    refine WD.pure (StepK.mv rfl) rfl ?_
    refine WD.nil (by repeat (first | exact trivial | refine ⟨by with_reducible assumption, ?_⟩)) ?_
    refine WC.seqO ?_
    refine WO.ops (StepK.mv rfl) ?_
    refine WO.call rfl rfl (right_ans S h6 m.g.wf (at32 W (t - 15)) 7 (by decide)) ?_
    rintro v1 h7 ⟨rfl, g7⟩
    refine WO.ops (StepK.mv rfl) ?_
    refine WO.call rfl rfl (right_ans S h7 g7.wf (at32 W (t - 15)) 18 (by decide)) ?_
    rintro v2 h8 ⟨rfl, g8⟩
    refine WO.ops (StepK.bin rfl rfl rfl) ?_
    refine WO.ops (StepK.mv rfl) ?_
    refine WO.ops (StepK.bin rfl rfl (bin_shr (by decide))) ?_
    refine WO.ops (StepK.bin rfl rfl rfl) ?_
    refine WO.ops (StepK.mv rfl) ?_
    refine WO.nil (WC.seqO ?_)
    refine WO.ops (StepK.mv rfl) ?_
    refine WO.call rfl rfl (right_ans S h8 g8.wf (at32 W (t - 2)) 17 (by decide)) ?_
    rintro v3 h9 ⟨rfl, g9⟩
    refine WO.ops (StepK.mv rfl) ?_
    refine WO.call rfl rfl (right_ans S h9 g9.wf (at32 W (t - 2)) 19 (by decide)) ?_
    rintro v4 h10 ⟨rfl, g10⟩
    refine WO.ops (StepK.bin rfl rfl rfl) ?_
    refine WO.ops (StepK.mv rfl) ?_
    refine WO.ops (StepK.bin rfl rfl (bin_shr (by decide))) ?_
    refine WO.ops (StepK.bin rfl rfl rfl) ?_
    refine WO.ops (StepK.mv rfl) ?_
    refine WO.nil (WC.draw ?_)
    have m10 := ((((m.grow g7).grow g8).grow g9).grow g10)
    have r7 : h10.rd b5 (t - 7) = some (uv (at32 W (t - 7))) := m10.a5.rd (by omega)
    have r16 : h10.rd b5 (t - 16) = some (uv (at32 W (t - 16))) := m10.a5.rd (by omega)
    obtain ⟨h11, w11, m11⟩ := m10.set5 hw n25 n45 (i := t) (by omega) (extW W t)
    refine WD.pure (StepK.mv rfl) rfl ?_
    refine WD.pure (StepK.mv rfl) rfl ?_
    refine WD.pure (StepK.mv rfl) rfl ?_
    refine WD.pure (StepK.sub rfl rfl (by omega)) rfl ?_
    refine WD.pure (StepK.idxArr rfl rfl (idx_at (j := t - 7) (by omega) (by omega) rfl)) rfl ?_
    refine WD.load1 rfl r7 ?_
    refine WD.pure (StepK.bin rfl rfl rfl) rfl ?_
    refine WD.pure (StepK.mv rfl) rfl ?_
    refine WD.pure (StepK.bin rfl rfl rfl) rfl ?_
    refine WD.pure (StepK.mv rfl) rfl ?_
    refine WD.pure (StepK.sub rfl rfl (by omega)) rfl ?_
    refine WD.pure (StepK.idxArr rfl rfl (idx_at (j := t - 16) (by omega) (by omega) rfl)) rfl ?_
    refine WD.load1 rfl r16 ?_
    refine WD.pure (StepK.bin rfl rfl rfl) rfl ?_
    refine WD.pure (StepK.idxArr rfl rfl (idx_at rfl (by omega) rfl)) rfl ?_
    refine WD.opC (by repeat (first | exact trivial | refine ⟨by with_reducible assumption, ?_⟩)) rfl (StepK.store rfl rfl rfl w11) ?_
    refine WD.nil trivial ?_
    refine ⟨Cov.cons rfl (Cov.cons rfl (Cov.cons rfl (Cov.cons rfl (Cov.cons rfl (Cov.nil _))))), ?_⟩
    unfold schedStep; rw [if_neg (by omega)]; exact m11
  rintro e6 h6 ⟨c6, m6⟩
  have hWl : (sched s 64 0 (zeros 64)).length = 64 := by rw [sched_length]; rfl
  show WC C _ e6 h6 _
  have hbe : behindF K H s = sumUp (rounds (sched s 64 0 (zeros 64)) K 64 0 H) 8 0 H := rfl
  rw [hbe]
  generalize sched s 64 0 (zeros 64) = W at *
  have a12 := (AW.new m6.g (zeros 8)).1
  have g7 := (AW.new m6.g (zeros 8)).2.1
  have k7 := (AW.new m6.g (zeros 8)).2.2
  have l2 : b2 < h6.size := Wf.lt m6.g.wf m6.a2.2
  have l4 : b4 < h6.size := Wf.lt m6.g.wf m6.a4.2
  have l5 : b5 < h6.size := Wf.lt m6.g.wf m6.a5.2
  have m7 : RW h (h6.push (.cells ((zeros 8).map uv) (.tip [] 0 none))) b2 b4 b5 h6.size H (zeros 8) W (zeros 8) :=
    ⟨⟨g7, m6.a2.other (by omega) k7, m6.a4.other (by omega) k7, m6.a5.other (by omega) k7⟩, a12⟩
  refine WC.cov c6 (WC.seqO ?_)
  refine WO.ops (StepK.loadN rfl (m6.a2.rds hH)) ?_
  refine WO.ops StepK.alloc ?_
  show WO C _ _ (h6.push (.cells ((zeros 8).map uv) (.tip [] 0 none))) _
  have n2 : b2 ≠ h6.size := by omega
  have n4 : b4 ≠ h6.size := by omega
  have n5 : b5 ≠ h6.size := by omega
  generalize h6.push (.cells ((zeros 8).map uv) (.tip [] 0 none)) = h7 at *
  generalize h6.size = b12 at *
  obtain ⟨h8, w8, m8⟩ := m7.set12 hw n2 n4 n5 H (by rw [hH]; rfl)
  refine WO.op (StepK.store rfl rfl (by show (H.map uv).length = 8; rw [List.length_map]; exact hH) w8) (WO.nil ?_)
  refine WC.seqM (M := fun e' h' => Cov [(2, .ptr (some (b2, 0))), (4, .ptr (some (b4, 0))), (12, .ptr (some (b12, 0)))] e' ∧ RW h h' b2 b4 b5 b12 H (zeros 8) W (rounds W K 64 0 H)) ?_ ?_
  · refine WC.seqO ?_
    (repeat (first | refine WO.ops (StepK.mv rfl) ?_ | refine WO.ops (StepK.lenSl rfl (by first | with_reducible assumption | rfl)) ?_ | refine WO.ops (StepK.fieldAddr rfl) ?_ | refine WO.ops (StepK.add rfl rfl (by omega)) ?_ | refine WO.ops (StepK.sub rfl rfl (by omega)) ?_ | refine WO.ops (StepK.bin rfl rfl rfl) ?_ | refine WO.ops (StepK.pickT rfl rfl) ?_ | refine WO.ops (StepK.pickF rfl rfl) ?_ | refine WO.ops (StepK.not rfl) ?_ | refine WO.ops (StepK.eq rfl rfl rfl) ?_ | refine WO.ops (StepK.extract rfl rfl) ?_ | refine WO.ops (StepK.build rfl rfl) ?_ | refine WO.ops (StepK.mkFn rfl rfl) ?_ | refine WO.ops (StepK.field rfl rfl) ?_ | refine WO.ops (StepK.lenStr rfl) ?_ | refine WO.ops (StepK.nilck rfl) ?_ | refine WO.ops (StepK.min2 rfl rfl) ?_ | refine WO.ops (StepK.max2 rfl rfl) ?_ | refine WO.ops (StepK.load1 rfl (by first | with_reducible assumption | rfl)) ?_ | refine WO.run rfl ?_ | refine WO.skip rfl rfl ?_ | refine WO.skipu rfl ?_))
    refine WO.nil (WC.block ?_)
    refine WC.loop (σ := Nat × List Int) (fun p => [(2, .ptr (some (b2, 0))), (4, .ptr (some (b4, 0))), (5, .ptr (some (b5, 0))), (12, .ptr (some (b12, 0))), (83, iv p.1)])
      (fun p h' => RW h h' b2 b4 b5 b12 H (zeros 8) W p.2 ∧ p.2.length = 8 ∧ p.1 ≤ 64 ∧ rounds W K 64 0 H = rounds W K (64 - p.1) p.1 p.2) (fun p => 64 - p.1) (0, H) ?_ ⟨m8, hH, by omega, rfl⟩ ?_
    · exact Cov.cons rfl (Cov.cons rfl (Cov.cons rfl (Cov.cons rfl (Cov.cons rfl (Cov.nil _)))))
    rintro ⟨t, v⟩ h9 ⟨m, hl, ht, hrd⟩
    simp only at m hl ht hrd
    refine WC.seqO ?_
    (repeat (first | refine WO.ops (StepK.mv rfl) ?_ | refine WO.ops (StepK.lenSl rfl (by first | with_reducible assumption | rfl)) ?_ | refine WO.ops (StepK.fieldAddr rfl) ?_ | refine WO.ops (StepK.add rfl rfl (by omega)) ?_ | refine WO.ops (StepK.sub rfl rfl (by omega)) ?_ | refine WO.ops (StepK.bin rfl rfl rfl) ?_ | refine WO.ops (StepK.pickT rfl rfl) ?_ | refine WO.ops (StepK.pickF rfl rfl) ?_ | refine WO.ops (StepK.not rfl) ?_ | refine WO.ops (StepK.eq rfl rfl rfl) ?_ | refine WO.ops (StepK.extract rfl rfl) ?_ | refine WO.ops (StepK.build rfl rfl) ?_ | refine WO.ops (StepK.mkFn rfl rfl) ?_ | refine WO.ops (StepK.field rfl rfl) ?_ | refine WO.ops (StepK.lenStr rfl) ?_ | refine WO.ops (StepK.nilck rfl) ?_ | refine WO.ops (StepK.min2 rfl rfl) ?_ | refine WO.ops (StepK.max2 rfl rfl) ?_ | refine WO.ops (StepK.load1 rfl (by first | with_reducible assumption | rfl)) ?_ | refine WO.run rfl ?_ | refine WO.skip rfl rfl ?_ | refine WO.skipu rfl ?_))
    refine WO.nil (WC.seq ?_)
    refine WC.cond rfl (fun hc => WC.skip ?_) (fun hc => WC.exit ?_)
    rotate_left
    · have hc := of_decide_eq_false hc
      have : t = 64 := by omega
      subst this
      refine ⟨Cov.cons rfl (Cov.cons rfl (Cov.cons rfl (Cov.nil _))), ?_⟩
      rw [hrd]; exact m
    have hc := of_decide_eq_true hc
    have ht : t < 64 := by omega
    refine WC.seq (WC.block (WC.seqO ?_))
    (repeat (first | refine WO.ops (StepK.mv rfl) ?_ | refine WO.ops (StepK.lenSl rfl (by first | with_reducible assumption | rfl)) ?_ | refine WO.ops (StepK.fieldAddr rfl) ?_ | refine WO.ops (StepK.add rfl rfl (by omega)) ?_ | refine WO.ops (StepK.sub rfl rfl (by omega)) ?_ | refine WO.ops (StepK.bin rfl rfl rfl) ?_ | refine WO.ops (StepK.pickT rfl rfl) ?_ | refine WO.ops (StepK.pickF rfl rfl) ?_ | refine WO.ops (StepK.not rfl) ?_ | refine WO.ops (StepK.eq rfl rfl rfl) ?_ | refine WO.ops (StepK.extract rfl rfl) ?_ | refine WO.ops (StepK.build rfl rfl) ?_ | refine WO.ops (StepK.mkFn rfl rfl) ?_ | refine WO.ops (StepK.field rfl rfl) ?_ | refine WO.ops (StepK.lenStr rfl) ?_ | refine WO.ops (StepK.nilck rfl) ?_ | refine WO.ops (StepK.min2 rfl rfl) ?_ | refine WO.ops (StepK.max2 rfl rfl) ?_ | refine WO.ops (StepK.load1 rfl (by first | with_reducible assumption | rfl)) ?_ | refine WO.run rfl ?_ | refine WO.skip rfl rfl ?_ | refine WO.skipu rfl ?_))
    refine WO.nil (WC.seqD ?_)
    have r0 : h9.rd b12 0 = some (uv (at32 v 0)) := m.a12.rd (by omega)
    have r4 : h9.rd b12 4 = some (uv (at32 v 4)) := m.a12.rd (by omega)
    refine WD.pure (StepK.idxArr rfl rfl (idx_at (j := 0) rfl (by decide) rfl)) rfl ?_
    refine WD.load1 rfl r0 ?_
    refine WD.pure (StepK.idxArr rfl rfl (idx_at (j := 4) rfl (by decide) rfl)) rfl ?_
    refine WD.load1 rfl r4 ?_
    (repeat (first | refine WD.pure (StepK.mv rfl) rfl ?_ | refine WD.pure (StepK.lenSl rfl (by first | with_reducible assumption | rfl)) rfl ?_ | refine WD.pure (StepK.fieldAddr rfl) rfl ?_ | refine WD.pure (StepK.add rfl rfl (by omega)) rfl ?_ | refine WD.pure (StepK.sub rfl rfl (by omega)) rfl ?_ | refine WD.pure (StepK.bin rfl rfl rfl) rfl ?_ | refine WD.pure (StepK.pickT rfl rfl) rfl ?_ | refine WD.pure (StepK.pickF rfl rfl) rfl ?_ | refine WD.pure (StepK.not rfl) rfl ?_ | refine WD.pure (StepK.eq rfl rfl rfl) rfl ?_ | refine WD.pure (StepK.extract rfl rfl) rfl ?_ | refine WD.pure (StepK.build rfl rfl) rfl ?_ | refine WD.pure (StepK.mkFn rfl rfl) rfl ?_ | refine WD.pure (StepK.field rfl rfl) rfl ?_ | refine WD.pure (StepK.lenStr rfl) rfl ?_ | refine WD.pure (StepK.nilck rfl) rfl ?_ | refine WD.pure (StepK.min2 rfl rfl) rfl ?_ | refine WD.pure (StepK.max2 rfl rfl) rfl ?_ | refine WD.load1 rfl (by first | with_reducible assumption | rfl) ?_ | refine WD.run rfl ?_ | refine WD.skipn rfl rfl rfl ?_ | refine WD.skipun rfl rfl ?_))
    refine WD.nil (by repeat (first | exact trivial | refine ⟨by with_reducible assumption, ?_⟩)) (WC.seqD ?_)
    have r5 : h9.rd b12 5 = some (uv (at32 v 5)) := m.a12.rd (by omega)
    have r6 : h9.rd b12 6 = some (uv (at32 v 6)) := m.a12.rd (by omega)
    have r7 : h9.rd b12 7 = some (uv (at32 v 7)) := m.a12.rd (by omega)
    have rK : h9.rd 0 t = some (uv (at32 K t)) := by
      rw [rd_cell (m.m.g.ext _ _ hr), List.getElem?_map, List.getElem?_eq_getElem (by omega)]
      unfold at32
      rw [List.getD_eq_getElem?_getD, List.getElem?_eq_getElem (by omega)]; rfl
    have rW : h9.rd b5 t = some (uv (at32 W t)) := m.m.a5.rd (by omega)
    refine WD.pure (StepK.idxArr rfl rfl (idx_at (j := 7) rfl (by decide) rfl)) rfl ?_
    refine WD.load1 rfl r7 ?_
    (repeat (first | refine WD.pure (StepK.mv rfl) rfl ?_ | refine WD.pure (StepK.lenSl rfl (by first | with_reducible assumption | rfl)) rfl ?_ | refine WD.pure (StepK.fieldAddr rfl) rfl ?_ | refine WD.pure (StepK.add rfl rfl (by omega)) rfl ?_ | refine WD.pure (StepK.sub rfl rfl (by omega)) rfl ?_ | refine WD.pure (StepK.bin rfl rfl rfl) rfl ?_ | refine WD.pure (StepK.pickT rfl rfl) rfl ?_ | refine WD.pure (StepK.pickF rfl rfl) rfl ?_ | refine WD.pure (StepK.not rfl) rfl ?_ | refine WD.pure (StepK.eq rfl rfl rfl) rfl ?_ | refine WD.pure (StepK.extract rfl rfl) rfl ?_ | refine WD.pure (StepK.build rfl rfl) rfl ?_ | refine WD.pure (StepK.mkFn rfl rfl) rfl ?_ | refine WD.pure (StepK.field rfl rfl) rfl ?_ | refine WD.pure (StepK.lenStr rfl) rfl ?_ | refine WD.pure (StepK.nilck rfl) rfl ?_ | refine WD.pure (StepK.min2 rfl rfl) rfl ?_ | refine WD.pure (StepK.max2 rfl rfl) rfl ?_ | refine WD.load1 rfl (by first | with_reducible assumption | rfl) ?_ | refine WD.run rfl ?_ | refine WD.skipn rfl rfl rfl ?_ | refine WD.skipun rfl rfl ?_))
    refine WD.pure (StepK.idxArr rfl rfl (idx_at (j := 5) rfl (by decide) rfl)) rfl ?_
    refine WD.load1 rfl r5 ?_
    (repeat (first | refine WD.pure (StepK.mv rfl) rfl ?_ | refine WD.pure (StepK.lenSl rfl (by first | with_reducible assumption | rfl)) rfl ?_ | refine WD.pure (StepK.fieldAddr rfl) rfl ?_ | refine WD.pure (StepK.add rfl rfl (by omega)) rfl ?_ | refine WD.pure (StepK.sub rfl rfl (by omega)) rfl ?_ | refine WD.pure (StepK.bin rfl rfl rfl) rfl ?_ | refine WD.pure (StepK.pickT rfl rfl) rfl ?_ | refine WD.pure (StepK.pickF rfl rfl) rfl ?_ | refine WD.pure (StepK.not rfl) rfl ?_ | refine WD.pure (StepK.eq rfl rfl rfl) rfl ?_ | refine WD.pure (StepK.extract rfl rfl) rfl ?_ | refine WD.pure (StepK.build rfl rfl) rfl ?_ | refine WD.pure (StepK.mkFn rfl rfl) rfl ?_ | refine WD.pure (StepK.field rfl rfl) rfl ?_ | refine WD.pure (StepK.lenStr rfl) rfl ?_ | refine WD.pure (StepK.nilck rfl) rfl ?_ | refine WD.pure (StepK.min2 rfl rfl) rfl ?_ | refine WD.pure (StepK.max2 rfl rfl) rfl ?_ | refine WD.load1 rfl (by first | with_reducible assumption | rfl) ?_ | refine WD.run rfl ?_ | refine WD.skipn rfl rfl rfl ?_ | refine WD.skipun rfl rfl ?_))
    refine WD.pure (StepK.inv rfl) rfl ?_
    refine WD.pure (StepK.idxArr rfl rfl (idx_at (j := 6) rfl (by decide) rfl)) rfl ?_
    refine WD.load1 rfl r6 ?_
    (repeat (first | refine WD.pure (StepK.mv rfl) rfl ?_ | refine WD.pure (StepK.lenSl rfl (by first | with_reducible assumption | rfl)) rfl ?_ | refine WD.pure (StepK.fieldAddr rfl) rfl ?_ | refine WD.pure (StepK.add rfl rfl (by omega)) rfl ?_ | refine WD.pure (StepK.sub rfl rfl (by omega)) rfl ?_ | refine WD.pure (StepK.bin rfl rfl rfl) rfl ?_ | refine WD.pure (StepK.pickT rfl rfl) rfl ?_ | refine WD.pure (StepK.pickF rfl rfl) rfl ?_ | refine WD.pure (StepK.not rfl) rfl ?_ | refine WD.pure (StepK.eq rfl rfl rfl) rfl ?_ | refine WD.pure (StepK.extract rfl rfl) rfl ?_ | refine WD.pure (StepK.build rfl rfl) rfl ?_ | refine WD.pure (StepK.mkFn rfl rfl) rfl ?_ | refine WD.pure (StepK.field rfl rfl) rfl ?_ | refine WD.pure (StepK.lenStr rfl) rfl ?_ | refine WD.pure (StepK.nilck rfl) rfl ?_ | refine WD.pure (StepK.min2 rfl rfl) rfl ?_ | refine WD.pure (StepK.max2 rfl rfl) rfl ?_ | refine WD.load1 rfl (by first | with_reducible assumption | rfl) ?_ | refine WD.run rfl ?_ | refine WD.skipn rfl rfl rfl ?_ | refine WD.skipun rfl rfl ?_))
    refine WD.pure (StepK.idxArr rfl rfl (idx_at (j := t) rfl (by omega) rfl)) rfl ?_
    refine WD.load1 rfl rK ?_
    (repeat (first | refine WD.pure (StepK.mv rfl) rfl ?_ | refine WD.pure (StepK.lenSl rfl (by first | with_reducible assumption | rfl)) rfl ?_ | refine WD.pure (StepK.fieldAddr rfl) rfl ?_ | refine WD.pure (StepK.add rfl rfl (by omega)) rfl ?_ | refine WD.pure (StepK.sub rfl rfl (by omega)) rfl ?_ | refine WD.pure (StepK.bin rfl rfl rfl) rfl ?_ | refine WD.pure (StepK.pickT rfl rfl) rfl ?_ | refine WD.pure (StepK.pickF rfl rfl) rfl ?_ | refine WD.pure (StepK.not rfl) rfl ?_ | refine WD.pure (StepK.eq rfl rfl rfl) rfl ?_ | refine WD.pure (StepK.extract rfl rfl) rfl ?_ | refine WD.pure (StepK.build rfl rfl) rfl ?_ | refine WD.pure (StepK.mkFn rfl rfl) rfl ?_ | refine WD.pure (StepK.field rfl rfl) rfl ?_ | refine WD.pure (StepK.lenStr rfl) rfl ?_ | refine WD.pure (StepK.nilck rfl) rfl ?_ | refine WD.pure (StepK.min2 rfl rfl) rfl ?_ | refine WD.pure (StepK.max2 rfl rfl) rfl ?_ | refine WD.load1 rfl (by first | with_reducible assumption | rfl) ?_ | refine WD.run rfl ?_ | refine WD.skipn rfl rfl rfl ?_ | refine WD.skipun rfl rfl ?_))
    refine WD.pure (StepK.idxArr rfl rfl (idx_at (j := t) rfl (by omega) rfl)) rfl ?_
    refine WD.load1 rfl rW ?_
    refine WD.call (by repeat (first | exact trivial | refine ⟨by with_reducible assumption, ?_⟩)) rfl rfl (right_ans S h9 m.m.g.wf (at32 v 4) 6 (by decide)) ?_
    rintro v1 h10 ⟨rfl, g10⟩
    have p7 := g10.rd r7
    have p5 := g10.rd r5
    have p6 := g10.rd r6
    have pK := g10.rd rK
    have pW := g10.rd rW
    refine WD.call (by repeat (first | exact trivial | refine ⟨by with_reducible assumption, ?_⟩)) rfl rfl (right_ans S h10 g10.wf (at32 v 4) 11 (by decide)) ?_
    rintro v2 h11 ⟨rfl, g11⟩
    have s7 := g11.rd p7
    have s5 := g11.rd p5
    have s6 := g11.rd p6
    have sK := g11.rd pK
    have sW := g11.rd pW
    refine WD.pure (StepK.bin rfl rfl rfl) rfl ?_
    refine WD.call (by repeat (first | exact trivial | refine ⟨by with_reducible assumption, ?_⟩)) rfl rfl (right_ans S h11 g11.wf (at32 v 4) 25 (by decide)) ?_
    rintro v3 h12 ⟨rfl, g12⟩
    have t7 := g12.rd s7
    have t5 := g12.rd s5
    have t6 := g12.rd s6
    have tK := g12.rd sK
    have tW := g12.rd sW
    (repeat (first | refine WD.pure (StepK.mv rfl) rfl ?_ | refine WD.pure (StepK.lenSl rfl (by first | with_reducible assumption | rfl)) rfl ?_ | refine WD.pure (StepK.fieldAddr rfl) rfl ?_ | refine WD.pure (StepK.add rfl rfl (by omega)) rfl ?_ | refine WD.pure (StepK.sub rfl rfl (by omega)) rfl ?_ | refine WD.pure (StepK.bin rfl rfl rfl) rfl ?_ | refine WD.pure (StepK.pickT rfl rfl) rfl ?_ | refine WD.pure (StepK.pickF rfl rfl) rfl ?_ | refine WD.pure (StepK.not rfl) rfl ?_ | refine WD.pure (StepK.eq rfl rfl rfl) rfl ?_ | refine WD.pure (StepK.extract rfl rfl) rfl ?_ | refine WD.pure (StepK.build rfl rfl) rfl ?_ | refine WD.pure (StepK.mkFn rfl rfl) rfl ?_ | refine WD.pure (StepK.field rfl rfl) rfl ?_ | refine WD.pure (StepK.lenStr rfl) rfl ?_ | refine WD.pure (StepK.nilck rfl) rfl ?_ | refine WD.pure (StepK.min2 rfl rfl) rfl ?_ | refine WD.pure (StepK.max2 rfl rfl) rfl ?_ | refine WD.load1 rfl (by first | with_reducible assumption | rfl) ?_ | refine WD.run rfl ?_ | refine WD.skipn rfl rfl rfl ?_ | refine WD.skipun rfl rfl ?_))
    refine WD.nil (by repeat (first | exact trivial | refine ⟨by with_reducible assumption, ?_⟩)) (WC.seqD ?_)
    have m12 := ((m.grow g10).grow g11).grow g12
    have q1 : h12.rd b12 1 = some (uv (at32 v 1)) := m12.a12.rd (by omega)
    have q2 : h12.rd b12 2 = some (uv (at32 v 2)) := m12.a12.rd (by omega)
    (repeat (first | refine WD.pure (StepK.mv rfl) rfl ?_ | refine WD.pure (StepK.lenSl rfl (by first | with_reducible assumption | rfl)) rfl ?_ | refine WD.pure (StepK.fieldAddr rfl) rfl ?_ | refine WD.pure (StepK.add rfl rfl (by omega)) rfl ?_ | refine WD.pure (StepK.sub rfl rfl (by omega)) rfl ?_ | refine WD.pure (StepK.bin rfl rfl rfl) rfl ?_ | refine WD.pure (StepK.pickT rfl rfl) rfl ?_ | refine WD.pure (StepK.pickF rfl rfl) rfl ?_ | refine WD.pure (StepK.not rfl) rfl ?_ | refine WD.pure (StepK.eq rfl rfl rfl) rfl ?_ | refine WD.pure (StepK.extract rfl rfl) rfl ?_ | refine WD.pure (StepK.build rfl rfl) rfl ?_ | refine WD.pure (StepK.mkFn rfl rfl) rfl ?_ | refine WD.pure (StepK.field rfl rfl) rfl ?_ | refine WD.pure (StepK.lenStr rfl) rfl ?_ | refine WD.pure (StepK.nilck rfl) rfl ?_ | refine WD.pure (StepK.min2 rfl rfl) rfl ?_ | refine WD.pure (StepK.max2 rfl rfl) rfl ?_ | refine WD.load1 rfl (by first | with_reducible assumption | rfl) ?_ | refine WD.run rfl ?_ | refine WD.skipn rfl rfl rfl ?_ | refine WD.skipun rfl rfl ?_))
    refine WD.pure (StepK.idxArr rfl rfl (idx_at (j := 1) rfl (by decide) rfl)) rfl ?_
    refine WD.load1 rfl q1 ?_
    (repeat (first | refine WD.pure (StepK.mv rfl) rfl ?_ | refine WD.pure (StepK.lenSl rfl (by first | with_reducible assumption | rfl)) rfl ?_ | refine WD.pure (StepK.fieldAddr rfl) rfl ?_ | refine WD.pure (StepK.add rfl rfl (by omega)) rfl ?_ | refine WD.pure (StepK.sub rfl rfl (by omega)) rfl ?_ | refine WD.pure (StepK.bin rfl rfl rfl) rfl ?_ | refine WD.pure (StepK.pickT rfl rfl) rfl ?_ | refine WD.pure (StepK.pickF rfl rfl) rfl ?_ | refine WD.pure (StepK.not rfl) rfl ?_ | refine WD.pure (StepK.eq rfl rfl rfl) rfl ?_ | refine WD.pure (StepK.extract rfl rfl) rfl ?_ | refine WD.pure (StepK.build rfl rfl) rfl ?_ | refine WD.pure (StepK.mkFn rfl rfl) rfl ?_ | refine WD.pure (StepK.field rfl rfl) rfl ?_ | refine WD.pure (StepK.lenStr rfl) rfl ?_ | refine WD.pure (StepK.nilck rfl) rfl ?_ | refine WD.pure (StepK.min2 rfl rfl) rfl ?_ | refine WD.pure (StepK.max2 rfl rfl) rfl ?_ | refine WD.load1 rfl (by first | with_reducible assumption | rfl) ?_ | refine WD.run rfl ?_ | refine WD.skipn rfl rfl rfl ?_ | refine WD.skipun rfl rfl ?_))
    refine WD.pure (StepK.idxArr rfl rfl (idx_at (j := 2) rfl (by decide) rfl)) rfl ?_
    refine WD.load1 rfl q2 ?_
    (repeat (first | refine WD.pure (StepK.mv rfl) rfl ?_ | refine WD.pure (StepK.lenSl rfl (by first | with_reducible assumption | rfl)) rfl ?_ | refine WD.pure (StepK.fieldAddr rfl) rfl ?_ | refine WD.pure (StepK.add rfl rfl (by omega)) rfl ?_ | refine WD.pure (StepK.sub rfl rfl (by omega)) rfl ?_ | refine WD.pure (StepK.bin rfl rfl rfl) rfl ?_ | refine WD.pure (StepK.pickT rfl rfl) rfl ?_ | refine WD.pure (StepK.pickF rfl rfl) rfl ?_ | refine WD.pure (StepK.not rfl) rfl ?_ | refine WD.pure (StepK.eq rfl rfl rfl) rfl ?_ | refine WD.pure (StepK.extract rfl rfl) rfl ?_ | refine WD.pure (StepK.build rfl rfl) rfl ?_ | refine WD.pure (StepK.mkFn rfl rfl) rfl ?_ | refine WD.pure (StepK.field rfl rfl) rfl ?_ | refine WD.pure (StepK.lenStr rfl) rfl ?_ | refine WD.pure (StepK.nilck rfl) rfl ?_ | refine WD.pure (StepK.min2 rfl rfl) rfl ?_ | refine WD.pure (StepK.max2 rfl rfl) rfl ?_ | refine WD.load1 rfl (by first | with_reducible assumption | rfl) ?_ | refine WD.run rfl ?_ | refine WD.skipn rfl rfl rfl ?_ | refine WD.skipun rfl rfl ?_))
    refine WD.pure (StepK.idxArr rfl rfl (idx_at (j := 1) rfl (by decide) rfl)) rfl ?_
    refine WD.load1 rfl q1 ?_
    refine WD.pure (StepK.idxArr rfl rfl (idx_at (j := 2) rfl (by decide) rfl)) rfl ?_
    refine WD.load1 rfl q2 ?_
    (repeat (first | refine WD.pure (StepK.mv rfl) rfl ?_ | refine WD.pure (StepK.lenSl rfl (by first | with_reducible assumption | rfl)) rfl ?_ | refine WD.pure (StepK.fieldAddr rfl) rfl ?_ | refine WD.pure (StepK.add rfl rfl (by omega)) rfl ?_ | refine WD.pure (StepK.sub rfl rfl (by omega)) rfl ?_ | refine WD.pure (StepK.bin rfl rfl rfl) rfl ?_ | refine WD.pure (StepK.pickT rfl rfl) rfl ?_ | refine WD.pure (StepK.pickF rfl rfl) rfl ?_ | refine WD.pure (StepK.not rfl) rfl ?_ | refine WD.pure (StepK.eq rfl rfl rfl) rfl ?_ | refine WD.pure (StepK.extract rfl rfl) rfl ?_ | refine WD.pure (StepK.build rfl rfl) rfl ?_ | refine WD.pure (StepK.mkFn rfl rfl) rfl ?_ | refine WD.pure (StepK.field rfl rfl) rfl ?_ | refine WD.pure (StepK.lenStr rfl) rfl ?_ | refine WD.pure (StepK.nilck rfl) rfl ?_ | refine WD.pure (StepK.min2 rfl rfl) rfl ?_ | refine WD.pure (StepK.max2 rfl rfl) rfl ?_ | refine WD.load1 rfl (by first | with_reducible assumption | rfl) ?_ | refine WD.run rfl ?_ | refine WD.skipn rfl rfl rfl ?_ | refine WD.skipun rfl rfl ?_))
    refine WD.call (by repeat (first | exact trivial | refine ⟨by with_reducible assumption, ?_⟩)) rfl rfl (right_ans S h12 g12.wf (at32 v 0) 2 (by decide)) ?_
    rintro v4 h13 ⟨rfl, g13⟩
    have q1' := g13.rd q1
    have q2' := g13.rd q2
    refine WD.call (by repeat (first | exact trivial | refine ⟨by with_reducible assumption, ?_⟩)) rfl rfl (right_ans S h13 g13.wf (at32 v 0) 13 (by decide)) ?_
    rintro v5 h14 ⟨rfl, g14⟩
    have q1'' := g14.rd q1'
    have q2'' := g14.rd q2'
    refine WD.pure (StepK.bin rfl rfl rfl) rfl ?_
    refine WD.call (by repeat (first | exact trivial | refine ⟨by with_reducible assumption, ?_⟩)) rfl rfl (right_ans S h14 g14.wf (at32 v 0) 22 (by decide)) ?_
    rintro v6 h15 ⟨rfl, g15⟩
    have q1''' := g15.rd q1''
    have q2''' := g15.rd q2''
    (repeat (first | refine WD.pure (StepK.mv rfl) rfl ?_ | refine WD.pure (StepK.lenSl rfl (by first | with_reducible assumption | rfl)) rfl ?_ | refine WD.pure (StepK.fieldAddr rfl) rfl ?_ | refine WD.pure (StepK.add rfl rfl (by omega)) rfl ?_ | refine WD.pure (StepK.sub rfl rfl (by omega)) rfl ?_ | refine WD.pure (StepK.bin rfl rfl rfl) rfl ?_ | refine WD.pure (StepK.pickT rfl rfl) rfl ?_ | refine WD.pure (StepK.pickF rfl rfl) rfl ?_ | refine WD.pure (StepK.not rfl) rfl ?_ | refine WD.pure (StepK.eq rfl rfl rfl) rfl ?_ | refine WD.pure (StepK.extract rfl rfl) rfl ?_ | refine WD.pure (StepK.build rfl rfl) rfl ?_ | refine WD.pure (StepK.mkFn rfl rfl) rfl ?_ | refine WD.pure (StepK.field rfl rfl) rfl ?_ | refine WD.pure (StepK.lenStr rfl) rfl ?_ | refine WD.pure (StepK.nilck rfl) rfl ?_ | refine WD.pure (StepK.min2 rfl rfl) rfl ?_ | refine WD.pure (StepK.max2 rfl rfl) rfl ?_ | refine WD.load1 rfl (by first | with_reducible assumption | rfl) ?_ | refine WD.run rfl ?_ | refine WD.skipn rfl rfl rfl ?_ | refine WD.skipun rfl rfl ?_))
    refine WD.nil (by repeat (first | exact trivial | refine ⟨by with_reducible assumption, ?_⟩)) (WC.ops ?_)
    have m15 := ((m12.grow g13).grow g14).grow g15
    have u1 : h15.rd b12 1 = some (uv (at32 v 1)) := m15.a12.rd (by omega)
    have u2 : h15.rd b12 2 = some (uv (at32 v 2)) := m15.a12.rd (by omega)
    have u3 : h15.rd b12 3 = some (uv (at32 v 3)) := m15.a12.rd (by omega)
    have u5 : h15.rd b12 5 = some (uv (at32 v 5)) := m15.a12.rd (by omega)
    have u6 : h15.rd b12 6 = some (uv (at32 v 6)) := m15.a12.rd (by omega)
    obtain ⟨h16, w16, m16⟩ := m15.set12 hw n2 n4 n5 (roundStep W K t v) (by rw [hl]; rfl)
    refine WO.ops (StepK.mv rfl) ?_
    refine WO.ops (StepK.mv rfl) ?_
    refine WO.ops (StepK.bin rfl rfl rfl) ?_
    refine WO.ops (StepK.mv rfl) ?_
    refine WO.ops (StepK.idxArr rfl rfl (idx_at (j := 1) rfl (by decide) rfl)) ?_
    refine WO.ops (StepK.load1 rfl u1) ?_
    refine WO.ops (StepK.idxArr rfl rfl (idx_at (j := 2) rfl (by decide) rfl)) ?_
    refine WO.ops (StepK.load1 rfl u2) ?_
    refine WO.ops (StepK.idxArr rfl rfl (idx_at (j := 3) rfl (by decide) rfl)) ?_
    refine WO.ops (StepK.load1 rfl u3) ?_
    refine WO.ops (StepK.mv rfl) ?_
    refine WO.ops (StepK.bin rfl rfl rfl) ?_
    refine WO.ops (StepK.mv rfl) ?_
    refine WO.ops (StepK.idxArr rfl rfl (idx_at (j := 5) rfl (by decide) rfl)) ?_
    refine WO.ops (StepK.load1 rfl u5) ?_
    refine WO.ops (StepK.idxArr rfl rfl (idx_at (j := 6) rfl (by decide) rfl)) ?_
    refine WO.ops (StepK.load1 rfl u6) ?_
    refine WO.ops (StepK.build rfl rfl) ?_
    refine WO.op (StepK.store rfl rfl rfl w16) (WO.nil ?_)
    refine WC.ops ?_
    (repeat (first | refine WO.ops (StepK.mv rfl) ?_ | refine WO.ops (StepK.lenSl rfl (by first | with_reducible assumption | rfl)) ?_ | refine WO.ops (StepK.fieldAddr rfl) ?_ | refine WO.ops (StepK.add rfl rfl (by omega)) ?_ | refine WO.ops (StepK.sub rfl rfl (by omega)) ?_ | refine WO.ops (StepK.bin rfl rfl rfl) ?_ | refine WO.ops (StepK.pickT rfl rfl) ?_ | refine WO.ops (StepK.pickF rfl rfl) ?_ | refine WO.ops (StepK.not rfl) ?_ | refine WO.ops (StepK.eq rfl rfl rfl) ?_ | refine WO.ops (StepK.extract rfl rfl) ?_ | refine WO.ops (StepK.build rfl rfl) ?_ | refine WO.ops (StepK.mkFn rfl rfl) ?_ | refine WO.ops (StepK.field rfl rfl) ?_ | refine WO.ops (StepK.lenStr rfl) ?_ | refine WO.ops (StepK.nilck rfl) ?_ | refine WO.ops (StepK.min2 rfl rfl) ?_ | refine WO.ops (StepK.max2 rfl rfl) ?_ | refine WO.ops (StepK.load1 rfl (by first | with_reducible assumption | rfl)) ?_ | refine WO.run rfl ?_ | refine WO.skip rfl rfl ?_ | refine WO.skipu rfl ?_))
    refine WO.nil ⟨(t + 1, roundStep W K t v), Cov.cons rfl (Cov.cons rfl (Cov.cons rfl (Cov.cons rfl (Cov.cons rfl (Cov.nil _))))), ⟨m16, rfl, by simp only; omega, ?_⟩, by simp only; omega⟩
    rw [hrd, show 64 - t = (64 - (t + 1)) + 1 by omega]; rfl
  rintro e9 h9 ⟨c9, m9⟩
  have hvl : ∀ (n t : Nat) (v : List Int), v.length = 8 → (rounds W K n t v).length = 8 := by
    intro n
    induction n with
    | zero => intro t v h; exact h
    | succ n ih => intro t v h; unfold rounds; exact ih _ _ rfl
  have hv := hvl 64 0 H hH
  generalize rounds W K 64 0 H = v at *
  refine WC.cov c9 ?_
  refine WC.seqM (M := fun e' h' => Cov [(2, .ptr (some (b2, 0))), (4, .ptr (some (b4, 0)))] e' ∧ RW h h' b2 b4 b5 b12 (sumUp v 8 0 H) (zeros 8) W v ∧ (sumUp v 8 0 H).length = 8) ?_ ?_
  · refine WC.seqO ?_
    (repeat (first | refine WO.ops (StepK.mv rfl) ?_ | refine WO.ops (StepK.lenSl rfl (by first | with_reducible assumption | rfl)) ?_ | refine WO.ops (StepK.fieldAddr rfl) ?_ | refine WO.ops (StepK.add rfl rfl (by omega)) ?_ | refine WO.ops (StepK.sub rfl rfl (by omega)) ?_ | refine WO.ops (StepK.bin rfl rfl rfl) ?_ | refine WO.ops (StepK.pickT rfl rfl) ?_ | refine WO.ops (StepK.pickF rfl rfl) ?_ | refine WO.ops (StepK.not rfl) ?_ | refine WO.ops (StepK.eq rfl rfl rfl) ?_ | refine WO.ops (StepK.extract rfl rfl) ?_ | refine WO.ops (StepK.build rfl rfl) ?_ | refine WO.ops (StepK.mkFn rfl rfl) ?_ | refine WO.ops (StepK.field rfl rfl) ?_ | refine WO.ops (StepK.lenStr rfl) ?_ | refine WO.ops (StepK.nilck rfl) ?_ | refine WO.ops (StepK.min2 rfl rfl) ?_ | refine WO.ops (StepK.max2 rfl rfl) ?_ | refine WO.ops (StepK.load1 rfl (by first | with_reducible assumption | rfl)) ?_ | refine WO.run rfl ?_ | refine WO.skip rfl rfl ?_ | refine WO.skipu rfl ?_))
    refine WO.nil (WC.block ?_)
    refine WC.loop (σ := Nat × List Int) (fun p => [(2, .ptr (some (b2, 0))), (4, .ptr (some (b4, 0))), (12, .ptr (some (b12, 0))), (163, iv p.1)])
      (fun p h' => RW h h' b2 b4 b5 b12 p.2 (zeros 8) W v ∧ p.2.length = 8 ∧ p.1 ≤ 8 ∧ sumUp v 8 0 H = sumUp v (8 - p.1) p.1 p.2) (fun p => 8 - p.1) (0, H) ?_ ⟨m9, hH, by omega, rfl⟩ ?_
    · exact Cov.cons rfl (Cov.cons rfl (Cov.cons rfl (Cov.cons rfl (Cov.nil _))))
    rintro ⟨i, U⟩ h10 ⟨m, hl, hi, hsu⟩
    simp only at m hl hi hsu
    refine WC.seqO ?_
    (repeat (first | refine WO.ops (StepK.mv rfl) ?_ | refine WO.ops (StepK.lenSl rfl (by first | with_reducible assumption | rfl)) ?_ | refine WO.ops (StepK.fieldAddr rfl) ?_ | refine WO.ops (StepK.add rfl rfl (by omega)) ?_ | refine WO.ops (StepK.sub rfl rfl (by omega)) ?_ | refine WO.ops (StepK.bin rfl rfl rfl) ?_ | refine WO.ops (StepK.pickT rfl rfl) ?_ | refine WO.ops (StepK.pickF rfl rfl) ?_ | refine WO.ops (StepK.not rfl) ?_ | refine WO.ops (StepK.eq rfl rfl rfl) ?_ | refine WO.ops (StepK.extract rfl rfl) ?_ | refine WO.ops (StepK.build rfl rfl) ?_ | refine WO.ops (StepK.mkFn rfl rfl) ?_ | refine WO.ops (StepK.field rfl rfl) ?_ | refine WO.ops (StepK.lenStr rfl) ?_ | refine WO.ops (StepK.nilck rfl) ?_ | refine WO.ops (StepK.min2 rfl rfl) ?_ | refine WO.ops (StepK.max2 rfl rfl) ?_ | refine WO.ops (StepK.load1 rfl (by first | with_reducible assumption | rfl)) ?_ | refine WO.run rfl ?_ | refine WO.skip rfl rfl ?_ | refine WO.skipu rfl ?_))
    refine WO.nil (WC.seq ?_)
    refine WC.cond rfl (fun hc => WC.skip ?_) (fun hc => WC.exit ?_)
    rotate_left
    · have hc := of_decide_eq_false hc
      have : i = 8 := by omega
      subst this
      refine ⟨Cov.cons rfl (Cov.cons rfl (Cov.nil _)), ?_⟩
      rw [hsu]; exact ⟨m, hl⟩
    have hc := of_decide_eq_true hc
    have hi : i < 8 := by omega
    refine WC.seq (WC.block (WC.seqO ?_))
    (repeat (first | refine WO.ops (StepK.mv rfl) ?_ | refine WO.ops (StepK.lenSl rfl (by first | with_reducible assumption | rfl)) ?_ | refine WO.ops (StepK.fieldAddr rfl) ?_ | refine WO.ops (StepK.add rfl rfl (by omega)) ?_ | refine WO.ops (StepK.sub rfl rfl (by omega)) ?_ | refine WO.ops (StepK.bin rfl rfl rfl) ?_ | refine WO.ops (StepK.pickT rfl rfl) ?_ | refine WO.ops (StepK.pickF rfl rfl) ?_ | refine WO.ops (StepK.not rfl) ?_ | refine WO.ops (StepK.eq rfl rfl rfl) ?_ | refine WO.ops (StepK.extract rfl rfl) ?_ | refine WO.ops (StepK.build rfl rfl) ?_ | refine WO.ops (StepK.mkFn rfl rfl) ?_ | refine WO.ops (StepK.field rfl rfl) ?_ | refine WO.ops (StepK.lenStr rfl) ?_ | refine WO.ops (StepK.nilck rfl) ?_ | refine WO.ops (StepK.min2 rfl rfl) ?_ | refine WO.ops (StepK.max2 rfl rfl) ?_ | refine WO.ops (StepK.load1 rfl (by first | with_reducible assumption | rfl)) ?_ | refine WO.run rfl ?_ | refine WO.skip rfl rfl ?_ | refine WO.skipu rfl ?_))
    refine WO.nil (WC.draw ?_)
    have r1 : h10.rd b2 i = some (uv (at32 U i)) := m.m.a2.rd (by omega)
    have r2 : h10.rd b12 i = some (uv (at32 v i)) := m.a12.rd (by omega)
    obtain ⟨h11, w11, m11⟩ := m.set2 hw (Ne.symm n24) (Ne.symm n25) (Ne.symm n2) (i := i) (by omega) (wr32 (at32 U i + at32 v i))
    refine WD.pure (StepK.mv rfl) rfl ?_
    refine WD.pure (StepK.idxArr rfl rfl (idx_at rfl (by omega) rfl)) rfl ?_
    refine WD.load1 rfl r1 ?_
    refine WD.pure (StepK.mv rfl) rfl ?_
    refine WD.pure (StepK.idxArr rfl rfl (idx_at rfl (by omega) rfl)) rfl ?_
    refine WD.load1 rfl r2 ?_
    refine WD.pure (StepK.bin rfl rfl rfl) rfl ?_
    refine WD.pure (StepK.idxArr rfl rfl (idx_at rfl (by omega) rfl)) rfl ?_
    refine WD.opC (by repeat (first | exact trivial | refine ⟨by with_reducible assumption, ?_⟩)) rfl (StepK.store rfl rfl rfl w11) ?_
    refine WD.nil trivial ?_
    refine WC.ops ?_
    (repeat (first | refine WO.ops (StepK.mv rfl) ?_ | refine WO.ops (StepK.lenSl rfl (by first | with_reducible assumption | rfl)) ?_ | refine WO.ops (StepK.fieldAddr rfl) ?_ | refine WO.ops (StepK.add rfl rfl (by omega)) ?_ | refine WO.ops (StepK.sub rfl rfl (by omega)) ?_ | refine WO.ops (StepK.bin rfl rfl rfl) ?_ | refine WO.ops (StepK.pickT rfl rfl) ?_ | refine WO.ops (StepK.pickF rfl rfl) ?_ | refine WO.ops (StepK.not rfl) ?_ | refine WO.ops (StepK.eq rfl rfl rfl) ?_ | refine WO.ops (StepK.extract rfl rfl) ?_ | refine WO.ops (StepK.build rfl rfl) ?_ | refine WO.ops (StepK.mkFn rfl rfl) ?_ | refine WO.ops (StepK.field rfl rfl) ?_ | refine WO.ops (StepK.lenStr rfl) ?_ | refine WO.ops (StepK.nilck rfl) ?_ | refine WO.ops (StepK.min2 rfl rfl) ?_ | refine WO.ops (StepK.max2 rfl rfl) ?_ | refine WO.ops (StepK.load1 rfl (by first | with_reducible assumption | rfl)) ?_ | refine WO.run rfl ?_ | refine WO.skip rfl rfl ?_ | refine WO.skipu rfl ?_))
    refine WO.nil ⟨(i + 1, U.set i (wr32 (at32 U i + at32 v i))), Cov.cons rfl (Cov.cons rfl (Cov.cons rfl (Cov.cons rfl (Cov.nil _)))), ⟨m11, by rw [List.length_set]; exact hl, by simp only; omega, ?_⟩, by simp only; omega⟩
    rw [hsu, show 8 - i = (8 - (i + 1)) + 1 by omega]; rfl
  rintro e10 h10 ⟨c10, m10, hl10⟩
  generalize sumUp v 8 0 H = R at *
  refine WC.cov c10 (WC.seqO ?_)
  refine WO.ops (StepK.loadN rfl (m10.m.a2.rds hl10)) ?_
  obtain ⟨h11, w11, a11, g11, _⟩ := m10.m.a4.storeAll hw m10.m.g R (by rw [hl10]; rfl)
  refine WO.op (StepK.store rfl rfl (by show (R.map uv).length = 8; rw [List.length_map]; exact hl10) w11) (WO.nil (WC.ret ⟨trivial, g11, ?_⟩))
  have e : loadA h11 (some 8) (.ptr (some (b4, 0))) = some (.agg (R.map uv)) := by simp only [loadA, a11.rds hl10]
  show (match ressE _ h11 _ with | some vs => some (oneOf vs) | none => none) = _
  have e4 : Env.get (Env.put [(175, V.agg (R.map uv)), (2, V.ptr (some (b2, 0))), (4, V.ptr (some (b4, 0)))] none undefV) 4 = some (.ptr (some (b4, 0))) := rfl
  simp only [ressE, resE, e4, e]
  rfl
end
end Abs
end Go.Proofs.YtmgbcaboljilnaaGreatDoor
