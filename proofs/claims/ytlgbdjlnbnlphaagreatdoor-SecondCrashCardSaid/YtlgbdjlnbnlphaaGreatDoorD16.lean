/- The second level: Room, log. The second level: the sectors of a group, an iterator. The laws' plain: records of a fit size, with keys that differ. The second level: load's loop over the sectors of a group (where each number lies). The second level: find. The second level: Entries. The second level: Find. -/
import Derived.Test.YtlgbdjlnbnlphaaGreatDoorD9
namespace Go.Proofs.YtlgbdjlnbnlphaaGreatDoor
namespace Abs
set_option linter.unusedVariables false
set_option linter.unusedSimpArgs false
open Go.RowKit
attribute [local irreducible] WO WC WD StepK Ans Does Runs DoesD

theorem rem_nat (m k : Nat) (hk : k ≠ 0) : binA .rem (iv m) (iv k) = some (iv ((m % k : Nat) : Int)) := by
  simp only [binA]
  rw [if_pos ⟨trivial, by omega⟩]; rfl
theorem quo_nat (m k : Nat) (hk : k ≠ 0) (hm : m < 9223372036854775808) : binA .quo (iv m) (iv k) = some (iv ((m / k : Nat) : Int)) := by
  simp only [binA]
  rw [if_pos ⟨trivial, by omega⟩]
  have h1 : ((m : Int).tdiv (k : Int)) = ((m / k : Nat) : Int) := rfl
  have h2 : m / k ≤ m := Nat.div_le_self m k
  rw [h1]
  generalize m / k = q at *
  rw [StepK.wrap64 (by omega) (by omega)]
theorem mul_at {m n : Int} (h1 : -9223372036854775808 ≤ m * n) (h2 : m * n < 9223372036854775808) : binA .mul (iv m) (iv n) = some (iv (m * n)) := by
  simp only [binA, iv, if_true, StepK.wrap64 h1 h2]
theorem ret_cell {e : List (Nat × V)} {h : Heap} {a : Nat} {n : Option Nat} {x v : V} (ea : Env.get e a = some x) (hl : loadA h n x = some v) : retE e h [.cell a n] = some v := by
  simp only [retE, ressE, resE, ea, hl]
  rfl
/-- How many blocks n sectors hold. -/
def roomN (n : Nat) : Nat := n / 8 * 7 + (n % 8 - 1)
section
variable {C : Cfg} (S : StdO C)
include S
theorem room_ans (h : Heap) (hw : Wf h) (s n : Nat) (hr : h.rd s (0 + 2) = some (iv n)) (hn : n ≤ 1000000) : Ans C 12 [.ptr (some (s, 0))] h fun r h' => r = iv (roomN n) ∧ Grow h h' := by
  have hF : C.F 12 = some a12 := S.f rfl
  unfold a12 at hF
  refine Ans.val (fun _ _ => S.s _ _ _ rfl) hF rfl rfl hw fun h2 g => ?_
  clear hF
  have r2 := g.rd hr
  refine WC.seqO (omv rfl (WO.nil (WC.seq (WC.seqO ?_))))
  refine omv rfl <| oeq rfl rfl (t := false) rfl (WO.nil (WC.cond rfl (fun hc => by cases hc) (fun hc => WC.skip (WC.seqD ?_))))
  have e1 : binA .quo (iv n) (iv 8) = some (iv ((n / 8 : Nat) : Int)) := quo_nat n 8 (by decide) (by omega)
  have e2 : binA .rem (iv n) (iv 8) = some (iv ((n % 8 : Nat) : Int)) := rem_nat n 8 (by decide)
  refine dmv rfl <| dnk rfl <| dfa rfl <| WD.load1 rfl r2 <| dbn rfl rfl e1 <| dbn rfl rfl (mul_at (by omega) (by omega)) <|
    dmv rfl <| dnk rfl <| dfa rfl <| WD.load1 rfl r2 <| dbn rfl rfl e2 <| dsb rfl rfl (by omega) <| dmx rfl rfl ?_
  have em : (if (0 : Int) > ((n % 8 : Nat) : Int) - 1 then (0 : Int) else ((n % 8 : Nat) : Int) - 1) = ((n % 8 - 1 : Nat) : Int) := by split <;> omega
  refine dad rfl rfl (by rw [em]; omega) <| dmv rfl <| WD.nil (by repeat (first | exact trivial | refine ⟨by with_reducible assumption, ?_⟩)) <| WC.ret ⟨trivial, g, ?_⟩
  have ee : ((n / 8 : Nat) : Int) * 7 + (if (0 : Int) > ((n % 8 : Nat) : Int) - 1 then (0 : Int) else ((n % 8 : Nat) : Int) - 1) = (roomN n : Nat) := by
    rw [em]; unfold roomN; omega
  rw [← ee]
  rfl
theorem log_ans (h : Heap) (hw : Wf h) (s : Nat) (f k : Int) (hr : h.rd s (0 + 1) = some (iv f)) (hf : 0 ≤ f ∧ f ≤ 1000000) (hk : -1000000 ≤ k ∧ k ≤ 1000000) : Ans C 34 [.ptr (some (s, 0)), iv k] h fun r h' => r = .agg [iv 1, iv (f + 8 * k)] ∧ Grow h h' := by
  have hF : C.F 34 = some a34 := S.f rfl
  unfold a34 at hF
  refine Ans.val (fun _ _ => S.s _ _ _ rfl) hF rfl rfl hw fun h2 g => ?_
  clear hF
  refine WC.seqO (WO.ops (StepK.alloc) ?_)
  have c4 : Cl (h2.push (.cells [iv 0, iv 0] (.tip [] 0 none))) h2.size [iv 0, iv 0] := Cl.new _ _ _
  have g3 := g.push (.cells [iv 0, iv 0] (.tip [] 0 none))
  have z2 := g.size
  change WO C _ _ (h2.push (.cells [iv 0, iv 0] (.tip [] 0 none))) _
  generalize h2.push (.cells [iv 0, iv 0] (.tip [] 0 none)) = h3 at *
  generalize h2.size = p at *
  obtain ⟨h4, r1, r2, r3, r4⟩ := c4.sets g3.wf (i := 0) (us := [iv 1, iv (f + 8 * k)]) (by simp) (by simp [V.one, iv])
  have g4 : Grow h h4 := r3.newGrow g3 hw (fun x hx => by obtain rfl := List.mem_singleton.1 hx; omega)
  refine WO.nil (WC.seqO ?_)
  refine omv rfl <| onk rfl <| ofa rfl <| old rfl (g3.rd hr) <| omv rfl <| obn rfl rfl (mul_at (by omega) (by omega)) <| oad rfl rfl (by omega) <| obu rfl rfl ?_
  refine WO.op (StepK.store (v := .agg [iv 1, iv (f + 8 * k)]) rfl rfl rfl r1) (WO.nil (WC.ret ⟨trivial, g4, ?_⟩))
  have hl : loadA h4 (some 2) (.ptr (some (p, 0))) = some (.agg [iv 1, iv (f + 8 * k)]) := by
    have q : h4.rds p 0 2 = some [iv 1, iv (f + 8 * k)] := r2.rds (k := 2) rfl
    simp only [loadA, q]
  exact ret_cell rfl hl
end
end Abs
end Go.Proofs.YtlgbdjlnbnlphaaGreatDoor
namespace Go.Proofs.YtlgbdjlnbnlphaaGreatDoor
namespace Abs
set_option linter.unusedVariables false
set_option linter.unusedSimpArgs false
open Go.RowKit
attribute [local irreducible] WO WC WD StepK Ans Does Runs DoesD

section
variable {C : Cfg} (S : StdO C)
include S
theorem sectors_ans (h : Heap) (hw : Wf h) (s : Nat) (k : Int) : Ans C 19 [.ptr (some (s, 0)), iv k] h fun r h' => ∃ p q, r = .func (.func 36) [] [.ptr (some (q, 0)), .ptr (some (p, 0))] ∧ Grow h h' ∧ Cl h' p [.ptr (some (s, 0))] ∧ Cl h' q [iv k] ∧ h.size ≤ p ∧ p < q := by
  have hF : C.F 19 = some a19 := S.f rfl
  unfold a19 at hF
  refine Ans.fn (fun _ _ => S.s _ _ _ rfl) hF rfl rfl hw (fun h2 g => ?_)
  clear hF
  refine WC.seqO (WO.ops (StepK.box rfl) ?_)
  have cP : Cl (h2.push (.cells [.ptr (some (s, 0))] (.tip [] 0 none))) h2.size [.ptr (some (s, 0))] := Cl.new _ _ _
  have gA := g.push (.cells [.ptr (some (s, 0))] (.tip [] 0 none))
  have z2 := g.size
  have zA : (h2.push (.cells [.ptr (some (s, 0))] (.tip [] 0 none))).size = h2.size + 1 := rfl
  change WO C _ _ (h2.push (.cells [.ptr (some (s, 0))] (.tip [] 0 none))) _
  generalize h2.push (.cells [.ptr (some (s, 0))] (.tip [] 0 none)) = h3 at *
  generalize h2.size = p at *
  refine WO.ops (StepK.box rfl) ?_
  have cQ : Cl (h3.push (.cells [iv k] (.tip [] 0 none))) h3.size [iv k] := Cl.new _ _ _
  have gb := (Grow.refl gA.wf).push (.cells [iv k] (.tip [] 0 none))
  have cP2 := cP.grow gb
  have gB := gA.trans gb
  clear gb
  change WO C _ _ (h3.push (.cells [iv k] (.tip [] 0 none))) _
  generalize h3.push (.cells [iv k] (.tip [] 0 none)) = h4 at *
  generalize h3.size = q at *
  refine omv rfl <| WO.nil <| WC.seqO <| omf rfl rfl <| omv rfl <| WO.nil <| WC.ret ⟨trivial, gB.wf, _, rfl, fun h5 g5 => ⟨p, q, rfl, gB.trans g5, cP2.grow g5, cQ.grow g5, z2, by omega⟩, fun hc => ?_⟩
  change (V.func (.func 36) [] [.ptr (some (q, 0)), .ptr (some (p, 0))]).scopd h.size = true at hc
  simp [V.scopd, V.scopeds] at hc
  omega
/-- The iterator: seven sectors of a group, or what is left. -/
theorem sectors1_ans (hSm : ∀ f args h v h', C.S f args h = some (some (v, h')) → HM h h') (h : Heap) (hw : Wf h) (l p q s k f n : Nat) (hk : k ≤ 100000) (hf : f ≤ 1000000) (hn : n ≤ 1000000) {J : Nat → Heap → Prop} {K : Heap → Prop}
    (hFe : Feeds C h l (min 7 (roomN n - 7 * k)) (fun i => [iv ((7 * k + i : Nat) : Int), iv ((f + 8 * k + 1 + i : Nat) : Int)]) J K)
    (inv : ∀ i h', J i h' → Wf h' ∧ h'.rd q 0 = some (iv k) ∧ h'.rd p 0 = some (.ptr (some (s, 0))) ∧ h'.rd s (0 + 1) = some (iv f) ∧ h'.rd s (0 + 2) = some (iv n)) :
    Ans C 36 [.yld l, .ptr (some (q, 0)), .ptr (some (p, 0))] h fun v h' => J (min 7 (roomN n - 7 * k)) h' ∨ K h' := by
  have hF : C.F 36 = some a36 := S.f rfl
  unfold a36 at hF
  refine Ans.loc hSm (S.s _ _ _ rfl) hF rfl rfl hw (fun h2 g hs2 hg2 => ?_) (fun v h1 hl hr _ => ?_)
  rotate_left
  · rcases hr with hr | hr
    · exact .inl (hFe.locJ _ _ hr hl)
    · exact .inr (hFe.locK _ hr hl)
  clear hF
  have j0 : J 0 h2 := hFe.grow 0 h h2 hFe.zero g
  refine WC.seqO (omv rfl (WO.nil (WC.block ?_)))
  refine WC.loop (σ := Nat) (fun i => [(0, .yld l), (1, .ptr (some (q, 0))), (2, .ptr (some (p, 0))), (6, iv i)]) (fun i h' => i ≤ min 7 (roomN n - 7 * k) ∧ J i h') (fun i => 7 - i) 0
    (Cov.cons rfl (Cov.cons rfl (Cov.cons rfl (Cov.cons rfl (Cov.nil _))))) ⟨Nat.zero_le _, j0⟩ ?_
  rintro i h3 ⟨hi, j3⟩
  obtain ⟨w3, rq, rp, rf, rn⟩ := inv i h3 j3
  refine WC.seqO ?_
  by_cases h7 : i < 7
  · refine obn rfl rfl (ltT (by omega)) (WO.nil (WC.seq (WC.cond rfl (fun hc => WC.skip ?_) (fun hc => by cases hc))))
    refine WC.seq (WC.block (WC.seqO ?_))
    refine omv rfl <| omv rfl <| WO.nil <| WC.seqO ?_
    refine old rfl rq <| obn rfl rfl (mul_at (by omega) (by omega)) <| omv rfl <| oad rfl rfl (by omega) <| omv rfl <| WO.nil <| WC.seqO ?_
    refine omv rfl <| old rfl rp ?_
    refine WO.call rfl rfl (room_ans S h3 w3 s n rn hn) ?_
    rintro _ h4 ⟨rfl, g4⟩
    have j4 := hFe.grow _ _ _ j3 g4
    by_cases hr : 7 * k + i < roomN n
    · refine obn rfl rfl (geF (by omega)) ?_
      refine omv rfl <| WO.run rfl <| omv rfl <| WO.run rfl <| omv rfl <| WO.run rfl <| old rfl (g4.rd rp) <| WO.run rfl <| old rfl (g4.rd rq) <| WO.run rfl ?_
      refine WO.call rfl rfl (log_ans S h4 g4.wf s f k (g4.rd rf) (by omega) (by omega)) ?_
      rintro _ h5 ⟨rfl, g5⟩
      have j5 := hFe.grow _ _ _ j4 g5
      have hy := hFe.step i (by omega) h5 j5
      rw [show ((7 * k + i : Nat) : Int) = 7 * (k : Int) + i by omega, show ((f + 8 * k + 1 + i : Nat) : Int) = (f : Int) + 8 * k + 1 + i by omega] at hy
      refine WO.run rfl <| ofd rfl rfl <| WO.run rfl <| oad rfl rfl (by omega) <| WO.run rfl <| omv rfl <| WO.run rfl <| oad rfl rfl (by omega) <| WO.run rfl ?_
      refine WO.yld rfl rfl hy ?_
      rintro v h6 (⟨rfl, j6⟩ | ⟨rfl, k6⟩)
      · refine WO.run rfl <| ont rfl <| opf rfl rfl <| WO.nil <| WC.cond rfl (fun hc => by cases hc) (fun hc => WC.skip (WC.ops ?_))
        refine oad rfl rfl (by omega) <| omv rfl (WO.nil ⟨i + 1, ?_, ⟨by omega, j6⟩, by omega⟩)
        exact Cov.cons rfl (Cov.cons rfl (Cov.cons rfl (Cov.cons (by simp [Env.get, iv]) (Cov.nil _))))
      · refine WO.run rfl <| ont rfl <| opf rfl rfl <| WO.nil <| WC.cond rfl (fun hc => WC.ret ?_) (fun hc => by cases hc)
        exact ⟨trivial, .tuple [], rfl, fun m => .inr (hFe.lowK _ _ k6)⟩
    · refine obn rfl rfl (geT (by omega)) ?_
      (repeat (first | refine omv rfl ?_ | refine ols rfl (by first | with_reducible assumption | rfl) ?_ | refine ofa rfl ?_ | refine oad rfl rfl (by omega) ?_ | refine osb rfl rfl (by omega) ?_ | refine obn rfl rfl rfl ?_ | refine opt rfl rfl ?_ | refine opf rfl rfl ?_ | refine ont rfl ?_ | refine oeq rfl rfl rfl ?_ | refine oex rfl rfl ?_ | refine obu rfl rfl ?_ | refine ofd rfl rfl ?_ | refine olt rfl ?_ | refine onk rfl ?_ | refine old rfl (by first | with_reducible assumption | rfl) ?_ | refine WO.run rfl ?_ | refine WO.skip rfl rfl ?_ | refine WO.skipu rfl ?_))
      have e : i = min 7 (roomN n - 7 * k) := by omega
      rw [e] at j4
      exact WO.nil (WC.cond rfl (fun hc => WC.ret ⟨trivial, .tuple [], rfl, fun m => .inl (hFe.lowJ _ _ _ j4)⟩) (fun hc => by cases hc))
  · have e : i = min 7 (roomN n - 7 * k) := by omega
    rw [e] at j3
    refine obn rfl rfl (ltF (by omega)) (WO.nil (WC.seq (WC.cond rfl (fun hc => by cases hc) (fun hc => WC.exit ?_))))
    exact ⟨trivial, .tuple [], rfl, fun m => .inl (hFe.lowJ _ _ _ j3)⟩
end
end Abs
end Go.Proofs.YtlgbdjlnbnlphaaGreatDoor
namespace Go.Proofs.YtlgbdjlnbnlphaaGreatDoor
namespace Abs
set_option linter.unusedVariables false
set_option linter.unusedSimpArgs false
open Go.RowKit
attribute [local irreducible] WO WC WD StepK Ans Does Runs DoesD

abbrev Rec := List Nat × List Nat
def rC (f : Rec) : List V := [.str f.1, .str f.2]
def RecOk (fs : List Rec) (i : Nat) : Prop := ∃ f, fs[i]? = some f ∧ 1 ≤ f.1.length ∧ f.1.length ≤ 60 ∧ f.2.length ≤ 960 ∧ ∀ j < i, ∀ g, fs[j]? = some g → g.1 ≠ f.1
def PlainOk (fs : List Rec) : Prop := (∀ i < fs.length, RecOk fs i) ∧ fs.length ≤ 30
theorem strEqT {a b : List Nat} (h : a = b) : binA .eql (.str a) (.str b) = some (.bool true) := by
  subst h
  simp [binA, beqL_refl]
theorem strEqF {a b : List Nat} (h : a ≠ b) : binA .eql (.str a) (.str b) = some (.bool false) := by
  have : beqL a b = false := Bool.eq_false_iff.2 fun q => h ((beqL_iff a b).1 q)
  simp [binA, this]
section
variable {C : Cfg} (S : StdO C)
include S
theorem plain_ans (h : Heap) (hw : Wf h) (x : V) (fs : List Rec) (sx : Sl h 2 x (fs.map rC)) (hn : fs.length ≤ 9223372036854775807) : Ans C 4 [x] h fun r h' => ∃ t, r = .bool t ∧ (t = true → PlainOk fs) ∧ Grow h h' := by
  have hF : C.F 4 = some a4 := S.f rfl
  unfold a4 at hF
  refine Ans.fn (fun _ _ => S.s _ _ _ rfl) hF rfl rfl hw (fun h2 g => ?_)
  clear hF
  have s2 := sx.grow g
  have out : ∀ (e' : List (Nat × V)) (t : Bool), Env.get e' 2 = some (.bool t) → (t = true → PlainOk fs) → Fin .ret ∧ Wf h2 ∧ ∃ v, retE e' h2 [.tmp 2] = some v ∧ (∀ h3, Grow h2 h3 → ∃ t, v = .bool t ∧ (t = true → PlainOk fs) ∧ Grow h h3) ∧ (v.scopd h.size = true → ∃ t, v = .bool t ∧ (t = true → PlainOk fs) ∧ Grow h h) := by
    intro e' t he ht
    refine ⟨trivial, g.wf, .bool t, ?_, fun h3 g3 => ⟨t, rfl, ht, g.trans g3⟩, fun _ => ⟨t, rfl, ht, Grow.refl hw⟩⟩
    simp only [retE, ressE, resE, he]; rfl
  refine WC.seqO (omv rfl (WO.nil (WC.seq (WC.seqO (omv rfl (WO.nil (WC.block ?_)))))))
  have hlen : (fs.map rC).length = fs.length := List.length_map _
  refine WC.loop (σ := Nat) (fun i => [(0, x), (3, iv i)]) (fun i h' => h' = h2 ∧ i ≤ fs.length ∧ ∀ j < i, RecOk fs j) (fun i => fs.length - i) 0
    (Cov.cons rfl (Cov.cons rfl (Cov.nil _))) ⟨rfl, Nat.zero_le _, fun j hj => by omega⟩ ?_
  rintro i h' ⟨rfl, hi, hrow⟩
  refine WC.seq (WC.seqO ?_)
  by_cases hlt : i < fs.length
  · refine omv rfl <| omv rfl <| ols rfl s2.len <| obn rfl rfl (ltT (by omega)) (WO.nil (WC.cond rfl (fun hc => WC.skip ?_) (fun hc => by cases hc)))
    obtain ⟨c, o, i1, i2⟩ := s2.at (i := i) (by omega)
    have ef : (fs.map rC)[i]'(by omega) = rC fs[i] := by simp
    rw [ef] at i2
    have hfi : fs[i]? = some fs[i] := List.getElem?_eq_getElem hlt
    generalize fs[i] = f at *
    have r0 : h'.rd c (o + 0) = some (.str f.1) := rds_rd i2 (j := 0) rfl
    have r1 : h'.rd c (o + 1) = some (.str f.2) := rds_rd i2 (j := 1) rfl
    refine WC.seq (WC.block (WC.seq (WC.seqO ?_)))
    refine omv rfl <| omv rfl <| WO.ops (StepK.idxSl rfl rfl i1) <| ofa rfl <| old rfl r0 <| olt rfl ?_
    by_cases a1 : (f.1.length : Int) < 1
    · refine obn rfl rfl (ltT a1) ?_
      (repeat (first | refine omv rfl ?_ | refine ols rfl (by first | with_reducible assumption | rfl) ?_ | refine ofa rfl ?_ | refine oad rfl rfl (by omega) ?_ | refine osb rfl rfl (by omega) ?_ | refine obn rfl rfl rfl ?_ | refine opt rfl rfl ?_ | refine opf rfl rfl ?_ | refine ont rfl ?_ | refine oeq rfl rfl rfl ?_ | refine oex rfl rfl ?_ | refine obu rfl rfl ?_ | refine ofd rfl rfl ?_ | refine olt rfl ?_ | refine onk rfl ?_ | refine old rfl (by first | with_reducible assumption | rfl) ?_ | refine WO.run rfl ?_ | refine WO.skip rfl rfl ?_ | refine WO.skipu rfl ?_))
      exact WO.nil (WC.cond rfl (fun hc => WC.seqO (omv rfl (WO.nil (WC.ret (out _ false rfl (by simp)))))) (fun hc => by cases hc))
    refine obn rfl rfl (ltF a1) <| omv rfl <| WO.run rfl <| omv rfl <| WO.run rfl <| omv rfl <| WO.run rfl <| WO.ops (StepK.idxSl rfl rfl i1) <| WO.run rfl <| ofa rfl <| WO.run rfl <| old rfl r0 <| WO.run rfl <| olt rfl <| WO.run rfl ?_
    by_cases a2 : (60 : Int) < f.1.length
    · refine obn rfl rfl (gtT a2) ?_
      (repeat (first | refine omv rfl ?_ | refine ols rfl (by first | with_reducible assumption | rfl) ?_ | refine ofa rfl ?_ | refine oad rfl rfl (by omega) ?_ | refine osb rfl rfl (by omega) ?_ | refine obn rfl rfl rfl ?_ | refine opt rfl rfl ?_ | refine opf rfl rfl ?_ | refine ont rfl ?_ | refine oeq rfl rfl rfl ?_ | refine oex rfl rfl ?_ | refine obu rfl rfl ?_ | refine ofd rfl rfl ?_ | refine olt rfl ?_ | refine onk rfl ?_ | refine old rfl (by first | with_reducible assumption | rfl) ?_ | refine WO.run rfl ?_ | refine WO.skip rfl rfl ?_ | refine WO.skipu rfl ?_))
      exact WO.nil (WC.cond rfl (fun hc => WC.seqO (omv rfl (WO.nil (WC.ret (out _ false rfl (by simp)))))) (fun hc => by cases hc))
    refine obn rfl rfl (gtF a2) <| opf rfl rfl <| omv rfl <| WO.run rfl <| omv rfl <| WO.run rfl <| omv rfl <| WO.run rfl <| WO.ops (StepK.idxSl rfl rfl i1) <| WO.run rfl <| ofa rfl <| WO.run rfl <| old rfl r1 <| WO.run rfl <| olt rfl <| WO.run rfl ?_
    by_cases a3 : (960 : Int) < f.2.length
    · refine obn rfl rfl (gtT a3) ?_
      (repeat (first | refine omv rfl ?_ | refine ols rfl (by first | with_reducible assumption | rfl) ?_ | refine ofa rfl ?_ | refine oad rfl rfl (by omega) ?_ | refine osb rfl rfl (by omega) ?_ | refine obn rfl rfl rfl ?_ | refine opt rfl rfl ?_ | refine opf rfl rfl ?_ | refine ont rfl ?_ | refine oeq rfl rfl rfl ?_ | refine oex rfl rfl ?_ | refine obu rfl rfl ?_ | refine ofd rfl rfl ?_ | refine olt rfl ?_ | refine onk rfl ?_ | refine old rfl (by first | with_reducible assumption | rfl) ?_ | refine WO.run rfl ?_ | refine WO.skip rfl rfl ?_ | refine WO.skipu rfl ?_))
      exact WO.nil (WC.cond rfl (fun hc => WC.seqO (omv rfl (WO.nil (WC.ret (out _ false rfl (by simp)))))) (fun hc => by cases hc))
    refine obn rfl rfl (gtF a3) <| opf rfl rfl <| WO.nil (WC.cond rfl (fun hc => by cases hc) (fun hc => WC.skip (WC.seqO (omv rfl (WO.nil (WC.block ?_))))))
    refine WC.loop (σ := Nat) (fun j => [(0, x), (3, iv i), (4, iv j)]) (fun j h1 => h1 = h' ∧ j ≤ i ∧ ∀ j' < j, ∀ g, fs[j']? = some g → g.1 ≠ f.1) (fun j => i - j) 0
      (Cov.cons rfl (Cov.cons rfl (Cov.cons rfl (Cov.nil _)))) ⟨rfl, Nat.zero_le _, fun j hj => by omega⟩ ?_
    rintro j h1 ⟨rfl, hj, hd⟩
    refine WC.seq (WC.seqO ?_)
    by_cases hji : j < i
    · refine omv rfl <| omv rfl <| obn rfl rfl (ltT (by omega)) (WO.nil (WC.cond rfl (fun hc => WC.skip ?_) (fun hc => by cases hc)))
      obtain ⟨c', o', k1, k2⟩ := s2.at (i := j) (by omega)
      have eg : (fs.map rC)[j]'(by omega) = rC (fs[j]'(by omega)) := by simp
      rw [eg] at k2
      have hgj : fs[j]? = some (fs[j]'(by omega)) := List.getElem?_eq_getElem (by omega)
      generalize fs[j]'(by omega) = gg at *
      have q0 : h1.rd c' (o' + 0) = some (.str gg.1) := rds_rd k2 (j := 0) rfl
      refine WC.seq (WC.block (WC.seqD ?_))
      refine dmv rfl <| dmv rfl <| WD.pure (StepK.idxSl rfl rfl k1) rfl <| dfa rfl <| WD.load1 rfl q0 <| dmv rfl <| dmv rfl <| WD.pure (StepK.idxSl rfl rfl i1) rfl <| dfa rfl <| WD.load1 rfl r0 ?_
      by_cases he : gg.1 = f.1
      · refine dbn rfl rfl (strEqT he) <| WD.nil (by repeat (first | exact trivial | refine ⟨by with_reducible assumption, ?_⟩)) (WC.cond rfl (fun hc => WC.seqO (omv rfl (WO.nil (WC.ret (out _ false rfl (by simp)))))) (fun hc => by cases hc))
      · refine dbn rfl rfl (strEqF he) <| WD.nil (by repeat (first | exact trivial | refine ⟨by with_reducible assumption, ?_⟩)) (WC.cond rfl (fun hc => by cases hc) (fun hc => WC.skip (WC.ops ?_)))
        refine omv rfl <| oad rfl rfl (by omega) <| omv rfl (WO.nil ⟨j + 1, ?_, ⟨rfl, hji, ?_⟩, by omega⟩)
        · exact Cov.cons rfl (Cov.cons rfl (Cov.cons (by simp [Env.get, iv]) (Cov.nil _)))
        · intro j' hj' g hg
          rcases Nat.lt_or_ge j' j with q | q
          · exact hd j' q g hg
          · obtain rfl : j' = j := by omega
            rw [hgj] at hg
            cases hg
            exact he
    · obtain rfl : j = i := by omega
      refine omv rfl <| omv rfl <| obn rfl rfl (ltF (by omega)) (WO.nil (WC.cond rfl (fun hc => by cases hc) (fun hc => WC.exit (WC.ops ?_))))
      refine omv rfl <| oad rfl rfl (by omega) <| omv rfl (WO.nil ⟨j + 1, ?_, ⟨rfl, hlt, ?_⟩, by omega⟩)
      · exact Cov.cons rfl (Cov.cons (by simp [Env.get, iv]) (Cov.nil _))
      · intro j' hj'
        rcases Nat.lt_or_ge j' j with q | q
        · exact hrow j' q
        · obtain rfl : j' = j := by omega
          exact ⟨f, hfi, by omega, by omega, by omega, hd⟩
  · obtain rfl : i = fs.length := by omega
    refine omv rfl <| omv rfl <| ols rfl s2.len <| obn rfl rfl (ltF (by omega)) (WO.nil (WC.cond rfl (fun hc => by cases hc) (fun hc => WC.exit ?_)))
    refine WC.seqO ?_
    refine omv rfl <| ols rfl s2.len ?_
    by_cases h30 : fs.length ≤ 30
    · refine WO.ops (StepK.bin (v := .bool true) rfl rfl (by simp [binA, iv]; omega)) <| omv rfl <| WO.nil <| WC.ret (out _ true rfl fun _ => ⟨hrow, h30⟩)
    · refine WO.ops (StepK.bin (v := .bool false) rfl rfl (by simp [binA, iv]; omega)) <| omv rfl <| WO.nil <| WC.ret (out _ false rfl (by simp))
end
end Abs
end Go.Proofs.YtlgbdjlnbnlphaaGreatDoor
namespace Go.Proofs.YtlgbdjlnbnlphaaGreatDoor
namespace Abs
set_option linter.unusedVariables false
set_option linter.unusedSimpArgs false
open Go.RowKit
attribute [local irreducible] WO WC WD StepK Ans Does Runs DoesD

def ldAsg : AC := .seq (.ops [⟨(some 11), none, .mv (.t 46)⟩]) (.ops [⟨(some 12), none, .mv (.t 47)⟩])
def ldBody : AC := .block 1 (.ops [⟨(some 48), none, .load none (.t 10)⟩,
       ⟨(some 49), none, .mv (.t 12)⟩,
       ⟨(some 50), none, .mv (.t 11)⟩,
       ⟨none, none, .mapUpd .int (.t 48) (.t 49) (.t 50)⟩])
structure LdJ (h0 h8 : Heap) (m mb : Nat) (e : List (Nat × V)) (A : List (Int × Int)) (h : Heap) : Prop where
  gr : Grow h0 h
  ch : Chg [mb, m + 1] h8 h
  mp : MapI iv h mb A
  lp : LoopAt h (m + 1) e [46, 47] ldAsg ldBody
theorem ld_step {C : Cfg} {h0 h8 h : Heap} {m mb p : Nat} {e : List (Nat × V)} {A : List (Int × Int)} (hw0 : Wf h0) (J : LdJ h0 h8 m mb e A h) (x y : Int)
    (he : Env.get e 10 = some (.ptr (some (p, 0)))) (cp : Cl h8 p [.map (some mb)]) (np : p ∉ [mb, m + 1]) (nm : mb ≠ m + 1) (hmb : h0.size ≤ mb) (hm : h0.size ≤ m) :
    Yld C (m + 1) [iv x, iv y] h fun r h' => r = .bool true ∧ LdJ h0 h8 m mb e (updI y x A) h' := by
  obtain ⟨nt, tm, hg, hs⟩ := J.lp
  have lm := Wf.lt J.gr.wf hg
  refine Yld.body hg hs rfl ?_
  refine WC.seqO (omv rfl (WO.nil (WC.ops (omv rfl (WO.nil ⟨rfl, rfl, ?_⟩)))))
  have cB : Chg [mb, m + 1] h8 (h.put (m + 1) (.loop .busy none nt tm [46, 47] ldAsg ldBody)) := by
    refine ⟨(J.gr.put (by omega) lm hw0 _).wf, J.ch.size, fun b o hb hq => ?_⟩
    rw [get_put, if_neg (by rintro rfl; exact hb (by simp))]
    exact J.ch.keep b o hb hq
  have gB : Grow h0 (h.put (m + 1) (.loop .busy none nt tm [46, 47] ldAsg ldBody)) := J.gr.put (by omega) lm hw0 _
  have mB : MapI iv (h.put (m + 1) (.loop .busy none nt tm [46, 47] ldAsg ldBody)) mb A := J.mp.of_get (by rw [get_put, if_neg nm])
  have bz : (h.put (m + 1) (.loop .busy none nt tm [46, 47] ldAsg ldBody)).get (m + 1) = some (.loop .busy none nt tm [46, 47] ldAsg ldBody) := by rw [get_put, if_pos rfl]
  generalize h.put (m + 1) (.loop .busy none nt tm [46, 47] ldAsg ldBody) = hB at *
  have rp : hB.rd p 0 = some (.map (some mb)) := (cp.chg cB np).rd rfl
  obtain ⟨h2, u1, u2, u3, u4⟩ := mB.upd gB.wf y x
  refine WC.block (WC.ops ?_)
  refine old he rp <| omv rfl <| omv rfl <| WO.op (StepK.mapUpd rfl rfl rfl u1) <| WO.nil ?_
  have bz2 := u3.keep _ _ (by simp; omega) bz
  have l2 := Wf.lt u3.wf bz2
  have g2 : Grow h0 h2 := u3.newGrow gB hw0 (fun x hx => by obtain rfl := List.mem_singleton.1 hx; omega)
  have s2 := u3.size
  have sB := cB.size
  refine ⟨bz2, rfl, g2.put (by omega) l2 hw0 _, ⟨(g2.put (by omega) l2 hw0 _).wf, by show h8.size ≤ h2.size; omega, fun b o hb hq => ?_⟩, u2.of_get (by rw [get_put, if_neg nm]), nt, tm, by rw [get_put, if_pos rfl], hs⟩
  rw [get_put, if_neg (by rintro rfl; exact hb (by simp))]
  exact u3.keep _ _ (fun q => hb (by simp at q ⊢; exact .inl q)) (cB.keep b o hb hq)
/-- Where each number of a group lies, as load finds it. -/
def ldMap (k f : Nat) : Nat → List (Int × Int)
  | 0 => []
  | i + 1 => updI ((f + 8 * k + 1 + i : Nat) : Int) ((7 * k + i : Nat) : Int) (ldMap k f i)
theorem ld_feeds {C : Cfg} {h0 h8 : Heap} {m mb p : Nat} {e : List (Nat × V)} (k f n : Nat) (hw0 : Wf h0) (J : LdJ h0 h8 m mb e [] h8)
    (he : Env.get e 10 = some (.ptr (some (p, 0)))) (cp : Cl h8 p [.map (some mb)]) (np : p ∉ [mb, m + 1]) (nm : mb ≠ m + 1) (hmb : h0.size ≤ mb) (hm : h0.size ≤ m) :
    Feeds C h8 (m + 1) n (fun i => [iv ((7 * k + i : Nat) : Int), iv ((f + 8 * k + 1 + i : Nat) : Int)]) (fun i h' => LdJ h0 h8 m mb e (ldMap k f i) h') (fun _ => False) := by
  refine ⟨J, ?_, ?_, ?_, ?_, ?_, ?_⟩
  · intro i hi h' j
    obtain ⟨r, h2, q1, q2, q3⟩ := ld_step (C := C) hw0 j ((7 * k + i : Nat) : Int) ((f + 8 * k + 1 + i : Nat) : Int) he cp np nm hmb hm
    exact ⟨r, h2, q1, .inl ⟨q2, q3⟩⟩
  · exact fun i h1 h2 j g => ⟨j.gr.trans g, j.ch.growr g, j.mp.grow g, by obtain ⟨nt, tm, q1, q2⟩ := j.lp; exact ⟨nt, tm, g.ext _ _ q1, q2⟩⟩
  · exact fun i h1 n j => ⟨j.gr.low1 n, ⟨j.ch.wf, j.ch.size, j.ch.keep⟩, j.mp, j.lp⟩
  · exact fun h1 n q => q
  · exact fun i h1 j hl => ⟨J.gr, Chg.refl J.gr.wf, j.mp.of_get (hl _ (J.mp.lt J.gr.wf)), J.lp⟩
  · exact fun h1 q _ => q
end Abs
end Go.Proofs.YtlgbdjlnbnlphaaGreatDoor
namespace Go.Proofs.YtlgbdjlnbnlphaaGreatDoor
namespace Abs
set_option linter.unusedVariables false
set_option linter.unusedSimpArgs false
open Go.RowKit
attribute [local irreducible] WO WC WD StepK Ans Does Runs DoesD

structure StdX (C : Cfg) : Prop extends StdO C where
  keys : ∀ args h, C.S 27 args h = some (keysSum 45 52 args h)
  sorted : ∀ args h, C.S 26 args h = some (sortedISum 45 52 args h)
def entV (e : Ent) : V := .agg e.v
def entAt (A : List (Int × Ent)) (n : Int) : Ent := (findI n A).getD ⟨[], [], 0, 0⟩
/-- The number under which an entry of this key is kept: the least. -/
def findX (A : List (Int × Ent)) (key : List Nat) : Option Int := (srtI (A.map (·.1))).find? fun n => decide ((entAt A n).key = key)
def findV : Option Int → V
  | some n => .tuple [iv n, .bool true]
  | none => .tuple [iv 0, .bool false]
section
variable {C : Cfg} (S : StdX C)
include S
theorem xfind_ans (h : Heap) (hw : Wf h) (s mb : Nat) (A : List (Int × Ent)) (key : List Nat) (hr : h.rd s (0 + 3) = some (.map (some mb))) (M : MapI entV h mb A) (hi : ∀ k ∈ A.map (·.1), -9223372036854775808 ≤ k ∧ k ≤ 9223372036854775807) (hn : A.length ≤ 1000000) :
    Ans C 18 [.ptr (some (s, 0)), .str key] h fun r h' => r = findV (findX A key) ∧ Grow h h' := by
  have hF : C.F 18 = some a18 := S.f rfl
  unfold a18 at hF
  refine Ans.val (fun _ _ => S.s _ _ _ rfl) hF rfl rfl hw fun h2 g => ?_
  clear hF
  have M2 := M.grow g
  refine WC.seqO (omv rfl <| omv rfl <| WO.nil (WC.seq (WC.seqO ?_)))
  obtain ⟨f, h5, k1, k2, x5, h6, k3, k4, k5⟩ := keys_sorted (fI := 45) (mt := 52) g.wf M2 hi hn
  refine omv rfl <| onk rfl <| ofa rfl <| old rfl (g.rd hr) ?_
  refine WO.call rfl rfl (Ans.sum (R := fun v h' => v = f ∧ h' = h5) (by rw [← k1]; exact S.keys _ _) ⟨rfl, rfl⟩) ?_
  rintro v h5' ⟨rfl, rfl⟩
  refine WO.call rfl rfl (Ans.sum (R := fun v h' => v = x5 ∧ h' = h6) (by rw [← k3]; exact S.sorted _ _) ⟨rfl, rfl⟩) ?_
  rintro v h6' ⟨rfl, rfl⟩
  have M6 := M2.grow k4
  have g6 := g.trans k4
  have hs := k5.sl
  have hfx : findX A key = (srtI (A.map (·.1))).find? fun n => decide ((entAt A n).key = key) := rfl
  have hkl : (srtI (A.map (·.1))).length = A.length := by rw [(srtI_perm _).length_eq, List.length_map]
  generalize srtI (A.map (·.1)) = ks at *
  have hl5 := hs.len
  rw [List.length_map] at hl5
  refine ols rfl hl5 <| omv rfl (WO.nil (WC.block ?_))
  refine WC.loop (σ := Nat) (fun j => [(0, .ptr (some (s, 0))), (1, .str key), (13, v), (14, iv ks.length), (15, iv j)]) (fun j h1 => h1 = h6' ∧ j ≤ ks.length ∧ ∀ n ∈ ks.take j, (entAt A n).key ≠ key) (fun j => ks.length - j) 0
    (Cov.cons rfl (Cov.cons rfl (Cov.cons rfl (Cov.cons rfl (Cov.cons rfl (Cov.nil _)))))) ⟨rfl, Nat.zero_le _, by simp⟩ ?_
  rintro j h1 ⟨rfl, hj, hd⟩
  refine WC.seqO ?_
  by_cases hlt : j < ks.length
  · refine obn rfl rfl (ltT (by omega)) (WO.nil (WC.seq (WC.cond rfl (fun hc => WC.skip ?_) (fun hc => by cases hc))))
    obtain ⟨c, o, i1, i2⟩ := hs.at (i := j) (by simpa using hlt)
    have ht : ks.take (j + 1) = ks.take j ++ [ks[j]] := List.take_succ_eq_append_getElem hlt
    have hsp : ks = ks.take (j + 1) ++ ks.drop (j + 1) := (List.take_append_drop _ _).symm
    have e1 : (ks.map fun n => [V.int .i64 n])[j]'(by simpa using hlt) = [iv ks[j]] := by simp [iv]
    rw [e1] at i2
    generalize ks[j] = n at *
    have r0 : h1.rd c (o + 0) = some (iv n) := rds_rd i2 (j := 0) rfl
    have hlk : lookupA h1 .int (.agg [(.str []), (.str []), (.int .i64 (0)), (.int .i64 (0))]) false (.map (some mb)) (iv n) = some (entV (entAt A n)) := by
      have := M6.look1 n (.agg [(.str []), (.str []), (.int .i64 (0)), (.int .i64 (0))])
      rw [show iv n = V.int .i64 n from rfl, this]
      unfold entAt
      cases findI n A <;> rfl
    refine WC.seq (WC.block (WC.seqO ?_))
    refine WO.ops (StepK.idxSl rfl rfl i1) <| old rfl r0 <| omv rfl <| WO.nil <| WC.seqO ?_
    refine omv rfl <| onk rfl <| ofa rfl <| old rfl (g6.rd hr) <| omv rfl <| WO.ops (StepK.lookup rfl rfl hlk) <| WO.ops (StepK.field (v := .str (entAt A n).key) rfl rfl) <| omv rfl ?_
    by_cases he : (entAt A n).key = key
    · refine obn rfl rfl (strEqT he) <| WO.nil <| WC.cond rfl (fun hc => WC.seqO (omv rfl <| omv rfl <| omv rfl <| WO.nil <| WC.ret ⟨trivial, g6, ?_⟩)) (fun hc => by cases hc)
      have : findX A key = some n := by
        rw [hfx, hsp, ht, List.append_assoc, List.find?_append, List.find?_eq_none.2 (fun x hx => by simpa using hd x hx)]
        simp [he]
      rw [this]; rfl
    · refine obn rfl rfl (strEqF he) <| WO.nil <| WC.cond rfl (fun hc => by cases hc) (fun hc => WC.skip (WC.ops ?_))
      refine oad rfl rfl (by omega) <| omv rfl (WO.nil ⟨j + 1, ?_, ⟨rfl, hlt, ?_⟩, by omega⟩)
      · exact Cov.cons rfl (Cov.cons rfl (Cov.cons rfl (Cov.cons rfl (Cov.cons (by simp [Env.get, iv]) (Cov.nil _)))))
      · intro x hx
        rw [ht] at hx
        rcases List.mem_append.1 hx with q | q
        · exact hd x q
        · obtain rfl := List.mem_singleton.1 q
          exact he
  · obtain rfl : j = ks.length := by omega
    refine obn rfl rfl (ltF (by omega)) (WO.nil (WC.seq (WC.cond rfl (fun hc => by cases hc) (fun hc => WC.exit (WC.seqO ?_)))))
    refine omv rfl <| omv rfl <| WO.nil <| WC.ret ⟨trivial, g6, ?_⟩
    have : findX A key = none := by
      rw [hfx]
      exact List.find?_eq_none.2 fun x hx => by simpa using hd x (by rwa [List.take_length])
    rw [this]; rfl
end
end Abs
end Go.Proofs.YtlgbdjlnbnlphaaGreatDoor
namespace Go.Proofs.YtlgbdjlnbnlphaaGreatDoor
namespace Abs
set_option linter.unusedVariables false
set_option linter.unusedSimpArgs false
open Go.RowKit
attribute [local irreducible] WO WC WD StepK Ans Does Runs DoesD

section
variable {C : Cfg} (S : StdX C)
include S
theorem xentries_ans (h : Heap) (hw : Wf h) (s mb : Nat) (A : List (Int × Ent)) (hr : h.rd s (0 + 3) = some (.map (some mb))) (M : MapI entV h mb A) (hi : ∀ k ∈ A.map (·.1), -9223372036854775808 ≤ k ∧ k ≤ 9223372036854775807) (hn : A.length ≤ 1000000) :
    Ans C 11 [.ptr (some (s, 0))] h fun r h' => Grown h' h.size 4 r ((srtI (A.map (·.1))).map fun n => (entAt A n).v) ∧ Grow h h' := by
  have hF : C.F 11 = some a11 := S.f rfl
  unfold a11 at hF
  refine Ans.fn (fun _ _ => S.s _ _ _ rfl) hF rfl rfl hw (fun h2 g => ?_)
  clear hF
  have M2 := M.grow g
  refine WC.seqO (omv rfl <| WO.nil (WC.seq (WC.seqO ?_)))
  refine omv rfl <| oeq rfl rfl (t := false) rfl (WO.nil (WC.cond rfl (fun hc => by cases hc) (fun hc => WC.skip (WC.seqO (omv rfl (WO.nil (WC.seq (WC.seqO ?_))))))))
  obtain ⟨f, h5, k1, k2, x5, h6, k3, k4, k5⟩ := keys_sorted (fI := 45) (mt := 52) g.wf M2 hi hn
  refine omv rfl <| onk rfl <| ofa rfl <| old rfl (g.rd hr) ?_
  refine WO.call rfl rfl (Ans.sum (R := fun v h' => v = f ∧ h' = h5) (by rw [← k1]; exact S.keys _ _) ⟨rfl, rfl⟩) ?_
  rintro v h5' ⟨rfl, rfl⟩
  refine WO.call rfl rfl (Ans.sum (R := fun v h' => v = x5 ∧ h' = h6) (by rw [← k3]; exact S.sorted _ _) ⟨rfl, rfl⟩) ?_
  rintro v h6' ⟨rfl, rfl⟩
  have M6 := M2.grow k4
  have g6 := g.trans k4
  have hs := k5.sl
  have hkl : (srtI (A.map (·.1))).length = A.length := by rw [(srtI_perm _).length_eq, List.length_map]
  generalize srtI (A.map (·.1)) = ks at *
  have hl5 := hs.len
  rw [List.length_map] at hl5
  refine ols rfl hl5 <| omv rfl (WO.nil (WC.block ?_))
  refine WC.loop (σ := Nat × V) (fun p => [(0, .ptr (some (s, 0))), (3, p.2), (13, v), (14, iv ks.length), (15, iv p.1)])
    (fun p h1 => p.1 ≤ ks.length ∧ Grow h6' h1 ∧ Grown h1 h6'.size 4 p.2 ((ks.take p.1).map fun n => (entAt A n).v)) (fun p => ks.length - p.1) (0, .slice none 0 0)
    (Cov.cons rfl (Cov.cons rfl (Cov.cons rfl (Cov.cons rfl (Cov.cons rfl (Cov.nil _)))))) ⟨Nat.zero_le _, Grow.refl g6.wf, Grown.nil _ _ _⟩ ?_
  rintro ⟨j, y⟩ h1 ⟨hj, g1, gy⟩
  dsimp only at hj gy ⊢
  refine WC.seqO ?_
  by_cases hlt : j < ks.length
  · refine obn rfl rfl (ltT (by omega)) (WO.nil (WC.seq (WC.cond rfl (fun hc => WC.skip ?_) (fun hc => by cases hc))))
    obtain ⟨c, o, i1, i2⟩ := hs.at (i := j) (by simpa using hlt)
    have ht : ks.take (j + 1) = ks.take j ++ [ks[j]] := List.take_succ_eq_append_getElem hlt
    have e1 : (ks.map fun n => [V.int .i64 n])[j]'(by simpa using hlt) = [iv ks[j]] := by simp [iv]
    rw [e1] at i2
    generalize ks[j] = n at *
    have r0 : h6'.rd c (o + 0) = some (iv n) := rds_rd i2 (j := 0) rfl
    have hlk : lookupA h1 .int (.agg [(.str []), (.str []), (.int .i64 (0)), (.int .i64 (0))]) false (.map (some mb)) (iv n) = some (.agg (entAt A n).v) := by
      have := (M6.grow g1).look1 n (.agg [(.str []), (.str []), (.int .i64 (0)), (.int .i64 (0))])
      rw [show iv n = V.int .i64 n from rfl, this]
      unfold entAt
      cases findI n A <;> rfl
    refine WC.seq (WC.block (WC.seqO ?_))
    refine WO.ops (StepK.idxSl rfl rfl i1) <| old rfl (g1.rd r0) <| omv rfl <| WO.nil <| WC.ops ?_
    refine omv rfl <| omv rfl <| onk rfl <| ofa rfl <| old rfl (g1.rd (g6.rd hr)) <| omv rfl <| WO.ops (StepK.lookup rfl rfl hlk) <| WO.ops (StepK.buildSl rfl (cs := (entAt A n).v) rfl) ?_
    have gq := (Grow.refl g1.wf).push (.cells (entAt A n).v (.tip [] 0 none))
    have hnew : (h1.push (.cells (entAt A n).v (.tip [] 0 none))).get h1.size = some (.cells (entAt A n).v (.tip [] 0 none)) := get_push_self _ _
    generalize h1.push (.cells (entAt A n).v (.tip [] 0 none)) = h7 at *
    obtain ⟨w, h8, u1, u2, u3, u4, u5⟩ := Grown.append2 (bytes := 48) (tyK := none) g6.wf (g1.trans gq) (gy.grow gq) (sl_one hnew rfl) (by decide) (by decide) (roomy48 (by simp; omega)) (fun c hc x hx => by
      obtain rfl := List.mem_singleton.1 hc
      simp only [Ent.v, List.mem_cons, List.not_mem_nil, or_false] at hx
      rcases hx with rfl | rfl | rfl | rfl <;> rfl)
    refine WO.ops (StepK.append rfl rfl u1) <| omv rfl <| WO.nil <| WC.ops ?_
    refine oad rfl rfl (by omega) <| omv rfl (WO.nil ⟨(j + 1, w), ?_, ⟨hlt, u3, ?_⟩, by dsimp only; omega⟩)
    · exact Cov.cons rfl (Cov.cons rfl (Cov.cons rfl (Cov.cons rfl (Cov.cons (by simp [Env.get, iv]) (Cov.nil _)))))
    · dsimp only
      rw [ht, List.map_append]
      exact u2
  · obtain rfl : j = ks.length := by omega
    rw [List.take_length] at gy
    refine obn rfl rfl (ltF (by omega)) (WO.nil (WC.seq (WC.cond rfl (fun hc => by cases hc) (fun hc => WC.exit (WC.seqO ?_)))))
    have gz := gy.up (low' := h.size) g6.size
    refine omv rfl <| omv rfl <| WO.nil <| WC.ret ⟨trivial, g1.wf, y, rfl, fun h3 g3 => ⟨gz.grow g3, (g6.trans g1).trans g3⟩, fun hc => ⟨?_, Grow.refl hw⟩⟩
    exact gz.scopd hc h
end
end Abs
end Go.Proofs.YtlgbdjlnbnlphaaGreatDoor
namespace Go.Proofs.YtlgbdjlnbnlphaaGreatDoor
namespace Abs
set_option linter.unusedVariables false
set_option linter.unusedSimpArgs false
open Go.RowKit
attribute [local irreducible] WO WC WD StepK Ans Does Runs DoesD

section
variable {C : Cfg} (S : StdX C)
include S
/-- No entry of this key is kept. -/
theorem xFind_none (hSm : ∀ f args h v h', C.S f args h = some (some (v, h')) → HM h h') (h : Heap) (hw : Wf h) (s mb : Nat) (A : List (Int × Ent)) (key : List Nat) (hr : h.rd s (0 + 3) = some (.map (some mb))) (M : MapI entV h mb A) (hi : ∀ k ∈ A.map (·.1), -9223372036854775808 ≤ k ∧ k ≤ 9223372036854775807) (hn : A.length ≤ 1000000)
    (hf : findX A key = none) : Ans C 10 [.ptr (some (s, 0)), .str key] h fun r h' => r = .tuple [.str [], .bool false] ∧ Grow h h' := by
  have hF : C.F 10 = some a10 := S.f rfl
  unfold a10 at hF
  refine Ans.val (fun _ _ => S.s _ _ _ rfl) hF rfl rfl hw fun h2 g => ?_
  clear hF
  refine WC.seqO (omv rfl <| omv rfl <| WO.nil (WC.seq (WC.seqO ?_)))
  refine omv rfl <| oeq rfl rfl (t := false) rfl (WO.nil (WC.cond rfl (fun hc => by cases hc) (fun hc => WC.skip (WC.seqO ?_))))
  refine omv rfl <| omv rfl ?_
  refine WO.call rfl rfl (xfind_ans S h2 g.wf s mb A key (g.rd hr) (M.grow g) hi hn) ?_
  rintro _ h3 ⟨rfl, g3⟩
  rw [hf]
  refine omv rfl <| oex rfl rfl <| oex rfl rfl <| omv rfl <| omv rfl <| WO.nil (WC.seq (WC.seqO ?_))
  refine omv rfl <| ont rfl (WO.nil (WC.cond rfl (fun hc => WC.seqO ?_) (fun hc => by cases hc)))
  exact omv rfl <| omv rfl <| WO.nil <| WC.ret ⟨trivial, g.trans g3, rfl⟩
/-- An entry of this key is kept, and what lies in its sector is what it says. -/
theorem xFind_some (hSm : ∀ f args h v h', C.S f args h = some (some (v, h')) → HM h h') (h : Heap) (hw : Wf h) (s mb : Nat) (A : List (Int × Ent)) (key : List Nat) (hr : h.rd s (0 + 3) = some (.map (some mb))) (M : MapI entV h mb A) (hi : ∀ k ∈ A.map (·.1), -9223372036854775808 ≤ k ∧ k ≤ 9223372036854775807) (hn : A.length ≤ 1000000)
    (k : Nat) (b b0 b1 : Nat) (wv : V) (D : Dv) (hd : h.rd s (0 + 0) = some (.ptr (some (b, 0)))) (d : DevAt k h b b0 b1 wv D) (hws : D.ws.length ≤ 1000000) (ro : Ro h)
    (n : Int) (t : List Nat) (hf : findX A key = some n) (ht : D.rd 1 (entAt A n).loc = (t, 0)) (hl : ((t.length : Nat) : Int) = (entAt A n).len) (hs : ofF t = (entAt A n).sum) (hs1 : t.length ≤ 1000000) :
    Ans C 10 [.ptr (some (s, 0)), .str key] h fun r h' => r = .tuple [.str t, .bool true] ∧ Grow h h' := by
  have hF : C.F 10 = some a10 := S.f rfl
  unfold a10 at hF
  refine Ans.val (fun _ _ => S.s _ _ _ rfl) hF rfl rfl hw fun h2 g => ?_
  clear hF
  refine WC.seqO (omv rfl <| omv rfl <| WO.nil (WC.seq (WC.seqO ?_)))
  refine omv rfl <| oeq rfl rfl (t := false) rfl (WO.nil (WC.cond rfl (fun hc => by cases hc) (fun hc => WC.skip (WC.seqO ?_))))
  refine omv rfl <| omv rfl ?_
  refine WO.call rfl rfl (xfind_ans S h2 g.wf s mb A key (g.rd hr) (M.grow g) hi hn) ?_
  rintro _ h3 ⟨rfl, g3⟩
  rw [hf]
  refine omv rfl <| oex rfl rfl <| oex rfl rfl <| omv rfl <| omv rfl <| WO.nil (WC.seq (WC.seqO ?_))
  refine omv rfl <| ont rfl (WO.nil (WC.cond rfl (fun hc => by cases hc) (fun hc => WC.skip (WC.seqO ?_))))
  have g03 := g.trans g3
  have hlk : lookupA h3 .int (.agg [(.str []), (.str []), (.int .i64 (0)), (.int .i64 (0))]) false (.map (some mb)) (iv n) = some (.agg (entAt A n).v) := by
    have := (M.grow g03).look1 n (.agg [(.str []), (.str []), (.int .i64 (0)), (.int .i64 (0))])
    rw [show iv n = V.int .i64 n from rfl, this]
    unfold entAt
    cases findI n A <;> rfl
  generalize entAt A n = e at *
  refine omv rfl <| onk rfl <| ofa rfl <| old rfl (g03.rd hr) <| omv rfl <| WO.ops (StepK.lookup rfl rfl hlk) <| WO.ops (StepK.alloc) ?_
  have gp := (Grow.refl g03.wf).push (.cells [.str [], .str [], iv 0, iv 0] (.tip [] 0 none))
  have c8 : Cl (h3.push (.cells [.str [], .str [], iv 0, iv 0] (.tip [] 0 none))) h3.size [.str [], .str [], iv 0, iv 0] := Cl.new _ _ _
  change WO C _ _ (h3.push (.cells [.str [], .str [], iv 0, iv 0] (.tip [] 0 none))) _
  generalize h3.push (.cells [.str [], .str [], iv 0, iv 0] (.tip [] 0 none)) = h4 at *
  obtain ⟨h5, r1, r2, r3, r4⟩ := c8.sets gp.wf (i := 0) (us := e.v) (by simp [Ent.v]) (by simp [Ent.v, V.one, iv])
  have r2' : Cl h5 h3.size e.v := by simpa [splice, Ent.v] using r2
  have g35 : Grow h3 h5 := r3.newGrow gp g03.wf (fun x hx => by obtain rfl := List.mem_singleton.1 hx; omega)
  have g5 := g03.trans g35
  generalize h3.size = p at *
  refine WO.op (StepK.store (v := .agg e.v) rfl rfl rfl r1) (WO.nil (WC.seqD ?_))
  have q0 : h5.rd s (0 + 0) = some (.ptr (some (b, 0))) := g5.rd hd
  have q3 : h5.rd p (0 + 3) = some (iv e.loc) := r2'.rd rfl
  refine dmv rfl <| dnk rfl <| dfa rfl <| WD.load1 rfl q0 <| dfa rfl <| WD.load1 rfl q3 <| dbu rfl rfl ?_
  refine WD.call (by repeat (first | exact trivial | refine ⟨by with_reducible assumption, ?_⟩)) rfl rfl (dread_ans S.toStdO hSm k h5 g5.wf b b0 b1 wv D (d.grow g5) hws 1 e.loc) ?_
  rintro _ h6 ⟨rfl, g6⟩
  rw [ht]
  have g06 := g5.trans g6
  have c6 := r2'.grow g6
  refine dmv rfl <| dex rfl rfl <| dex rfl rfl <| dmv rfl <| dmv rfl <| WD.nil (by repeat (first | exact trivial | refine ⟨by with_reducible assumption, ?_⟩)) (WC.seq (WC.seqD ?_))
  have w2 : h6.rd p (0 + 2) = some (iv e.len) := c6.rd rfl
  have w1 : h6.rd p (0 + 1) = some (.str e.sum) := c6.rd rfl
  refine dmv rfl <| dbn rfl rfl (eqT rfl) <| dmv rfl <| WD.run rfl <| dmv rfl <| WD.run rfl <| dlt rfl <| WD.run rfl <| dfa rfl <| WD.run rfl <| WD.load1 rfl w2 <| WD.run rfl <| dbn rfl rfl (eqT hl) <| dpt rfl rfl <| dmv rfl <| WD.run rfl <| dmv rfl <| WD.run rfl <| dfa rfl <| WD.run rfl <| WD.load1 rfl w1 <| WD.run rfl ?_
  refine WD.call (by repeat (first | exact trivial | refine ⟨by with_reducible assumption, ?_⟩)) rfl rfl (Ans.sum (R := fun v h' => v = .str (ofF t) ∧ h' = h6) (S.of h6 t hs1 (ro.grow g06)) ⟨rfl, rfl⟩) ?_
  rintro _ _ ⟨rfl, rfl⟩
  refine WD.run rfl <| dbn rfl rfl (strEqT hs) <| dpt rfl rfl <| WD.nil (by repeat (first | exact trivial | refine ⟨by with_reducible assumption, ?_⟩)) (WC.cond rfl (fun hc => WC.seqO ?_) (fun hc => by cases hc))
  exact omv rfl <| omv rfl <| omv rfl <| WO.nil <| WC.ret ⟨trivial, g06, rfl⟩
/-- An entry of this key is kept, but what lies in its sector is not what it says: it is struck out. -/
theorem xFind_bad (hSm : ∀ f args h v h', C.S f args h = some (some (v, h')) → HM h h') (h : Heap) (hw : Wf h) (s mb : Nat) (A : List (Int × Ent)) (key : List Nat) (hr : h.rd s (0 + 3) = some (.map (some mb))) (M : MapI entV h mb A) (hi : ∀ k ∈ A.map (·.1), -9223372036854775808 ≤ k ∧ k ≤ 9223372036854775807) (hn : A.length ≤ 1000000)
    (k : Nat) (b b0 b1 : Nat) (wv : V) (D : Dv) (hd : h.rd s (0 + 0) = some (.ptr (some (b, 0)))) (d : DevAt k h b b0 b1 wv D) (hws : D.ws.length ≤ 1000000) (ro : Ro h)
    (n : Int) (t : List Nat) (err : Int) (hf : findX A key = some n) (ht : D.rd 1 (entAt A n).loc = (t, err)) (hbad : ¬ (err = 0 ∧ ((t.length : Nat) : Int) = (entAt A n).len ∧ ofF t = (entAt A n).sum)) (hs1 : t.length ≤ 1000000) :
    Ans C 10 [.ptr (some (s, 0)), .str key] h fun r h' => r = .tuple [.str [], .bool false] ∧ Chg [mb] h h' ∧ MapI entV h' mb (delI n A) := by
  have hF : C.F 10 = some a10 := S.f rfl
  unfold a10 at hF
  refine Ans.loc hSm (S.s _ _ _ rfl) hF rfl rfl hw (fun h2 g hs2 hg2 => ?_) (fun v h1 hl hr _ => ?_)
  rotate_left
  · exact ⟨hr.1, Chg.refl hw, hr.2.2.of_get (hl _ (M.lt hw))⟩
  clear hF
  refine WC.seqO (omv rfl <| omv rfl <| WO.nil (WC.seq (WC.seqO ?_)))
  refine omv rfl <| oeq rfl rfl (t := false) rfl (WO.nil (WC.cond rfl (fun hc => by cases hc) (fun hc => WC.skip (WC.seqO ?_))))
  refine omv rfl <| omv rfl ?_
  refine WO.call rfl rfl (xfind_ans S h2 g.wf s mb A key (g.rd hr) (M.grow g) hi hn) ?_
  rintro _ h3 ⟨rfl, g3⟩
  rw [hf]
  refine omv rfl <| oex rfl rfl <| oex rfl rfl <| omv rfl <| omv rfl <| WO.nil (WC.seq (WC.seqO ?_))
  refine omv rfl <| ont rfl (WO.nil (WC.cond rfl (fun hc => by cases hc) (fun hc => WC.skip (WC.seqO ?_))))
  have g03 := g.trans g3
  have hlk : lookupA h3 .int (.agg [(.str []), (.str []), (.int .i64 (0)), (.int .i64 (0))]) false (.map (some mb)) (iv n) = some (.agg (entAt A n).v) := by
    have := (M.grow g03).look1 n (.agg [(.str []), (.str []), (.int .i64 (0)), (.int .i64 (0))])
    rw [show iv n = V.int .i64 n from rfl, this]
    unfold entAt
    cases findI n A <;> rfl
  generalize entAt A n = e at *
  refine omv rfl <| onk rfl <| ofa rfl <| old rfl (g03.rd hr) <| omv rfl <| WO.ops (StepK.lookup rfl rfl hlk) <| WO.ops (StepK.alloc) ?_
  have gp := (Grow.refl g03.wf).push (.cells [.str [], .str [], iv 0, iv 0] (.tip [] 0 none))
  have c8 : Cl (h3.push (.cells [.str [], .str [], iv 0, iv 0] (.tip [] 0 none))) h3.size [.str [], .str [], iv 0, iv 0] := Cl.new _ _ _
  change WO C _ _ (h3.push (.cells [.str [], .str [], iv 0, iv 0] (.tip [] 0 none))) _
  generalize h3.push (.cells [.str [], .str [], iv 0, iv 0] (.tip [] 0 none)) = h4 at *
  obtain ⟨h5, r1, r2, r3, r4⟩ := c8.sets gp.wf (i := 0) (us := e.v) (by simp [Ent.v]) (by simp [Ent.v, V.one, iv])
  have r2' : Cl h5 h3.size e.v := by simpa [splice, Ent.v] using r2
  have g35 : Grow h3 h5 := r3.newGrow gp g03.wf (fun x hx => by obtain rfl := List.mem_singleton.1 hx; omega)
  have g5 := g03.trans g35
  generalize h3.size = p at *
  refine WO.op (StepK.store (v := .agg e.v) rfl rfl rfl r1) (WO.nil (WC.seqD ?_))
  have q0 : h5.rd s (0 + 0) = some (.ptr (some (b, 0))) := g5.rd hd
  have q3 : h5.rd p (0 + 3) = some (iv e.loc) := r2'.rd rfl
  refine dmv rfl <| dnk rfl <| dfa rfl <| WD.load1 rfl q0 <| dfa rfl <| WD.load1 rfl q3 <| dbu rfl rfl ?_
  refine WD.call (by repeat (first | exact trivial | refine ⟨by with_reducible assumption, ?_⟩)) rfl rfl (dread_ans S.toStdO hSm k h5 g5.wf b b0 b1 wv D (d.grow g5) hws 1 e.loc) ?_
  rintro _ h6 ⟨rfl, g6⟩
  rw [ht]
  have g06 := g5.trans g6
  have c6 := r2'.grow g6
  refine dmv rfl <| dex rfl rfl <| dex rfl rfl <| dmv rfl <| dmv rfl <| WD.nil (by repeat (first | exact trivial | refine ⟨by with_reducible assumption, ?_⟩)) (WC.seq (WC.seqD ?_))
  have w2 : h6.rd p (0 + 2) = some (iv e.len) := c6.rd rfl
  have w1 : h6.rd p (0 + 1) = some (.str e.sum) := c6.rd rfl
  obtain ⟨h7, u1, u2, u3, u4⟩ := (M.grow g06).del g06.wf n
  have c7 : Chg [mb] h h7 := Chg.growl g06 u3
  by_cases he : err = 0
  · subst he
    by_cases hl : ((t.length : Nat) : Int) = e.len
    · have hs : ofF t ≠ e.sum := fun q => hbad ⟨rfl, hl, q⟩
      refine dmv rfl <| dbn rfl rfl (eqT rfl) <| dmv rfl <| WD.run rfl <| dmv rfl <| WD.run rfl <| dlt rfl <| WD.run rfl <| dfa rfl <| WD.run rfl <| WD.load1 rfl w2 <| WD.run rfl <| dbn rfl rfl (eqT hl) <| dpt rfl rfl <| dmv rfl <| WD.run rfl <| dmv rfl <| WD.run rfl <| dfa rfl <| WD.run rfl <| WD.load1 rfl w1 <| WD.run rfl ?_
      refine WD.call (by repeat (first | exact trivial | refine ⟨by with_reducible assumption, ?_⟩)) rfl rfl (Ans.sum (R := fun v h' => v = .str (ofF t) ∧ h' = h6) (S.of h6 t hs1 (ro.grow g06)) ⟨rfl, rfl⟩) ?_
      rintro _ _ ⟨rfl, rfl⟩
      refine WD.run rfl <| dbn rfl rfl (strEqF hs) <| dpt rfl rfl <| WD.nil (by repeat (first | exact trivial | refine ⟨by with_reducible assumption, ?_⟩)) (WC.cond rfl (fun hc => by cases hc) (fun hc => WC.skip (WC.seqO ?_)))
      exact omv rfl <| onk rfl <| ofa rfl <| old rfl (g06.rd hr) <| omv rfl <| WO.op (StepK.mapDel rfl rfl u1) <| WO.nil <| WC.seqO <| omv rfl <| omv rfl <| WO.nil <| WC.ret ⟨trivial, _, rfl, fun m => ⟨rfl, ⟨c7.wf, c7.size, c7.keep⟩, u2⟩⟩
    · refine dmv rfl <| dbn rfl rfl (eqT rfl) <| dmv rfl <| WD.run rfl <| dmv rfl <| WD.run rfl <| dlt rfl <| WD.run rfl <| dfa rfl <| WD.run rfl <| WD.load1 rfl w2 <| WD.run rfl <| dbn rfl rfl (eqF hl) <| dpt rfl rfl <| dmv rfl ?_
      refine WD.skipn rfl rfl rfl <| WD.skipn rfl rfl rfl <| WD.skipn rfl rfl rfl <| WD.skip (fun _ => (by repeat (first | exact trivial | refine ⟨by with_reducible assumption, ?_⟩))) rfl rfl <| WD.skipn rfl rfl rfl <| dpf rfl rfl <| WD.nil (by repeat (first | exact trivial | refine ⟨by with_reducible assumption, ?_⟩)) (WC.cond rfl (fun hc => by cases hc) (fun hc => WC.skip (WC.seqO ?_)))
      exact omv rfl <| onk rfl <| ofa rfl <| old rfl (g06.rd hr) <| omv rfl <| WO.op (StepK.mapDel rfl rfl u1) <| WO.nil <| WC.seqO <| omv rfl <| omv rfl <| WO.nil <| WC.ret ⟨trivial, _, rfl, fun m => ⟨rfl, ⟨c7.wf, c7.size, c7.keep⟩, u2⟩⟩
  · refine dmv rfl <| dbn rfl rfl (eqF he) <| dmv rfl ?_
    refine WD.skipn rfl rfl rfl <| WD.skipn rfl rfl rfl <| WD.skipn rfl rfl rfl <| WD.skipn rfl rfl rfl <| WD.skipn rfl rfl rfl <| dpf rfl rfl <| dmv rfl <| WD.skipn rfl rfl rfl <| WD.skipn rfl rfl rfl <| WD.skipn rfl rfl rfl <| WD.skip (fun _ => (by repeat (first | exact trivial | refine ⟨by with_reducible assumption, ?_⟩))) rfl rfl <| WD.skipn rfl rfl rfl <| dpf rfl rfl <| WD.nil (by repeat (first | exact trivial | refine ⟨by with_reducible assumption, ?_⟩)) (WC.cond rfl (fun hc => by cases hc) (fun hc => WC.skip (WC.seqO ?_)))
    exact omv rfl <| onk rfl <| ofa rfl <| old rfl (g06.rd hr) <| omv rfl <| WO.op (StepK.mapDel rfl rfl u1) <| WO.nil <| WC.seqO <| omv rfl <| omv rfl <| WO.nil <| WC.ret ⟨trivial, _, rfl, fun m => ⟨rfl, ⟨c7.wf, c7.size, c7.keep⟩, u2⟩⟩
end
end Abs
end Go.Proofs.YtlgbdjlnbnlphaaGreatDoor
