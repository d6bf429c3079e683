/- Two devices of sectors: what they have, and what dev's functions answer that change nothing. Two devices of sectors: what Write does. Iterators: slices.Backward over the writes that wait. Two devices of sectors: what Read answers. Two devices of sectors: what Read answers. Two devices of sectors: Write that is refused; put. Two devices of sectors: settle. Two devices of sectors: done, Flush. Two devices of sectors: New. -/
import Derived.Test.YtlgbdjlnbnlphaaGreatDoorB14
import Derived.Test.YtlgbdjlnbnlphaaGreatDoorA41
namespace Go.Proofs.YtlgbdjlnbnlphaaGreatDoor
namespace Abs
set_option linter.unusedVariables false
set_option linter.unusedSimpArgs false
open Go.RowKit
attribute [local irreducible] WO WC WD StepK Ans Does Runs DoesD

/-- Devices: sectors' texts, what is lost, the writes that wait. -/
structure Dv where
  s0 : List (List Nat)
  s1 : List (List Nat)
  l0 : Bool
  l1 : Bool
  ws : List (Int × Int × List Nat)
def Dv.s (D : Dv) (v : Int) : List (List Nat) := if v = 0 then D.s0 else D.s1
def Dv.l (D : Dv) (v : Int) : Bool := if v = 0 then D.l0 else D.l1
def isDev (v : Int) : Bool := decide (v = 0) || decide (v = 1)
def Dv.may (D : Dv) (v a : Int) (n : Nat) : Int := if isDev v = false ∨ a < 0 ∨ ((D.s v).length : Int) ≤ a ∨ 1024 < n then 1 else if D.l v = true then 5 else 0
/-- The devices' own block. -/
def DevB (h : Heap) (b b0 b1 : Nat) (wv : V) (D : Dv) : Prop := Cl h b [.slice (some (b0, 0)) D.s0.length D.s0.length, .slice (some (b1, 0)) D.s1.length D.s1.length, .bool D.l0, .bool D.l1, wv]

theorem eqT {a b : Int} (h : a = b) : binA .eql (iv a) (iv b) = some (.bool true) := by subst h; simp [binA, iv]
theorem eqF {a b : Int} (h : a ≠ b) : binA .eql (iv a) (iv b) = some (.bool false) := by simp [binA, iv, h]

theorem ltT {a b : Int} (h : a < b) : binA .lss (iv a) (iv b) = some (.bool true) := by simp [binA, iv, h]
theorem ltF {a b : Int} (h : ¬ a < b) : binA .lss (iv a) (iv b) = some (.bool false) := by simp [binA, iv, h]
theorem geT {a b : Int} (h : b ≤ a) : binA .geq (iv a) (iv b) = some (.bool true) := by simp [binA, iv, h]
theorem geF {a b : Int} (h : ¬ b ≤ a) : binA .geq (iv a) (iv b) = some (.bool false) := by simp [binA, iv]; omega
theorem gtT {a b : Int} (h : b < a) : binA .gtr (iv a) (iv b) = some (.bool true) := by simp [binA, iv, h]
theorem gtF {a b : Int} (h : ¬ b < a) : binA .gtr (iv a) (iv b) = some (.bool false) := by simp [binA, iv]; omega
section
variable {C : Cfg} (S : StdO C)
include S
theorem is_ans (h : Heap) (hw : Wf h) (b : Nat) (v : Int) : Ans C 33 [.ptr (some (b, 0)), iv v] h fun r h' => r = .bool (isDev v) ∧ Grow h h' := by
  have hF : C.F 33 = some a33 := S.f rfl
  unfold a33 at hF
  refine Ans.val (fun _ _ => S.s _ _ _ rfl) hF rfl rfl hw fun h2 g => ?_
  clear hF
  refine WC.seqO (omv rfl (WO.nil (WC.seqO ?_)))
  refine omv rfl <| oeq rfl rfl rfl <| omv rfl <| WO.run rfl <| omv rfl <| WO.run rfl ?_
  by_cases h0 : v = 0
  · refine obn rfl rfl (eqT h0) ?_
    (repeat (first | refine omv rfl ?_ | refine ols rfl (by first | with_reducible assumption | rfl) ?_ | refine ofa rfl ?_ | refine oad rfl rfl (by omega) ?_ | refine osb rfl rfl (by omega) ?_ | refine obn rfl rfl rfl ?_ | refine opt rfl rfl ?_ | refine opf rfl rfl ?_ | refine ont rfl ?_ | refine oeq rfl rfl rfl ?_ | refine oex rfl rfl ?_ | refine obu rfl rfl ?_ | refine ofd rfl rfl ?_ | refine olt rfl ?_ | refine onk rfl ?_ | refine old rfl (by first | with_reducible assumption | rfl) ?_ | refine WO.run rfl ?_ | refine WO.skip rfl rfl ?_ | refine WO.skipu rfl ?_))
    refine WO.nil (WC.ret ⟨trivial, g, ?_⟩)
    simp [isDev, h0]; rfl
  · refine obn rfl rfl (eqF h0) <| WO.run rfl <| omv rfl <| WO.run rfl <| omv rfl <| WO.run rfl ?_
    by_cases h1 : v = 1
    · refine obn rfl rfl (eqT h1) ?_
      (repeat (first | refine omv rfl ?_ | refine ols rfl (by first | with_reducible assumption | rfl) ?_ | refine ofa rfl ?_ | refine oad rfl rfl (by omega) ?_ | refine osb rfl rfl (by omega) ?_ | refine obn rfl rfl rfl ?_ | refine opt rfl rfl ?_ | refine opf rfl rfl ?_ | refine ont rfl ?_ | refine oeq rfl rfl rfl ?_ | refine oex rfl rfl ?_ | refine obu rfl rfl ?_ | refine ofd rfl rfl ?_ | refine olt rfl ?_ | refine onk rfl ?_ | refine old rfl (by first | with_reducible assumption | rfl) ?_ | refine WO.run rfl ?_ | refine WO.skip rfl rfl ?_ | refine WO.skipu rfl ?_))
      refine WO.nil (WC.ret ⟨trivial, g, ?_⟩)
      simp [isDev, h1]; rfl
    · refine obn rfl rfl (eqF h1) ?_
      (repeat (first | refine omv rfl ?_ | refine ols rfl (by first | with_reducible assumption | rfl) ?_ | refine ofa rfl ?_ | refine oad rfl rfl (by omega) ?_ | refine osb rfl rfl (by omega) ?_ | refine obn rfl rfl rfl ?_ | refine opt rfl rfl ?_ | refine opf rfl rfl ?_ | refine ont rfl ?_ | refine oeq rfl rfl rfl ?_ | refine oex rfl rfl ?_ | refine obu rfl rfl ?_ | refine ofd rfl rfl ?_ | refine olt rfl ?_ | refine onk rfl ?_ | refine old rfl (by first | with_reducible assumption | rfl) ?_ | refine WO.run rfl ?_ | refine WO.skip rfl rfl ?_ | refine WO.skipu rfl ?_))
      refine WO.nil (WC.ret ⟨trivial, g, ?_⟩)
      simp [isDev, h0, h1]; rfl
theorem size_ans (h : Heap) (hw : Wf h) (b b0 b1 : Nat) (wv : V) (D : Dv) (hb : DevB h b b0 b1 wv D) (v : Int) : Ans C 15 [.ptr (some (b, 0)), iv v] h fun r h' => r = iv (if isDev v then (D.s v).length else 0) ∧ Grow h h' := by
  have hF : C.F 15 = some a15 := S.f rfl
  unfold a15 at hF
  refine Ans.val (fun _ _ => S.s _ _ _ rfl) hF rfl rfl hw fun h2 g => ?_
  clear hF
  have hb2 : DevB h2 b b0 b1 wv D := hb.grow g
  refine WC.seqO (omv rfl (WO.nil (WC.seq (WC.seqO ?_))))
  refine omv rfl <| omv rfl ?_
  refine WO.call rfl rfl (is_ans S h2 g.wf b v) ?_
  rintro _ h3 ⟨rfl, g3⟩
  have hb3 : DevB h3 b b0 b1 wv D := hb2.grow g3
  cases hv : isDev v with
  | false =>
    refine ont rfl (WO.nil (WC.cond rfl (fun hc => ?_) (fun hc => by cases hc)))
    refine WC.seqO (omv rfl (WO.nil (WC.ret ⟨trivial, g.trans g3, ?_⟩)))
    rfl
  | true =>
    refine ont rfl (WO.nil (WC.cond rfl (fun hc => by cases hc) (fun hc => WC.skip (WC.seqO ?_))))
    have hv' : v = 0 ∨ v = 1 := by simpa [isDev] using hv
    rcases hv' with rfl | rfl
    · refine omv rfl <| omv rfl <| onk rfl <| ofa rfl <| WO.ops (StepK.idxArr rfl rfl (idx_at (n := 2) (j := 0) rfl (by omega) rfl)) <| old rfl (hb3.rd (i := 0) rfl) ?_
      refine ols rfl rfl <| omv rfl (WO.nil (WC.ret ⟨trivial, g.trans g3, ?_⟩))
      rfl
    · refine omv rfl <| omv rfl <| onk rfl <| ofa rfl <| WO.ops (StepK.idxArr rfl rfl (idx_at (n := 2) (j := 1) rfl (by omega) rfl)) <| old rfl (hb3.rd (i := 1) rfl) ?_
      refine ols rfl rfl <| omv rfl (WO.nil (WC.ret ⟨trivial, g.trans g3, ?_⟩))
      rfl
theorem lost_ans (h : Heap) (hw : Wf h) (b b0 b1 : Nat) (wv : V) (D : Dv) (hb : DevB h b b0 b1 wv D) (v : Int) : Ans C 17 [.ptr (some (b, 0)), iv v] h fun r h' => r = .bool (isDev v && D.l v) ∧ Grow h h' := by
  have hF : C.F 17 = some a17 := S.f rfl
  unfold a17 at hF
  refine Ans.val (fun _ _ => S.s _ _ _ rfl) hF rfl rfl hw fun h2 g => ?_
  clear hF
  have hb2 : DevB h2 b b0 b1 wv D := hb.grow g
  refine WC.seqO (omv rfl (WO.nil (WC.seqO ?_)))
  refine omv rfl <| omv rfl ?_
  refine WO.call rfl rfl (is_ans S h2 g.wf b v) ?_
  rintro _ h3 ⟨rfl, g3⟩
  have hb3 : DevB h3 b b0 b1 wv D := hb2.grow g3
  cases hv : isDev v with
  | false =>
    (repeat (first | refine omv rfl ?_ | refine ols rfl (by first | with_reducible assumption | rfl) ?_ | refine ofa rfl ?_ | refine oad rfl rfl (by omega) ?_ | refine osb rfl rfl (by omega) ?_ | refine obn rfl rfl rfl ?_ | refine opt rfl rfl ?_ | refine opf rfl rfl ?_ | refine ont rfl ?_ | refine oeq rfl rfl rfl ?_ | refine oex rfl rfl ?_ | refine obu rfl rfl ?_ | refine ofd rfl rfl ?_ | refine olt rfl ?_ | refine onk rfl ?_ | refine old rfl (by first | with_reducible assumption | rfl) ?_ | refine WO.run rfl ?_ | refine WO.skip rfl rfl ?_ | refine WO.skipu rfl ?_))
    refine WO.nil (WC.ret ⟨trivial, g.trans g3, rfl⟩)
  | true =>
    have hv' : v = 0 ∨ v = 1 := by simpa [isDev] using hv
    rcases hv' with rfl | rfl
    · refine omv rfl <| WO.run rfl <| omv rfl <| WO.run rfl <| omv rfl <| WO.run rfl <| onk rfl <| WO.run rfl <| ofa rfl <| WO.run rfl <| WO.ops (StepK.idxArr rfl rfl (show _ = some (V.ptr (some (b, 2))) from rfl)) <| WO.run rfl <| old rfl (hb3.rd (i := 2) rfl) ?_
      (repeat (first | refine omv rfl ?_ | refine ols rfl (by first | with_reducible assumption | rfl) ?_ | refine ofa rfl ?_ | refine oad rfl rfl (by omega) ?_ | refine osb rfl rfl (by omega) ?_ | refine obn rfl rfl rfl ?_ | refine opt rfl rfl ?_ | refine opf rfl rfl ?_ | refine ont rfl ?_ | refine oeq rfl rfl rfl ?_ | refine oex rfl rfl ?_ | refine obu rfl rfl ?_ | refine ofd rfl rfl ?_ | refine olt rfl ?_ | refine onk rfl ?_ | refine old rfl (by first | with_reducible assumption | rfl) ?_ | refine WO.run rfl ?_ | refine WO.skip rfl rfl ?_ | refine WO.skipu rfl ?_))
      refine WO.nil (WC.ret ⟨trivial, g.trans g3, ?_⟩)
      rfl
    · refine omv rfl <| WO.run rfl <| omv rfl <| WO.run rfl <| omv rfl <| WO.run rfl <| onk rfl <| WO.run rfl <| ofa rfl <| WO.run rfl <| WO.ops (StepK.idxArr rfl rfl (show _ = some (V.ptr (some (b, 3))) from rfl)) <| WO.run rfl <| old rfl (hb3.rd (i := 3) rfl) ?_
      (repeat (first | refine omv rfl ?_ | refine ols rfl (by first | with_reducible assumption | rfl) ?_ | refine ofa rfl ?_ | refine oad rfl rfl (by omega) ?_ | refine osb rfl rfl (by omega) ?_ | refine obn rfl rfl rfl ?_ | refine opt rfl rfl ?_ | refine opf rfl rfl ?_ | refine ont rfl ?_ | refine oeq rfl rfl rfl ?_ | refine oex rfl rfl ?_ | refine obu rfl rfl ?_ | refine ofd rfl rfl ?_ | refine olt rfl ?_ | refine onk rfl ?_ | refine old rfl (by first | with_reducible assumption | rfl) ?_ | refine WO.run rfl ?_ | refine WO.skip rfl rfl ?_ | refine WO.skipu rfl ?_))
      refine WO.nil (WC.ret ⟨trivial, g.trans g3, ?_⟩)
      rfl
theorem may_ans (h : Heap) (hw : Wf h) (b b0 b1 : Nat) (wv : V) (D : Dv) (hb : DevB h b b0 b1 wv D) (v a : Int) (s : List Nat) : Ans C 29 [.ptr (some (b, 0)), .agg [iv v, iv a], .str s] h fun r h' => r = iv (D.may v a s.length) ∧ Grow h h' := by
  have hF : C.F 29 = some a29 := S.f rfl
  unfold a29 at hF
  refine Ans.val (fun _ _ => S.s _ _ _ rfl) hF rfl rfl hw fun h2 g => ?_
  clear hF
  refine WC.seqO (WO.ops (StepK.box rfl) ?_)
  have gp := (Grow.refl g.wf).push (.cells [iv v, iv a] (.tip [] 0 none))
  have hq : Cl (h2.push (.cells [iv v, iv a] (.tip [] 0 none))) h2.size [iv v, iv a] := Cl.new _ _ _
  have g3 := g.trans gp
  change WO C _ _ (h2.push (.cells [iv v, iv a] (.tip [] 0 none))) _
  generalize h2.push (.cells [iv v, iv a] (.tip [] 0 none)) = h3 at *
  generalize h2.size = p at *
  have hb3 : DevB h3 b b0 b1 wv D := hb.grow g3
  refine omv rfl (WO.nil (WC.seq (WC.block (WC.seqD ?_))))
  have r0 : h3.rd p (0 + 0) = some (iv v) := hq.rd rfl
  refine dmv rfl <| dfa rfl <| WD.load1 rfl r0 ?_
  refine WD.call (by repeat (first | exact trivial | refine ⟨by with_reducible assumption, ?_⟩)) rfl rfl (is_ans S h3 g3.wf b v) ?_
  rintro _ h4 ⟨rfl, g4⟩
  have g34 := g3.trans g4
  have r0' : h4.rd p (0 + 0) = some (iv v) := g4.rd r0
  have r1' : h4.rd p (0 + 1) = some (iv a) := g4.rd (hq.rd rfl)
  have hb4 : DevB h4 b b0 b1 wv D := hb3.grow g4
  have bad : D.may v a s.length = 1 → ∀ (e' : List (Nat × V)), Env.get e' 7 = some (.bool true) → ∀ {A B : AC} {Q : Ex → List (Nat × V) → Heap → Prop}, (∀ e'', Env.get e'' 6 = some (iv 1) → Q .ret e'' h4) →
      WC C (.cond (.t 7) (.seq (.ops [⟨some 6, none, .mv (.c (.int .i64 1))⟩]) .ret) B) e' h4 Q := by
    intro hm e' he A B Q hQ
    exact WC.cond he (fun _ => WC.seqO (omv rfl (WO.nil (WC.ret (hQ _ rfl))))) (fun hc => by cases hc)
  have out : D.may v a s.length = 1 → ∀ e'', Env.get e'' 6 = some (iv 1) → Fin .ret ∧ Grow h h4 ∧ retE e'' h4 [.tmp 6] = some (iv (D.may v a s.length)) := by
    intro hm e'' he
    refine ⟨trivial, g34, ?_⟩
    rw [hm]
    simp only [retE, ressE, resE, he]; rfl
  cases hv : isDev v with
  | false =>
    have hm : D.may v a s.length = 1 := by simp [Dv.may, hv]
    (repeat (first | refine dmv rfl ?_ | refine dls rfl (by first | with_reducible assumption | rfl) ?_ | refine dfa rfl ?_ | refine dad rfl rfl (by omega) ?_ | refine dsb rfl rfl (by omega) ?_ | refine dbn rfl rfl rfl ?_ | refine dpt rfl rfl ?_ | refine dpf rfl rfl ?_ | refine dnt rfl ?_ | refine deq rfl rfl rfl ?_ | refine dex rfl rfl ?_ | refine dbu rfl rfl ?_ | refine dfd rfl rfl ?_ | refine dlt rfl ?_ | refine dnk rfl ?_ | refine WD.load1 rfl (by first | with_reducible assumption | rfl) ?_ | refine WD.run rfl ?_ | refine WD.skipn rfl rfl rfl ?_ | refine WD.skipun rfl rfl ?_))
    exact WD.nil (by repeat (first | exact trivial | refine ⟨by with_reducible assumption, ?_⟩)) (bad hm _ rfl (A := .skip) (out hm))
  | true =>
    refine dnt rfl <| dmv rfl <| WD.run rfl <| dfa rfl <| WD.run rfl <| WD.load1 rfl r1' <| WD.run rfl ?_
    by_cases ha : a < 0
    · have hm : D.may v a s.length = 1 := by simp [Dv.may, ha]
      refine dbn rfl rfl (ltT ha) ?_
      (repeat (first | refine dmv rfl ?_ | refine dls rfl (by first | with_reducible assumption | rfl) ?_ | refine dfa rfl ?_ | refine dad rfl rfl (by omega) ?_ | refine dsb rfl rfl (by omega) ?_ | refine dbn rfl rfl rfl ?_ | refine dpt rfl rfl ?_ | refine dpf rfl rfl ?_ | refine dnt rfl ?_ | refine deq rfl rfl rfl ?_ | refine dex rfl rfl ?_ | refine dbu rfl rfl ?_ | refine dfd rfl rfl ?_ | refine dlt rfl ?_ | refine dnk rfl ?_ | refine WD.load1 rfl (by first | with_reducible assumption | rfl) ?_ | refine WD.run rfl ?_ | refine WD.skipn rfl rfl rfl ?_ | refine WD.skipun rfl rfl ?_))
      exact WD.nil (by repeat (first | exact trivial | refine ⟨by with_reducible assumption, ?_⟩)) (bad hm _ rfl (A := .skip) (out hm))
    refine dbn rfl rfl (ltF ha) <| dpf rfl rfl <| dmv rfl <| WD.run rfl <| dfa rfl <| WD.run rfl <| WD.load1 rfl r1' <| WD.run rfl <| dmv rfl <| WD.run rfl <| dfa rfl <| WD.run rfl <| WD.load1 rfl r0' <| WD.run rfl <| dnk rfl <| WD.run rfl <| dfa rfl <| WD.run rfl ?_
    obtain ⟨k, c, n, k2, i1, i2, hn, i3, i4⟩ : ∃ k c n k2, idxArrA 2 1 (.ptr (some (b, 0 + 0))) (iv v) = some (.ptr (some (b, k))) ∧ h4.rd b k = some (.slice (some (c, 0)) n n) ∧ n = (D.s v).length ∧ idxArrA 2 1 (.ptr (some (b, 0 + 2))) (iv v) = some (.ptr (some (b, k2))) ∧ h4.rd b k2 = some (.bool (D.l v)) := by
      have hv' : v = 0 ∨ v = 1 := by simpa [isDev] using hv
      rcases hv' with rfl | rfl
      · exact ⟨0, b0, _, 2, rfl, hb4.rd (i := 0) rfl, rfl, rfl, hb4.rd (i := 2) rfl⟩
      · exact ⟨1, b1, _, 3, rfl, hb4.rd (i := 1) rfl, rfl, rfl, hb4.rd (i := 3) rfl⟩
    refine WD.pure (StepK.idxArr rfl rfl i1) rfl <| WD.run rfl <| WD.load1 rfl i2 <| WD.run rfl <| dls rfl rfl <| WD.run rfl ?_
    by_cases hl : (n : Int) ≤ a
    · have hm : D.may v a s.length = 1 := by
        have : ((D.s v).length : Int) ≤ a := by omega
        simp [Dv.may, this]
      refine dbn rfl rfl (geT hl) ?_
      (repeat (first | refine dmv rfl ?_ | refine dls rfl (by first | with_reducible assumption | rfl) ?_ | refine dfa rfl ?_ | refine dad rfl rfl (by omega) ?_ | refine dsb rfl rfl (by omega) ?_ | refine dbn rfl rfl rfl ?_ | refine dpt rfl rfl ?_ | refine dpf rfl rfl ?_ | refine dnt rfl ?_ | refine deq rfl rfl rfl ?_ | refine dex rfl rfl ?_ | refine dbu rfl rfl ?_ | refine dfd rfl rfl ?_ | refine dlt rfl ?_ | refine dnk rfl ?_ | refine WD.load1 rfl (by first | with_reducible assumption | rfl) ?_ | refine WD.run rfl ?_ | refine WD.skipn rfl rfl rfl ?_ | refine WD.skipun rfl rfl ?_))
      exact WD.nil (by repeat (first | exact trivial | refine ⟨by with_reducible assumption, ?_⟩)) (bad hm _ rfl (A := .skip) (out hm))
    refine dbn rfl rfl (geF hl) <| dpf rfl rfl <| dmv rfl <| WD.run rfl <| dmv rfl <| WD.run rfl <| dlt rfl <| WD.run rfl ?_
    by_cases hs : (1024 : Int) < s.length
    · have hm : D.may v a s.length = 1 := by
        have : 1024 < s.length := by omega
        simp [Dv.may, this]
      refine dbn rfl rfl (gtT hs) ?_
      (repeat (first | refine dmv rfl ?_ | refine dls rfl (by first | with_reducible assumption | rfl) ?_ | refine dfa rfl ?_ | refine dad rfl rfl (by omega) ?_ | refine dsb rfl rfl (by omega) ?_ | refine dbn rfl rfl rfl ?_ | refine dpt rfl rfl ?_ | refine dpf rfl rfl ?_ | refine dnt rfl ?_ | refine deq rfl rfl rfl ?_ | refine dex rfl rfl ?_ | refine dbu rfl rfl ?_ | refine dfd rfl rfl ?_ | refine dlt rfl ?_ | refine dnk rfl ?_ | refine WD.load1 rfl (by first | with_reducible assumption | rfl) ?_ | refine WD.run rfl ?_ | refine WD.skipn rfl rfl rfl ?_ | refine WD.skipun rfl rfl ?_))
      exact WD.nil (by repeat (first | exact trivial | refine ⟨by with_reducible assumption, ?_⟩)) (bad hm _ rfl (A := .skip) (out hm))
    refine dbn rfl rfl (gtF hs) <| dpf rfl rfl <| dmv rfl ?_
    have hm : D.may v a s.length = if D.l v = true then 5 else 0 := by
      unfold Dv.may
      rw [if_neg]
      rintro (q | q | q | q)
      · rw [hv] at q; cases q
      · exact ha q
      · rw [← hn] at q; exact hl q
      · omega
    refine WD.nil (by repeat (first | exact trivial | refine ⟨by with_reducible assumption, ?_⟩)) (WC.cond rfl (fun hc => by cases hc) (fun hc => WC.seqD ?_))
    refine dmv rfl <| dfa rfl <| WD.load1 rfl r0' <| dnk rfl <| dfa rfl <| WD.pure (StepK.idxArr rfl rfl i3) rfl <| WD.load1 rfl i4 <| dmv rfl ?_
    cases hL : D.l v with
    | true =>
      rw [hL] at i4
      refine WD.nil (by repeat (first | exact trivial | refine ⟨by with_reducible assumption, ?_⟩)) (WC.cond rfl (fun hc => WC.seqO (omv rfl (WO.nil (WC.ret ⟨trivial, g34, ?_⟩)))) (fun hc => by cases hc))
      rw [hm, if_pos hL]; rfl
    | false =>
      rw [hL] at i4
      refine WD.nil (by repeat (first | exact trivial | refine ⟨by with_reducible assumption, ?_⟩)) (WC.cond rfl (fun hc => by cases hc) (fun hc => WC.skip (WC.seqO (omv rfl (WO.nil (WC.ret ⟨trivial, g34, ?_⟩))))))
      rw [hm, if_neg (by rw [hL]; decide)]; rfl
end
end Abs
end Go.Proofs.YtlgbdjlnbnlphaaGreatDoor
namespace Go.Proofs.YtlgbdjlnbnlphaaGreatDoor
namespace Abs
set_option linter.unusedVariables false
set_option linter.unusedSimpArgs false
open Go.RowKit
attribute [local irreducible] WO WC WD StepK Ans Does Runs DoesD

def wC (w : Int × Int × List Nat) : List V := [iv w.1, iv w.2.1, .str w.2.2]
/-- The devices, as they lie in blocks that are not below n. -/
structure DevAt (n : Nat) (h : Heap) (b b0 b1 : Nat) (wv : V) (D : Dv) : Prop where
  nb : n ≤ b
  n0 : n ≤ b0
  n1 : n ≤ b1
  e0 : b ≠ b0
  e1 : b ≠ b1
  e2 : b0 ≠ b1
  B : DevB h b b0 b1 wv D
  S0 : Cl h b0 (D.s0.map V.str)
  S1 : Cl h b1 (D.s1.map V.str)
  W : Grown h n 3 wv (D.ws.map wC)
  ob : Off wv b
  o0 : Off wv b0
  o1 : Off wv b1
theorem DevAt.grow {n : Nat} {h h' : Heap} {b b0 b1 : Nat} {wv : V} {D : Dv} (d : DevAt n h b b0 b1 wv D) (g : Grow h h') : DevAt n h' b b0 b1 wv D :=
  { d with B := d.B.grow g, S0 := d.S0.grow g, S1 := d.S1.grow g, W := d.W.grow g }
/-- What a call on the devices leaves as it was. -/
structure DFr (h h' : Heap) (F : List Nat) (wv wv' : V) : Prop where
  size : h.size ≤ h'.size
  keep : ∀ x o, h.get x = some o → x ∉ F → Off wv x → h'.get x = some o
  off : ∀ x, x < h.size → Off wv x → Off wv' x
theorem roomyW {n : Nat} (h : n ≤ 1000000000) : roomy n 32 = true := by
  unfold roomy; exact decide_eq_true (by omega)

theorem one_cells {w : V} (h : V.one w = true) : w.cellsOf = [w] := by cases w <;> first | rfl | cases h
theorem wr_low {h h' : Heap} {b o : Nat} {vs : List V} (hw : h.wr b o vs = some h') : h'.low ≤ b := by
  unfold Heap.wr at hw
  split at hw
  · split at hw
    · cases hw; exact Nat.min_le_right _ _
    · cases hw
  · cases hw
theorem append_size {h h' : Heap} {sz bytes : Nat} {tyK : Option Nat} {x y v : V} (hx : appendA h sz bytes tyK x y = some (v, h')) : h.size ≤ h'.size := by
  unfold appendA at hx
  split at hx
  · split at hx
    · split at hx
      · exact (HM.core hx).size
      · cases hx
    · cases hx
  · cases hx
section
variable {C : Cfg} (S : StdO C)
include S
theorem write_ok (hB h : Heap) (hw0 : Wf hB) (gB : Grow hB h) (b b0 b1 : Nat) (wv : V) (D : Dv) (d : DevAt hB.size h b b0 b1 wv D) (v a : Int) (s : List Nat) (hm : D.may v a s.length = 0) (hn : D.ws.length ≤ 1000000) :
    Ans C 21 [.ptr (some (b, 0)), .agg [iv v, iv a], .str s] h fun r h' => r = iv 0 ∧ Grow hB h' ∧ ∃ wv', DevAt hB.size h' b b0 b1 wv' { D with ws := D.ws ++ [(v, a, s)] } ∧ DFr h h' [b] wv wv' := by
  have hw := gB.wf
  have hF : C.F 21 = some a21 := S.f rfl
  unfold a21 at hF
  refine Ans.mut (S.s _ _ _ rfl) hF rfl rfl hw fun h2 g hs2 hg2 => ?_
  clear hF
  refine WC.seqO (WO.ops (StepK.box rfl) ?_)
  have gp := (Grow.refl g.wf).push (.cells [iv v, iv a] (.tip [] 0 none))
  have hq : Cl (h2.push (.cells [iv v, iv a] (.tip [] 0 none))) h2.size [iv v, iv a] := Cl.new _ _ _
  have g3 := g.trans gp
  change WO C _ _ (h2.push (.cells [iv v, iv a] (.tip [] 0 none))) _
  generalize h2.push (.cells [iv v, iv a] (.tip [] 0 none)) = h3 at *
  have hp2 : h2.size = h.size := hs2
  generalize h2.size = p at *
  refine omv rfl (WO.nil (WC.seqO ?_))
  refine omv rfl <| WO.ops (StepK.loadN rfl (hq.rds rfl)) <| omv rfl ?_
  refine WO.call rfl rfl (may_ans S h3 g3.wf b b0 b1 wv D (d.B.grow g3) v a s) ?_
  rintro _ h4 ⟨rfl, g4⟩
  rw [hm]
  refine omv rfl (WO.nil (WC.seq (WC.seqO ?_)))
  refine omv rfl <| obn rfl rfl (eqT rfl) (WO.nil (WC.cond rfl (fun hc => WC.draw ?_) (fun hc => by cases hc)))
  have g34 := g3.trans g4
  have d4 := d.grow g34
  have hq4 := hq.grow g4
  have r4 : h4.rd b (0 + 4) = some wv := d4.B.rd rfl
  have q4 : h4.rds p 0 2 = some [iv v, iv a] := hq4.rds rfl
  refine dmv rfl <| dmv rfl <| dnk rfl <| dfa rfl <| WD.load1 rfl r4 <| WD.loadN rfl q4 <| dmv rfl <| dbu rfl rfl ?_
  refine WD.alloc rfl (StepK.buildSl rfl rfl) ?_
  have gp5 := (Grow.refl g4.wf).push (.cells [iv v, iv a, .str s] (.tip [] 0 none))
  have hnew : (h4.push (.cells [iv v, iv a, .str s] (.tip [] 0 none))).get h4.size = some (.cells [iv v, iv a, .str s] (.tip [] 0 none)) := get_push_self _ _
  change WD C _ _ _ _ (h4.push (.cells [iv v, iv a, .str s] (.tip [] 0 none))) _
  have g5 := g34.trans gp5
  have d5 := d4.grow gp5
  have r5 := gp5.rd r4
  have q5 := gp5.rds q4
  generalize h4.push (.cells [iv v, iv a, .str s] (.tip [] 0 none)) = h5 at *
  have gB5 := gB.trans g5
  obtain ⟨w, h6, u1, u2, u3, u4, u5⟩ := Grown.append2 (bytes := 32) (tyK := none) hw0 gB5 d5.W (sl_one hnew rfl) (by decide) (by decide) (roomyW (by simp; omega)) (fun c hc x hx => by
    obtain rfl := List.mem_singleton.1 hc
    simp only [List.mem_cons, List.not_mem_nil, or_false] at hx
    rcases hx with rfl | rfl | rfl <;> rfl)
  have hb5 : b < h5.size := by obtain ⟨ty, q⟩ := d5.B; exact Wf.lt g5.wf q
  have hb0 : b < h.size := by obtain ⟨ty, q⟩ := d.B; exact Wf.lt hw q
  refine WD.opC ⟨hnew, q5, r5, trivial⟩ rfl (StepK.append rfl rfl u1) ?_
  refine dnk rfl <| dfa rfl ?_
  obtain ⟨h7, s1, s2, s3, s4⟩ := (Cl.frm d5.B u4 d5.ob).set u3.wf (i := 4) (by simp) (v := w) u2.one
  have s1' : h6.wr b (0 + 4) w.cellsOf = some h7 := by rw [one_cells u2.one]; exact s1
  refine WD.opC (by repeat (first | exact trivial | refine ⟨by with_reducible assumption, ?_⟩)) rfl (StepK.store rfl rfl (by rw [one_cells u2.one]; rfl) s1') ?_
  refine WD.nil (by repeat (first | exact trivial | refine ⟨by with_reducible assumption, ?_⟩)) (WC.seqO (omv rfl <| omv rfl (WO.nil (WC.ret ⟨trivial, iv 0, rfl, ?_, fun n => ⟨rfl, ?_, w, ?_, ?_⟩⟩))))
  · have := wr_low s1; omega
  · exact (s3.newGrow u3 hw0 (fun x hx => by obtain rfl := List.mem_singleton.1 hx; exact d.nb)).low1 n
  · have ow : Off w b := u5 b hb5 d5.ob
    have lt : ∀ {x cs}, Cl h5 x cs → x < h5.size := fun c => by obtain ⟨ty, q⟩ := c; exact Wf.lt g5.wf q
    have S0' : Cl h7 b0 (D.s0.map V.str) := (Cl.frm d5.S0 u4 d5.o0).chg s3 (by simpa using d.e0.symm)
    have S1' : Cl h7 b1 (D.s1.map V.str) := (Cl.frm d5.S1 u4 d5.o1).chg s3 (by simpa using d.e1.symm)
    refine ⟨d.nb, d.n0, d.n1, d.e0, d.e1, d.e2, s2, S0', S1', ?_, ow, u5 _ (lt d5.S0) d5.o0, u5 _ (lt d5.S1) d5.o1⟩
    have := u2.chg s3 (fun x hx => by obtain rfl := List.mem_singleton.1 hx; exact ow)
    simp only [List.map_append, List.map_cons, List.map_nil]
    exact this
  · refine ⟨?_, fun x o q1 q2 q3 => ?_, fun x q1 q2 => u5 x (Nat.lt_of_lt_of_le q1 g5.size) q2⟩
    · exact Nat.le_trans (Nat.le_trans g5.size (by
        have := u4; exact append_size u1)) s3.size
    · exact s3.keep x o q2 (u4 x o (g5.ext x o q1) q3)
end
end Abs
end Go.Proofs.YtlgbdjlnbnlphaaGreatDoor
namespace Go.Proofs.YtlgbdjlnbnlphaaGreatDoor
namespace Abs
set_option linter.unusedVariables false
set_option linter.unusedSimpArgs false
open Go.RowKit
attribute [local irreducible] WO WC WD StepK Ans Does Runs DoesD

/-- What holds at each round of a loop that an iterator feeds (J i: behind i values), and where it has been left (K). -/
structure Feeds (C : Cfg) (h : Heap) (l n : Nat) (vals : Nat → List V) (J : Nat → Heap → Prop) (K : Heap → Prop) : Prop where
  zero : J 0 h
  step : ∀ i, i < n → ∀ h', J i h' → Yld C l (vals i) h' fun v h2 => (v = .bool true ∧ J (i + 1) h2) ∨ (v = .bool false ∧ K h2)
  grow : ∀ i h1 h2, J i h1 → Grow h1 h2 → J i h2
  lowJ : ∀ i h1 n, J i h1 → J i { h1 with low := n }
  lowK : ∀ h1 n, K h1 → K { h1 with low := n }
  locJ : ∀ i h1, J i h1 → (∀ b, b < h.size → h1.get b = h.get b) → J i h
  locK : ∀ h1, K h1 → (∀ b, b < h.size → h1.get b = h.get b) → K h

section
variable {C : Cfg} (S : StdO C)
include S
theorem backw_ans (hSm : ∀ f args h v h', C.S f args h = some (some (v, h')) → HM h h') (h : Heap) (hw : Wf h) (l q : Nat) (x : V) (es : List (List V)) (hlen : es.length ≤ 1000000000) {J : Nat → Heap → Prop} {K : Heap → Prop} (hF : Feeds C h l es.length (fun i => [iv (es.length - 1 - i : Nat), .agg (es.getD (es.length - 1 - i) [])]) J K)
    (inv : ∀ i h', J i h' → Wf h' ∧ h'.rd q 0 = some x ∧ Sl h' 3 x es) : Ans C 61 [.yld l, .ptr (some (q, 0))] h fun v h' => J es.length h' ∨ K h' := by
  have hFe := hF
  clear hF
  have hF : C.F 61 = some a61 := S.f rfl
  unfold a61 at hF
  refine Ans.loc hSm (S.s _ _ _ rfl) hF rfl rfl hw (fun h2 g hs2 hg2 => ?_) (fun v h1 hl hr _ => ?_)
  rotate_left
  · rcases hr with hr | hr
    · exact .inl (hFe.locJ _ _ hr hl)
    · exact .inr (hFe.locK _ hr hl)
  clear hF
  have j0 : J 0 h2 := hFe.grow 0 h h2 hFe.zero g
  obtain ⟨w2, r2, s2⟩ := inv 0 h2 j0
  refine WC.seqO ?_
  refine old rfl r2 <| ols rfl s2.len <| osb rfl rfl (by omega) <| omv rfl (WO.nil (WC.block ?_))
  refine WC.loop (σ := Nat) (fun p => [(0, .yld l), (1, .ptr (some (q, 0))), (3, iv ((es.length : Int) - 1 - p))]) (fun p h' => p ≤ es.length ∧ J p h') (fun p => es.length - p) 0
    (Cov.cons rfl (Cov.cons rfl (Cov.cons (by simp [Env.get]) (Cov.nil _)))) ⟨Nat.zero_le _, j0⟩ ?_
  rintro p h3 ⟨hp, j3⟩
  obtain ⟨w3, r3, s3⟩ := inv p h3 j3
  refine WC.seq (WC.seqO ?_)
  refine omv rfl ?_
  by_cases hlt : p < es.length
  · refine obn rfl rfl (geT (by omega)) (WO.nil (WC.cond rfl (fun hc => WC.skip ?_) (fun hc => by cases hc)))
    refine WC.seq (WC.block (WC.seqO ?_))
    have hi : es.length - 1 - p < es.length := by omega
    obtain ⟨c, o, q1, q2⟩ := s3.at hi
    have hcast : ((es.length : Int) - 1 - p) = ((es.length - 1 - p : Nat) : Int) := by omega
    refine omv rfl <| omv rfl <| old rfl r3 <| omv rfl ?_
    rw [hcast]
    refine WO.ops (StepK.idxSl rfl rfl q1) <| WO.ops (StepK.loadN rfl q2) ?_
    have hy := hFe.step p hlt h3 j3
    rw [List.getD_eq_getElem?_getD, List.getElem?_eq_getElem hi] at hy
    refine WO.yld rfl rfl hy ?_
    rintro v h4 (⟨rfl, j4⟩ | ⟨rfl, k4⟩)
    · refine ont rfl (WO.nil (WC.cond rfl (fun hc => by cases hc) (fun hc => WC.skip (WC.ops ?_))))
      refine omv rfl <| osb rfl rfl (by omega) <| omv rfl (WO.nil ⟨p + 1, ?_, ⟨hlt, j4⟩, by omega⟩)
      have e1 : (((es.length - 1 - p : Nat) : Int) - 1) = (es.length : Int) - 1 - ((p + 1 : Nat) : Int) := by omega
      rw [e1]
      exact Cov.cons rfl (Cov.cons rfl (Cov.cons rfl (Cov.nil _)))
    · refine ont rfl (WO.nil (WC.cond rfl (fun hc => WC.ret ?_) (fun hc => by cases hc)))
      exact ⟨trivial, .tuple [], rfl, fun n => .inr (hFe.lowK _ _ k4)⟩
  · obtain rfl : p = es.length := by omega
    refine obn rfl rfl (geF (by omega)) (WO.nil (WC.cond rfl (fun hc => by cases hc) (fun hc => WC.exit ?_)))
    exact ⟨trivial, .tuple [], rfl, fun n => .inl (hFe.lowJ _ _ _ j3)⟩
end
end Abs
end Go.Proofs.YtlgbdjlnbnlphaaGreatDoor
namespace Go.Proofs.YtlgbdjlnbnlphaaGreatDoor
namespace Abs
set_option linter.unusedVariables false
set_option linter.unusedSimpArgs false
open Go.RowKit
attribute [local irreducible] WO WC WD StepK Ans Does Runs DoesD

def isAt (v a : Int) (w : Int × Int × List Nat) : Bool := decide (w.1 = v) && decide (w.2.1 = a)
/-- What was written last to a place, if any write to it waits. -/
def Dv.last (D : Dv) (v a : Int) : Option (List Nat) := (D.ws.reverse.find? (isAt v a)).map (·.2.2)
def Dv.rd (D : Dv) (v a : Int) : List Nat × Int := if D.may v a 0 = 0 then ((D.last v a).getD ((D.s v).getD a.toNat []), 0) else ([], D.may v a 0)

theorem ThenX.on {C : Cfg} {b : AC} {Q : Ex → List (Nat × V) → List V → Heap → Prop} {e : List (Nat × V)} {d : List V} {h : Heap} (hx : WX C b e d h Q) : ThenX C b Q .normal e d h := hx
theorem neT {a b : Int} (h : a ≠ b) : binA .neq (iv a) (iv b) = some (.bool true) := by simp [binA, iv, h]
theorem neF {a b : Int} (h : a = b) : binA .neq (iv a) (iv b) = some (.bool false) := by simp [binA, iv, h]
/-- The function's two results lie in their blocks. -/
theorem ress2 {e : List (Nat × V)} {h : Heap} {a b p q : Nat} {x y : V} (ea : Env.get e a = some (.ptr (some (p, 0)))) (eb : Env.get e b = some (.ptr (some (q, 0)))) (ha : Cl h p [x]) (hb : Cl h q [y]) : ressE e h [.cell a none, .cell b none] = some [x, y] := by
  have h1 : loadA h none (.ptr (some (p, 0))) = some x := by simp [loadA, ha.rd (i := 0) rfl]
  have h2 : loadA h none (.ptr (some (q, 0))) = some y := by simp [loadA, hb.rd (i := 0) rfl]
  simp only [ressE, resE, ea, eb, h1, h2]
theorem Cl.putNe {h : Heap} {b c : Nat} {cs : List V} (a : Cl h b cs) (hc : b ≠ c) (o : Obj) : Cl (h.put c o) b cs := a.of_get (h := h.put c o) (by rw [get_put, if_neg hc])
/-- Read's loop over the writes that wait. -/
def rdAsg : AC := .ops [⟨(some 8), none, .alloc none [(.int .i64 (0)), (.int .i64 (0)), (.str [])]⟩, ⟨none, none, .store 3 (.t 8) (.t 21)⟩]
def rdBody : AC := .block 1 (.seq (.ops [⟨(some 22), none, .fieldAddr 0 (.t 8)⟩,
       ⟨(some 23), none, .load (some 2) (.t 22)⟩,
       ⟨(some 24), none, .load (some 2) (.t 3)⟩,
       ⟨(some 25), none, .eq false (.struct [(0, none, (.flat .int)), (1, none, (.flat .int))]) (.t 23) (.t 24)⟩])
     (.cond (.t 25)
      (.seq (.ops [⟨(some 26), none, .fieldAddr 2 (.t 8)⟩,
        ⟨(some 27), none, .load none (.t 26)⟩,
        ⟨none, none, .store 1 (.t 4) (.t 27)⟩,
        ⟨none, none, .store 1 (.t 5) (.c (.int .i64 (0)))⟩])
      (.ret))
      (.skip)))
structure RdJ (h0 : Heap) (z m q p3 p4 p5 : Nat) (wv : V) (v a : Int) (e : List (Nat × V)) (ws : List (Int × Int × List Nat)) (h : Heap) : Prop where
  gr : Grow h0 h
  sz : z ≤ h.size
  c3 : Cl h p3 [iv v, iv a]
  c4 : Cl h p4 [.str []]
  c5 : Cl h p5 [iv 0]
  cq : Cl h q [wv]
  mar : h.get m = some .dfr
  lp : LoopAt h (m + 1) e [20, 21] rdAsg rdBody
  no : ∀ w ∈ ws, isAt v a w = false
structure RdK (h0 : Heap) (z m p4 p5 : Nat) (s : List Nat) (h : Heap) : Prop where
  gr : Grow h0 h
  sz : z ≤ h.size
  c4 : Cl h p4 [.str s]
  c5 : Cl h p5 [iv 0]
  mar : h.get m = some .dfr
  lp : LoopEnd h (m + 1) (some .ret)
theorem eq_at (v a : Int) (w : Int × Int × List Nat) : eqA (.struct [(0, none, (.flat .int)), (1, none, (.flat .int))]) (.agg [iv w.1, iv w.2.1]) (.agg [iv v, iv a]) = some (isAt v a w) := by
  by_cases h1 : w.1 = v
  · subst h1
    by_cases h2 : w.2.1 = a
    · simp [eqA, eqAs, aggOf, flatEq, isAt, iv, h2]
    · simp [eqA, eqAs, aggOf, flatEq, isAt, iv, h2, beq_false_of_ne h2]
  · simp [eqA, eqAs, aggOf, flatEq, isAt, iv, h1, beq_false_of_ne h1]
theorem rd_step {C : Cfg} {h0 h : Heap} {z m q p3 p4 p5 : Nat} {wv : V} {v a : Int} {e : List (Nat × V)} {ws : List (Int × Int × List Nat)} (hw0 : Wf h0) (J : RdJ h0 z m q p3 p4 p5 wv v a e ws h) (w : Int × Int × List Nat) (x : V)
    (e3 : Env.get e 3 = some (.ptr (some (p3, 0)))) (e4 : Env.get e 4 = some (.ptr (some (p4, 0)))) (e5 : Env.get e 5 = some (.ptr (some (p5, 0))))
    (h4' : h0.size ≤ p4) (h5' : h0.size ≤ p5) (h45 : p4 ≠ p5) (hm : h0.size ≤ m) :
    Yld C (m + 1) [x, .agg (wC w)] h fun r h' => (r = .bool true ∧ RdJ h0 z m q p3 p4 p5 wv v a e (w :: ws) h') ∨ (r = .bool false ∧ isAt v a w = true ∧ RdK h0 z m p4 p5 w.2.2 h') := by
  obtain ⟨nt, tm, hg, hs⟩ := J.lp
  refine Yld.body hg hs rfl ?_
  refine WC.ops ?_
  refine WO.ops (StepK.alloc) ?_
  have gp := (Grow.refl J.gr.wf).push (.cells [iv 0, iv 0, .str []] (.tip [] 0 none))
  have c8 : Cl (h.push (.cells [iv 0, iv 0, .str []] (.tip [] 0 none))) h.size [iv 0, iv 0, .str []] := Cl.new _ _ _
  change WO C _ _ (h.push (.cells [iv 0, iv 0, .str []] (.tip [] 0 none))) _
  generalize h.push (.cells [iv 0, iv 0, .str []] (.tip [] 0 none)) = h2 at *
  have lt : ∀ {b cs}, Cl h b cs → b < h.size := fun c => c.lt J.gr.wf
  have l3 := lt J.c3
  have l4 := lt J.c4
  have l5 := lt J.c5
  have lq := lt J.cq
  have lm := Wf.lt J.gr.wf J.mar
  have ll := Wf.lt J.gr.wf hg
  obtain ⟨h3, r1, r2, r3, r4⟩ := c8.sets gp.wf (i := 0) (us := wC w) (by simp [wC]) (by simp [wC, V.one, iv])
  have r2' : Cl h3 h.size (wC w) := by simpa [splice, wC] using r2
  refine WO.op (StepK.store (v := .agg (wC w)) rfl rfl rfl r1) ?_
  have g3 : Grow h h3 := r3.newGrow gp J.gr.wf (fun x hx => by obtain rfl := List.mem_singleton.1 hx; omega)
  have ne : ∀ {b cs}, Cl h b cs → b ≠ m + 1 := fun {b cs} c hb => by
    obtain ⟨ty, c⟩ := c
    rw [hb, hg] at c
    cases c
  have s3 := g3.size
  refine WO.nil ⟨rfl, (g3.ext _ _ hg).trans hg.symm, ?_⟩
  have gB : Grow h0 (h3.put (m + 1) (.loop .busy none nt tm [20, 21] rdAsg rdBody)) := (J.gr.trans g3).put (by omega) (by omega) hw0 _
  have bz : (h3.put (m + 1) (.loop .busy none nt tm [20, 21] rdAsg rdBody)).get (m + 1) = some (.loop .busy none nt tm [20, 21] rdAsg rdBody) := by rw [get_put, if_pos rfl]
  have kp : ∀ b, b ≠ m + 1 → h3.get b = (h3.put (m + 1) (.loop .busy none nt tm [20, 21] rdAsg rdBody)).get b := fun b hb => by rw [get_put, if_neg hb]
  have zB : (h3.put (m + 1) (.loop .busy none nt tm [20, 21] rdAsg rdBody)).size = h3.size := rfl
  have d3 := Cl.of_get (J.c3.grow g3) (kp _ (ne J.c3))
  have d4 := Cl.of_get (J.c4.grow g3) (kp _ (ne J.c4))
  have d5 := Cl.of_get (J.c5.grow g3) (kp _ (ne J.c5))
  have dq := Cl.of_get (J.cq.grow g3) (kp _ (ne J.cq))
  have d8 := Cl.of_get r2' (kp _ (by omega))
  have dm := (kp m (by omega)).symm.trans (g3.ext _ _ J.mar)
  generalize h3.put (m + 1) (.loop .busy none nt tm [20, 21] rdAsg rdBody) = hB at *
  have zz := J.sz
  refine WC.block (WC.seqO ?_)
  refine ofa rfl <| WO.ops (StepK.loadN rfl (d8.rdsAt (o := 0) (n := 2) (by simp [wC]))) <| WO.ops (StepK.loadN e3 (d3.rds rfl)) <| oeq rfl rfl (eq_at v a w) ?_
  cases hc : isAt v a w with
  | false =>
    refine WO.nil (WC.cond rfl (fun hc => by cases hc) (fun hc => WC.skip ⟨bz, .inl ⟨rfl, ?_⟩⟩))
    refine ⟨gB.put (by omega) (by omega) hw0 _, ?_, d3.putNe (ne J.c3) _, d4.putNe (ne J.c4) _, d5.putNe (ne J.c5) _, dq.putNe (ne J.cq) _, ?_, ⟨nt, tm, by rw [get_put, if_pos rfl], hs⟩, ?_⟩
    · show z ≤ hB.size; omega
    · rw [get_put, if_neg (by omega)]; exact dm
    · intro w' hw'
      rcases List.mem_cons.1 hw' with rfl | hw'
      · assumption
      · exact J.no w' hw'
  | true =>
    refine WO.nil (WC.cond rfl (fun hc => WC.seqO ?_) (fun hc => by cases hc))
    refine ofa rfl <| old rfl (d8.rd (i := 2) rfl) ?_
    obtain ⟨h4, t1, t2, t3, t4⟩ := d4.set gB.wf (i := 0) (by simp) (v := .str w.2.2) rfl
    obtain ⟨h5, u1, u2, u3, u4⟩ := (d5.chg t3 (by simp; omega)).set t3.wf (i := 0) (by simp) (v := iv 0) rfl
    refine WO.op (StepK.store e4 rfl rfl t1) ?_
    refine WO.op (StepK.store e5 rfl rfl u1) ?_
    have mn4 : m ≠ p4 := by
      rintro rfl
      obtain ⟨ty, q⟩ := J.c4
      rw [J.mar] at q; cases q
    have mn5 : m ≠ p5 := by
      rintro rfl
      obtain ⟨ty, q⟩ := J.c5
      rw [J.mar] at q; cases q
    have n4 := ne J.c4
    have n5 := ne J.c5
    have gE : Grow h0 h5 := u3.newGrow (t3.newGrow gB hw0 (fun x hx => by obtain rfl := List.mem_singleton.1 hx; exact h4')) hw0 (fun x hx => by obtain rfl := List.mem_singleton.1 hx; exact h5')
    refine WO.nil (WC.ret ⟨u3.keep _ _ (by simp; omega) (t3.keep _ _ (by simp; omega) bz), .inr ⟨rfl, rfl, ?_⟩⟩)
    refine ⟨gE.put (by omega) (by omega) hw0 _, ?_, (t2.chg u3 (by simp; omega)).putNe n4 _, u2.putNe n5 _, ?_, ⟨.done, nt, tm, _, _, _, by rw [get_put, if_pos rfl], fun hc => by cases hc⟩⟩
    · show z ≤ h5.size; omega
    · rw [get_put, if_neg (by omega)]
      exact u3.keep _ _ (by simpa using mn5) (t3.keep _ _ (by simpa using mn4) dm)
theorem rd_feeds {C : Cfg} {h0 h : Heap} {m q p3 p4 p5 : Nat} {wv : V} {v a : Int} {e : List (Nat × V)} (ws : List (Int × Int × List Nat)) (hw0 : Wf h0) (J : RdJ h0 h.size m q p3 p4 p5 wv v a e [] h)
    (e3 : Env.get e 3 = some (.ptr (some (p3, 0)))) (e4 : Env.get e 4 = some (.ptr (some (p4, 0)))) (e5 : Env.get e 5 = some (.ptr (some (p5, 0))))
    (h4' : h0.size ≤ p4) (h5' : h0.size ≤ p5) (h45 : p4 ≠ p5) (hm : h0.size ≤ m) :
    Feeds C h (m + 1) (ws.map wC).length (fun i => [iv ((ws.map wC).length - 1 - i : Nat), .agg ((ws.map wC).getD ((ws.map wC).length - 1 - i) [])])
      (fun i h' => RdJ h0 h.size m q p3 p4 p5 wv v a e (ws.reverse.take i).reverse h')
      (fun h' => ∃ s, (ws.reverse.find? (isAt v a)).map (·.2.2) = some s ∧ RdK h0 h.size m p4 p5 s h') := by
  have lt : ∀ {b cs}, Cl h b cs → b < h.size := fun c => c.lt J.gr.wf
  have l3 := lt J.c3
  have l4 := lt J.c4
  have l5 := lt J.c5
  have lq := lt J.cq
  have lm := Wf.lt J.gr.wf J.mar
  have ll : m + 1 < h.size := by obtain ⟨nt, tm, hg, _⟩ := J.lp; exact Wf.lt J.gr.wf hg
  refine ⟨by simpa using J, ?_, ?_, ?_, ?_, ?_, ?_⟩
  · intro i hi h' j
    simp only [List.length_map] at hi ⊢
    have hi' : ws.length - 1 - i < ws.length := by omega
    have hr : ws.reverse[i]? = some ws[ws.length - 1 - i] := by rw [List.getElem?_reverse hi, List.getElem?_eq_getElem hi']
    have hd : (ws.map wC).getD (ws.length - 1 - i) [] = wC ws[ws.length - 1 - i] := by
      rw [List.getD_eq_getElem?_getD, List.getElem?_map, List.getElem?_eq_getElem hi']; rfl
    rw [hd]
    have ht : ws.reverse.take (i + 1) = ws.reverse.take i ++ [ws[ws.length - 1 - i]] := by
      rw [List.take_add_one, hr]; rfl
    have hs := rd_step (C := C) hw0 j ws[ws.length - 1 - i] (iv ((ws.length - 1 - i : Nat) : Int)) e3 e4 e5 h4' h5' h45 hm
    obtain ⟨r, h2, q1, q2⟩ := hs
    refine ⟨r, h2, q1, ?_⟩
    rcases q2 with ⟨rfl, q2⟩ | ⟨rfl, q2, q3⟩
    · exact .inl ⟨rfl, by rw [ht, List.reverse_append]; exact q2⟩
    · refine .inr ⟨rfl, _, ?_, q3⟩
      have hf : ws.reverse.find? (isAt v a) = some ws[ws.length - 1 - i] := by
        have hsp : ws.reverse = ws.reverse.take (i + 1) ++ ws.reverse.drop (i + 1) := (List.take_append_drop _ _).symm
        rw [hsp, ht, List.append_assoc, List.find?_append, List.find?_eq_none.2 (fun x hx => by simp [j.no x (List.mem_reverse.2 hx)])]
        simp [q2]
      rw [hf]; rfl
  · exact fun i h1 h2 j g => ⟨j.gr.trans g, Nat.le_trans j.sz g.size, j.c3.grow g, j.c4.grow g, j.c5.grow g, j.cq.grow g, g.ext _ _ j.mar, by obtain ⟨nt, tm, q1, q2⟩ := j.lp; exact ⟨nt, tm, g.ext _ _ q1, q2⟩, j.no⟩
  · exact fun i h1 n j => ⟨j.gr.low1 n, j.sz, j.c3, j.c4, j.c5, j.cq, j.mar, j.lp, j.no⟩
  · exact fun h1 n ⟨s, q, j⟩ => ⟨s, q, j.gr.low1 n, j.sz, j.c4, j.c5, j.mar, j.lp⟩
  · exact fun i h1 j hl => ⟨J.gr, Nat.le_refl _, J.c3, J.c4, J.c5, J.cq, J.mar, J.lp, j.no⟩
  · rintro h1 ⟨s, q, j⟩ hl
    refine ⟨s, q, J.gr, Nat.le_refl _, j.c4.of_get (hl _ l4), j.c5.of_get (hl _ l5), J.mar, ?_⟩
    obtain ⟨st, nt, tm, ps, asg, body, q1, q2⟩ := j.lp
    exact ⟨st, nt, tm, ps, asg, body, (hl _ ll).symm.trans q1, q2⟩
section
variable {C : Cfg} (S : StdO C)
include S
theorem backwf_ans (h : Heap) (hw : Wf h) (x : V) (hx : V.one x = true) : Ans C 42 [x] h fun r h' => ∃ q, r = .func (.func 61) [] [.ptr (some (q, 0))] ∧ Grow h h' ∧ Cl h' q [x] ∧ h.size ≤ q := by
  have hF : C.F 42 = some a42 := S.f rfl
  unfold a42 at hF
  refine Ans.fn (fun _ _ => S.s _ _ _ rfl) hF rfl rfl hw (fun h2 g => ?_)
  clear hF
  refine WC.seqO (WO.ops (StepK.box rfl) ?_)
  have gp := (Grow.refl g.wf).push (.cells [x] (.tip [] 0 none))
  have hs := g.size
  have hq : Cl (h2.push (.cells [x] (.tip [] 0 none))) h2.size [x] := Cl.new _ _ _
  change WO C _ _ (h2.push (.cells x.cellsOf (.tip [] 0 none))) _
  rw [one_cells hx]
  have g3 := g.trans gp
  generalize h2.push (.cells [x] (.tip [] 0 none)) = h3 at *
  generalize h2.size = p at *
  refine omv rfl <| WO.nil <| WC.seqO <| omf rfl rfl <| omv rfl <| WO.nil <| WC.ret ⟨trivial, gp.wf, _, rfl, fun h4 g4 => ⟨p, rfl, g3.trans g4, hq.grow g4, hs⟩, fun hc => ?_⟩
  change (V.func (.func 61) [] [.ptr (some (p, 0))]).scopd h.size = true at hc
  simp [V.scopd, V.scopeds] at hc
  omega
end
end Abs
end Go.Proofs.YtlgbdjlnbnlphaaGreatDoor
namespace Go.Proofs.YtlgbdjlnbnlphaaGreatDoor
namespace Abs
set_option linter.unusedVariables false
set_option linter.unusedSimpArgs false
open Go.RowKit
attribute [local irreducible] WO WC WD StepK Ans Does Runs DoesD

section
variable {C : Cfg} (S : StdO C)
include S
theorem dread_ans (hSm : ∀ f args h v h', C.S f args h = some (some (v, h')) → HM h h') (n : Nat) (h : Heap) (hw : Wf h) (b b0 b1 : Nat) (wv : V) (D : Dv) (d : DevAt n h b b0 b1 wv D) (hn : D.ws.length ≤ 1000000) (v a : Int) :
    Ans C 25 [.ptr (some (b, 0)), .agg [iv v, iv a]] h fun r h' => r = .tuple [.str (D.rd v a).1, iv (D.rd v a).2] ∧ Grow h h' := by
  have hF : C.F 25 = some a25 := S.f rfl
  unfold a25 at hF
  refine Ans.rng (S.s _ _ _ rfl) hF rfl (by decide) ?_
  clear hF
  have g0 : Grow h { h with low := h.size } := (Grow.refl hw).low1 _
  generalize { h with low := h.size } = h2 at *
  refine WX.seqP (WC.ops (WO.ops (StepK.box rfl) ?_))
  have c3 : Cl (h2.push (.cells [iv v, iv a] (.tip [] 0 none))) h2.size [iv v, iv a] := Cl.new _ _ _
  have g3 := g0.push (.cells [iv v, iv a] (.tip [] 0 none))
  have l3 : h.size ≤ h2.size := g0.size
  change WO C _ _ (h2.push (.cells [iv v, iv a] (.tip [] 0 none))) _
  have z3 : (h2.push (.cells [iv v, iv a] (.tip [] 0 none))).size = h2.size + 1 := rfl
  generalize h2.push (.cells [iv v, iv a] (.tip [] 0 none)) = h3 at *
  generalize h2.size = p3 at *
  refine WO.ops (StepK.alloc) ?_
  have c4 : Cl (h3.push (.cells [.str []] (.tip [] 0 none))) h3.size [.str []] := Cl.new _ _ _
  have c34 := c3.grow ((Grow.refl g3.wf).push (.cells [.str []] (.tip [] 0 none)))
  have g4 := g3.push (.cells [.str []] (.tip [] 0 none))
  change WO C _ _ (h3.push (.cells [.str []] (.tip [] 0 none))) _
  have z4 : (h3.push (.cells [.str []] (.tip [] 0 none))).size = h3.size + 1 := rfl
  generalize h3.push (.cells [.str []] (.tip [] 0 none)) = h4 at *
  have n34 : p3 < h3.size := by omega
  generalize h3.size = p4 at *
  refine WO.ops (StepK.alloc) ?_
  have c5 : Cl (h4.push (.cells [iv 0] (.tip [] 0 none))) h4.size [iv 0] := Cl.new _ _ _
  have gq := (Grow.refl g4.wf).push (.cells [iv 0] (.tip [] 0 none))
  have c35 := c34.grow gq
  have c45 := c4.grow gq
  have g5 := g4.push (.cells [iv 0] (.tip [] 0 none))
  change WO C _ _ (h4.push (.cells [iv 0] (.tip [] 0 none))) _
  clear gq
  have z5 : (h4.push (.cells [iv 0] (.tip [] 0 none))).size = h4.size + 1 := rfl
  generalize h4.push (.cells [iv 0] (.tip [] 0 none)) = h5 at *
  have n45 : p4 < h4.size := by omega
  generalize h4.size = p5 at *
  clear c3 c4 c34 g3 g4
  have fin : ∀ (e' : List (Nat × V)) (h1 : Heap) (x : List Nat) (y : Int), Env.get e' 4 = some (.ptr (some (p4, 0))) → Env.get e' 5 = some (.ptr (some (p5, 0))) → Cl h1 p4 [.str x] → Cl h1 p5 [iv y] → D.rd v a = (x, y) → Grow h h1 →
      ∃ vs, ressE e' h1 [.cell 4 none, .cell 5 none] = some vs ∧ (oneOf vs = .tuple [.str (D.rd v a).1, iv (D.rd v a).2] ∧ Grow h { h1 with low := min h.low h1.low }) ∧
        (h.size ≤ h1.low → (oneOf vs).scopd h.size = true → oneOf vs = .tuple [.str (D.rd v a).1, iv (D.rd v a).2] ∧ Grow h h) := by
    intro e' h1 x y e4 e5 q4 q5 hx g
    have hx' : oneOf [V.str x, iv y] = .tuple [.str (D.rd v a).1, iv (D.rd v a).2] := by rw [hx]; rfl
    exact ⟨_, ress2 e4 e5 q4 q5, ⟨hx', g.low1 _⟩, fun _ _ => ⟨hx', Grow.refl hw⟩⟩
  refine WO.nil (ThenX.on (WX.seqP ?_))
  refine WC.seqO ?_
  refine omv rfl <| WO.ops (StepK.loadN rfl (c35.rds rfl)) ?_
  refine WO.call rfl rfl (may_ans S h5 g5.wf b b0 b1 wv D (d.B.grow g5) v a []) ?_
  rintro _ h6 ⟨rfl, g6⟩
  have g56 := g5.trans g6
  have k3 := c35.grow g6
  have k4 := c45.grow g6
  have k5 := c5.grow g6
  have s6 := g6.size
  clear c35 c45 c5
  refine omv rfl (WO.nil (WC.seqO (omv rfl ?_)))
  by_cases hm : D.may v a 0 = 0
  rotate_left
  · refine obn rfl rfl (neT hm) (WO.nil (WC.cond rfl (fun hc => WC.seqO ?_) (fun hc => by cases hc)))
    refine omv rfl ?_
    obtain ⟨h7, r1, r2, r3, r4⟩ := k4.set g56.wf (i := 0) (by decide) (v := .str []) rfl
    obtain ⟨h8, t1, t2, t3, t4⟩ := (k5.chg r3 (by simp; omega)).set r3.wf (i := 0) (by decide) (v := iv (D.may v a 0)) rfl
    refine WO.op (StepK.store rfl rfl rfl r1) ?_
    refine WO.op (StepK.store rfl rfl rfl t1) ?_
    refine WO.nil (WC.ret ⟨fun id hc => Ex.noConfusion hc, h8, rfl, fin _ h8 [] (D.may v a 0) rfl rfl (r2.chg t3 (by simp; omega)) t2 (by rw [Dv.rd, if_neg hm]) ?_⟩)
    have q1 := r3.newGrow g56 hw (fun x hx => by obtain rfl := List.mem_singleton.1 hx; omega)
    exact t3.newGrow q1 hw (fun x hx => by obtain rfl := List.mem_singleton.1 hx; omega)
  refine obn rfl rfl (neF hm) (WO.nil (WC.cond rfl (fun hc => by cases hc) (fun hc => WC.skip ?_)))
  refine ThenX.on (WX.seq (WX.seqP (WC.ops ?_)))
  have d6 := d.grow g56
  refine omv rfl <| onk rfl <| ofa rfl <| old rfl (d6.B.rd (i := 4) rfl) ?_
  refine WO.call rfl rfl (backwf_ans S h6 g56.wf wv d6.W.one) ?_
  rintro _ h7 ⟨q, rfl, g7, cq, lq⟩
  have g57 := g56.trans g7
  replace k3 := k3.grow g7
  replace k4 := k4.grow g7
  replace k5 := k5.grow g7
  have s7 := g7.size
  refine WO.nil (ThenX.on (WX.block ?_))
  refine WX.range g57.wf rfl rfl (fun h8 g8 z8 m8 l8 same8 _ => ?_)
  have g58 := g57.trans g8
  have w8 := g58.wf
  have J0 : RdJ h h8.size h7.size q p3 p4 p5 wv v a _ [] h8 := ⟨g58, Nat.le_refl _, k3.grow g8, k4.grow g8, k5.grow g8, cq.grow g8, m8, l8, by simp⟩
  have feeds := rd_feeds (C := C) D.ws hw J0 rfl rfl rfl (by omega) (by omega) (by omega) (by omega)
  refine (backw_ans S hSm h8 w8 (h7.size + 1) q wv (D.ws.map wC) (by simp; omega) feeds (fun i h' j => ⟨j.gr.wf, j.cq.rd rfl, (d.grow j.gr).W.sl⟩)).mono (fun r h9 hr => ?_)
  clear feeds J0
  have hd0 : D.rd v a = ((D.last v a).getD ((D.s v).getD a.toNat []), 0) := by rw [Dv.rd, if_pos hm]
  rcases hr with j | ⟨s, q1, k⟩
  rotate_left
  · refine ⟨some .ret, k.lp, ?_⟩
    have hz := k.sz
    refine ⟨fun id hc => Ex.noConfusion hc, (h9.put (h7.size + 1) .dead).put h7.size .dead, ?_, fin _ _ s 0 rfl rfl ((k.c4.putNe (by omega) _).putNe (by omega) _) ((k.c5.putNe (by omega) _).putNe (by omega) _) ?_ ?_⟩
    · simp only [runMarks, get_put, if_neg (show h7.size ≠ h7.size + 1 by omega), k.mar]
    · rw [hd0, Dv.last, q1]; rfl
    · exact (k.gr.put (by omega) (by omega) hw _).put (by omega) (by show h7.size < h9.size; omega) hw _
  have hz := j.sz
  have hlast : D.last v a = none := by
    have : D.ws.reverse.find? (isAt v a) = none := List.find?_eq_none.2 (fun x hx => by
      have := j.no x (by rw [List.take_of_length_le (by simp)]; simpa using hx)
      simp [this])
    rw [Dv.last, this]; rfl
  obtain ⟨nt, tm, hg, hs⟩ := j.lp
  refine ⟨none, ⟨_, _, _, _, _, _, hg, fun hc => by cases hc⟩, ?_⟩
  have g9 : Grow h (h9.put (h7.size + 1) .dead) := j.gr.put (by omega) (by omega) hw _
  have t3 := j.c3.putNe (c := h7.size + 1) (by omega) .dead
  have t4 := j.c4.putNe (c := h7.size + 1) (by omega) .dead
  have t5 := j.c5.putNe (c := h7.size + 1) (by omega) .dead
  have tm' : (h9.put (h7.size + 1) .dead).get h7.size = some .dfr := by rw [get_put, if_neg (by omega)]; exact j.mar
  have zs : (h9.put (h7.size + 1) .dead).size = h9.size := rfl
  clear j hg
  generalize h9.put (h7.size + 1) .dead = hA at *
  have dA := d.grow g9
  rw [show exOf none = Ex.normal from rfl]
  unfold AtX
  dsimp only
  refine ThenX.on ?_
  refine WX.plain ?_
  refine WC.seqD ?_
  have hdev : isDev v = true ∧ 0 ≤ a ∧ a < (D.s v).length := by
    unfold Dv.may at hm
    split at hm
    · cases hm
    · rename_i hh
      refine ⟨?_, ?_, ?_⟩
      · cases hv : isDev v with
        | true => rfl
        | false => exact absurd (.inl hv) hh
      · apply Int.not_lt.1; intro hc; exact hh (.inr (.inl hc))
      · apply Int.not_le.1; intro hc; exact hh (.inr (.inr (.inl hc)))
  obtain ⟨hv, ha, hl⟩ := hdev
  obtain ⟨k, c, i1, i2, i3⟩ : ∃ k c, idxArrA 2 1 (.ptr (some (b, 0 + 0))) (iv v) = some (.ptr (some (b, k))) ∧ hA.rd b k = some (.slice (some (c, 0)) (D.s v).length (D.s v).length) ∧ Cl hA c ((D.s v).map V.str) := by
    have hv' : v = 0 ∨ v = 1 := by simpa [isDev] using hv
    rcases hv' with rfl | rfl
    · exact ⟨0, b0, rfl, dA.B.rd (i := 0) rfl, dA.S0⟩
    · exact ⟨1, b1, rfl, dA.B.rd (i := 1) rfl, dA.S1⟩
  have r0 : hA.rd p3 (0 + 0) = some (iv v) := t3.rd rfl
  have r1 : hA.rd p3 (0 + 1) = some (iv a) := t3.rd rfl
  have i4 : idxSlA 1 (.slice (some (c, 0)) (D.s v).length (D.s v).length) (iv a) = some (.ptr (some (c, a.toNat))) := by
    simp [idxSlA, intV, iv, ha, hl]
  have hat : a.toNat < (D.s v).length := by omega
  have i5 : hA.rd c a.toNat = some (.str ((D.s v).getD a.toNat [])) := i3.rd (by rw [List.getElem?_map, List.getD_eq_getElem?_getD, List.getElem?_eq_getElem hat]; rfl)
  obtain ⟨hB, u1, u2, u3, u4⟩ := t4.set g9.wf (i := 0) (by simp) (v := .str ((D.s v).getD a.toNat [])) rfl
  obtain ⟨hC, x1, x2, x3, x4⟩ := (t5.chg u3 (by simp; omega)).set u3.wf (i := 0) (by simp) (v := iv 0) rfl
  refine dmv rfl <| dfa rfl <| WD.load1 rfl r0 <| dnk rfl <| dfa rfl <| WD.pure (StepK.idxArr rfl rfl i1) rfl <| WD.load1 rfl i2 <| dfa rfl <| WD.load1 rfl r1 <| WD.pure (StepK.idxSl rfl rfl i4) rfl <| WD.load1 rfl i5 ?_
  refine WD.opC (by repeat (first | exact trivial | refine ⟨by with_reducible assumption, ?_⟩)) rfl (StepK.store rfl rfl rfl u1) ?_
  refine WD.opC (by repeat (first | exact trivial | refine ⟨by with_reducible assumption, ?_⟩)) rfl (StepK.store rfl rfl rfl x1) ?_
  refine WD.nil (by repeat (first | exact trivial | refine ⟨by with_reducible assumption, ?_⟩)) (WC.ret ?_)
  have gC : Grow h hC := x3.newGrow (u3.newGrow g9 hw (fun x hx => by obtain rfl := List.mem_singleton.1 hx; omega)) hw (fun x hx => by obtain rfl := List.mem_singleton.1 hx; omega)
  have mC : hC.get h7.size = some .dfr := x3.keep _ _ (by simp; omega) (u3.keep _ _ (by simp; omega) tm')
  refine ⟨fun id hc => Ex.noConfusion hc, hC.put h7.size .dead, ?_, fin _ _ ((D.s v).getD a.toNat []) 0 rfl rfl ((u2.chg x3 (by simp; omega)).putNe (by omega) _) (x2.putNe (by omega) _) ?_ ?_⟩
  · simp only [runMarks, mC]
  · rw [hd0, hlast]; rfl
  · exact gC.put (by omega) (by omega) hw _
end
end Abs
end Go.Proofs.YtlgbdjlnbnlphaaGreatDoor
namespace Go.Proofs.YtlgbdjlnbnlphaaGreatDoor
namespace Abs
set_option linter.unusedVariables false
set_option linter.unusedSimpArgs false
open Go.RowKit
attribute [local irreducible] WO WC WD StepK Ans Does Runs DoesD

def Dv.put (D : Dv) (w : Int × Int × List Nat) : Dv := if w.1 = 0 then { D with s0 := D.s0.set w.2.1.toNat w.2.2 } else { D with s1 := D.s1.set w.2.1.toNat w.2.2 }
section
variable {C : Cfg} (S : StdO C)
include S
theorem write_no (h : Heap) (hw : Wf h) (b b0 b1 : Nat) (wv : V) (D : Dv) (hb : DevB h b b0 b1 wv D) (v a : Int) (s : List Nat) (hm : D.may v a s.length ≠ 0) :
    Ans C 21 [.ptr (some (b, 0)), .agg [iv v, iv a], .str s] h fun r h' => r = iv (D.may v a s.length) ∧ Grow h h' := by
  have hF : C.F 21 = some a21 := S.f rfl
  unfold a21 at hF
  refine Ans.val (fun _ _ => S.s _ _ _ rfl) hF rfl rfl hw fun h2 g => ?_
  clear hF
  refine WC.seqO (WO.ops (StepK.box rfl) ?_)
  have gp := (Grow.refl g.wf).push (.cells [iv v, iv a] (.tip [] 0 none))
  have hq : Cl (h2.push (.cells [iv v, iv a] (.tip [] 0 none))) h2.size [iv v, iv a] := Cl.new _ _ _
  have g3 := g.trans gp
  change WO C _ _ (h2.push (.cells [iv v, iv a] (.tip [] 0 none))) _
  generalize h2.push (.cells [iv v, iv a] (.tip [] 0 none)) = h3 at *
  generalize h2.size = p at *
  refine omv rfl (WO.nil (WC.seqO ?_))
  refine omv rfl <| WO.ops (StepK.loadN rfl (hq.rds rfl)) <| omv rfl ?_
  refine WO.call rfl rfl (may_ans S h3 g3.wf b b0 b1 wv D (hb.grow g3) v a s) ?_
  rintro _ h4 ⟨rfl, g4⟩
  refine omv rfl (WO.nil (WC.seq (WC.seqO ?_)))
  refine omv rfl <| obn rfl rfl (eqF hm) (WO.nil (WC.cond rfl (fun hc => by cases hc) (fun hc => WC.skip (WC.seqO ?_))))
  exact omv rfl (omv rfl (WO.nil (WC.ret ⟨trivial, g3.trans g4, rfl⟩)))
theorem dput_ans (h : Heap) (hw : Wf h) (b b0 b1 : Nat) (wv : V) (D : Dv) (hb : DevB h b b0 b1 wv D) (S0 : Cl h b0 (D.s0.map V.str)) (S1 : Cl h b1 (D.s1.map V.str)) (e0 : b ≠ b0) (e1 : b ≠ b1) (e2 : b0 ≠ b1)
    (v a : Int) (s : List Nat) (hv : isDev v = true) (ha : 0 ≤ a) (hl : a < (D.s v).length) :
    Ans C 32 [.ptr (some (b, 0)), .agg (wC (v, a, s))] h fun r h' => Chg [b0, b1] h h' ∧ Cl h' b0 ((D.put (v, a, s)).s0.map V.str) ∧ Cl h' b1 ((D.put (v, a, s)).s1.map V.str) := by
  have hF : C.F 32 = some a32 := S.f rfl
  unfold a32 at hF
  refine Ans.mut (S.s _ _ _ rfl) hF rfl rfl hw fun h2 g hs2 hg2 => ?_
  clear hF
  refine WC.seqO (WO.ops (StepK.box rfl) ?_)
  have gp := (Grow.refl g.wf).push (.cells [iv v, iv a, .str s] (.tip [] 0 none))
  have hq : Cl (h2.push (.cells [iv v, iv a, .str s] (.tip [] 0 none))) h2.size [iv v, iv a, .str s] := Cl.new _ _ _
  have g3 := g.trans gp
  change WO C _ _ (h2.push (.cells [iv v, iv a, .str s] (.tip [] 0 none))) _
  generalize h2.push (.cells [iv v, iv a, .str s] (.tip [] 0 none)) = h3 at *
  generalize h2.size = p at *
  refine WO.nil (WC.draw ?_)
  have b3 := hb.grow g3
  have lt0 : b0 < h.size := S0.lt hw
  have lt1 : b1 < h.size := S1.lt hw
  obtain ⟨k, c, L, i1, i2, i3, i4, i5, fin⟩ : ∃ (k c : Nat) (L : List (List Nat)), idxArrA 2 1 (.ptr (some (b, 0 + 0))) (iv v) = some (.ptr (some (b, k))) ∧ h3.rd b k = some (.slice (some (c, 0)) L.length L.length) ∧ Cl h3 c (L.map V.str) ∧ a < L.length ∧ c < h.size ∧
      ∀ h', Cl h' c ((L.set a.toNat s).map V.str) → Chg [c] h3 h' → Chg [b0, b1] h h' ∧ Cl h' b0 ((D.put (v, a, s)).s0.map V.str) ∧ Cl h' b1 ((D.put (v, a, s)).s1.map V.str) := by
    have hv' : v = 0 ∨ v = 1 := by simpa [isDev] using hv
    rcases hv' with rfl | rfl
    · refine ⟨0, b0, D.s0, rfl, b3.rd (i := 0) rfl, S0.grow g3, hl, lt0, fun h' q1 q2 => ⟨(Chg.growl g3 q2).mono (by simp), q1, (S1.grow g3).chg q2 (by simpa using e2.symm)⟩⟩
    · refine ⟨1, b1, D.s1, rfl, b3.rd (i := 1) rfl, S1.grow g3, hl, lt1, fun h' q1 q2 => ⟨(Chg.growl g3 q2).mono (by simp), (S0.grow g3).chg q2 (by simpa using e2), q1⟩⟩
  have r0 : h3.rd p (0 + 0 + 0) = some (iv v) := hq.rd (i := 0) rfl
  have r1 : h3.rd p (0 + 0 + 1) = some (iv a) := hq.rd (i := 1) rfl
  have r2 : h3.rd p (0 + 2) = some (.str s) := hq.rd (i := 2) rfl
  have i6 : idxSlA 1 (.slice (some (c, 0)) L.length L.length) (iv a) = some (.ptr (some (c, a.toNat))) := by
    simp [idxSlA, intV, iv, ha, i4]
  refine dmv rfl <| dfa rfl <| dfa rfl <| WD.load1 rfl r0 <| dnk rfl <| dfa rfl <| WD.pure (StepK.idxArr rfl rfl i1) rfl <| WD.load1 rfl i2 <| dfa rfl <| dfa rfl <| WD.load1 rfl r1 <| dfa rfl <| WD.load1 rfl r2 <| WD.pure (StepK.idxSl rfl rfl i6) rfl ?_
  obtain ⟨h4, t1, t2, t3, t4⟩ := i3.set g3.wf (i := a.toNat) (by simp; omega) (v := .str s) rfl
  refine WD.opC (by repeat (first | exact trivial | refine ⟨by with_reducible assumption, ?_⟩)) rfl (StepK.store rfl rfl rfl t1) ?_
  have lo := wr_low t1
  have t2' : Cl h4 c ((L.set a.toNat s).map V.str) := by rw [List.map_set]; exact t2
  obtain ⟨f1, f2, f3⟩ := fin h4 t2' t3
  exact WD.nil (by repeat (first | exact trivial | refine ⟨by with_reducible assumption, ?_⟩)) ⟨trivial, .tuple [], rfl, by omega, fun n => ⟨⟨f1.wf, f1.size, f1.keep⟩, f2, f3⟩⟩
end
end Abs
end Go.Proofs.YtlgbdjlnbnlphaaGreatDoor
namespace Go.Proofs.YtlgbdjlnbnlphaaGreatDoor
namespace Abs
set_option linter.unusedVariables false
set_option linter.unusedSimpArgs false
open Go.RowKit
attribute [local irreducible] WO WC WD StepK Ans Does Runs DoesD

/-- The writes that are kept are put down, in their order. -/
def Dv.steps (kp : Nat → Bool) : Nat → List (Int × Int × List Nat) → Dv → Dv
  | _, [], D => D
  | i, w :: r, D => Dv.steps kp (i + 1) r (if kp i then D.put w else D)
theorem steps_snoc (kp : Nat → Bool) : ∀ (l : List (Int × Int × List Nat)) (i : Nat) (D : Dv) (w : Int × Int × List Nat), Dv.steps kp i (l ++ [w]) D = if kp (i + l.length) then (Dv.steps kp i l D).put w else Dv.steps kp i l D
  | [], i, D, w => rfl
  | x :: l, i, D, w => by
    have := steps_snoc kp l (i + 1) (if kp i then D.put x else D) w
    simp only [List.cons_append, Dv.steps, List.length_cons]
    rw [this, show i + 1 + l.length = i + (l.length + 1) by omega]
/-- Alike but for the sectors' texts. -/
structure Alk (D D' : Dv) : Prop where
  z0 : D'.s0.length = D.s0.length
  z1 : D'.s1.length = D.s1.length
  l0 : D'.l0 = D.l0
  l1 : D'.l1 = D.l1
  ws : D'.ws = D.ws
theorem Alk.refl (D : Dv) : Alk D D := ⟨rfl, rfl, rfl, rfl, rfl⟩
theorem Alk.put {D D' : Dv} (a : Alk D D') (w : Int × Int × List Nat) : Alk D (D'.put w) := by
  unfold Dv.put
  split
  · exact ⟨by rw [List.length_set]; exact a.z0, a.z1, a.l0, a.l1, a.ws⟩
  · exact ⟨a.z0, by rw [List.length_set]; exact a.z1, a.l0, a.l1, a.ws⟩
theorem Alk.steps (kp : Nat → Bool) : ∀ (l : List (Int × Int × List Nat)) (i : Nat) (D D' : Dv), Alk D D' → Alk D (Dv.steps kp i l D')
  | [], i, D, D', a => a
  | w :: l, i, D, D', a => Alk.steps kp l (i + 1) D _ (by
    split
    · exact a.put w
    · exact a)
theorem Alk.len {D D' : Dv} (a : Alk D D') (v : Int) : (D'.s v).length = (D.s v).length := by
  unfold Dv.s
  split
  · exact a.z0
  · exact a.z1
theorem Alk.devB {D D' : Dv} (a : Alk D D') {h : Heap} {b b0 b1 : Nat} {wv : V} (d : DevB h b b0 b1 wv D) : DevB h b b0 b1 wv D' := by
  unfold DevB at d ⊢; rw [a.z0, a.z1, a.l0, a.l1]; exact d
def WsOk (D : Dv) : Prop := ∀ w ∈ D.ws, isDev w.1 = true ∧ 0 ≤ w.2.1 ∧ w.2.1 < (D.s w.1).length
section
variable {C : Cfg} (S : StdO C)
include S
theorem settle_ans (hSm : ∀ f args h v h', C.S f args h = some (some (v, h')) → HM h h') (n : Nat) (h : Heap) (hw : Wf h) (b b0 b1 : Nat) (wv : V) (D : Dv) (d : DevAt n h b b0 b1 wv D) (hok : WsOk D) (hn : D.ws.length ≤ 1000000)
    (fk : Nat) (first caps : List V) (kp : Nat → Bool) (hk : ∀ i h', i < D.ws.length → Chg [b0, b1] h h' → Ans C fk (first ++ [iv i] ++ caps) h' fun r h2 => r = .bool (kp i) ∧ Grow h' h2) :
    Ans C 41 [wv, .func (.func fk) first caps, .func (.func 32) [.ptr (some (b, 0))] []] h fun r h' => Chg [b0, b1] h h' ∧ Cl h' b0 ((Dv.steps kp 0 D.ws D).s0.map V.str) ∧ Cl h' b1 ((Dv.steps kp 0 D.ws D).s1.map V.str) := by
  have hF : C.F 41 = some a41 := S.f rfl
  unfold a41 at hF
  refine Ans.loc hSm (S.s _ _ _ rfl) hF rfl rfl hw (fun h2 g hs2 hg2 => ?_) (fun v h1 hl hr _ => ?_)
  rotate_left
  · exact ⟨Chg.refl hw, hr.2.1.of_get (hl _ (d.S0.lt hw)), hr.2.2.of_get (hl _ (d.S1.lt hw))⟩
  clear hF
  have W2 := (d.grow g).W.sl
  refine WC.seqO ?_
  refine omv rfl <| ols rfl W2.len <| omv rfl (WO.nil (WC.block ?_))
  refine WC.loop (σ := Nat) (fun p => [(1, .func (.func fk) first caps), (2, .func (.func 32) [.ptr (some (b, 0))] []), (8, wv), (9, iv (D.ws.map wC).length), (10, iv p)])
    (fun p h' => p ≤ D.ws.length ∧ Chg [b0, b1] h h' ∧ Cl h' b0 ((Dv.steps kp 0 (D.ws.take p) D).s0.map V.str) ∧ Cl h' b1 ((Dv.steps kp 0 (D.ws.take p) D).s1.map V.str)) (fun p => D.ws.length - p) 0
    (Cov.cons rfl (Cov.cons rfl (Cov.cons rfl (Cov.cons rfl (Cov.cons rfl (Cov.nil _)))))) ⟨Nat.zero_le _, g.chg _, d.S0.grow g, d.S1.grow g⟩ ?_
  rintro p h3 ⟨hp, c3, q0, q1⟩
  refine WC.seqO ?_
  by_cases hlt : p < D.ws.length
  · refine obn rfl rfl (ltT (by simp; omega)) (WO.nil (WC.seq (WC.cond rfl (fun hc => WC.skip ?_) (fun hc => by cases hc))))
    have W3 : Sl h3 3 wv (D.ws.map wC) := (d.W.chg c3 (by simp; exact ⟨d.o0, d.o1⟩)).sl
    have hi : p < (D.ws.map wC).length := by simpa using hlt
    obtain ⟨c, o, i1, i2⟩ := W3.at hi
    have ew : (D.ws.map wC)[p] = wC D.ws[p] := by simp
    rw [ew] at i2
    obtain ⟨o1, o2, o3⟩ := hok _ (List.getElem_mem hlt)
    have ht : D.ws.take (p + 1) = D.ws.take p ++ [D.ws[p]] := List.take_succ_eq_append_getElem hlt
    generalize D.ws[p] = w at *
    refine WC.seq (WC.block (WC.seqO ?_))
    refine omv rfl <| WO.ops (StepK.idxSl rfl rfl i1) <| WO.ops (StepK.loadN rfl i2) <| WO.ops (StepK.alloc) ?_
    have gp := (Grow.refl c3.wf).push (.cells [iv 0, iv 0, .str []] (.tip [] 0 none))
    have c7 : Cl (h3.push (.cells [iv 0, iv 0, .str []] (.tip [] 0 none))) h3.size [iv 0, iv 0, .str []] := Cl.new _ _ _
    change WO C _ _ (h3.push (.cells [iv 0, iv 0, .str []] (.tip [] 0 none))) _
    generalize h3.push (.cells [iv 0, iv 0, .str []] (.tip [] 0 none)) = h4 at *
    obtain ⟨h5, r1, r2, r3, r4⟩ := c7.sets gp.wf (i := 0) (us := wC w) (by simp [wC]) (by simp [wC, V.one, iv])
    have r2' : Cl h5 h3.size (wC w) := by simpa [splice, wC] using r2
    have g35 : Grow h3 h5 := r3.newGrow gp c3.wf (fun x hx => by obtain rfl := List.mem_singleton.1 hx; omega)
    refine omv rfl <| WO.op (StepK.store (v := .agg (wC w)) rfl rfl rfl r1) (WO.nil (WC.seqO ?_))
    refine omv rfl <| omv rfl ?_
    refine WO.call rfl rfl (hk p h5 hlt (c3.growr g35)) ?_
    rintro _ h6 ⟨rfl, g6⟩
    have g36 := g35.trans g6
    have c6 := c3.growr g36
    have r7 := r2'.grow g6
    have alk : Alk D (Dv.steps kp 0 (D.ws.take p) D) := Alk.steps _ _ _ _ _ (Alk.refl D)
    have hl0 : (D.ws.take p).length = p := by simp; omega
    cases hkp : kp p with
    | false =>
      refine WO.nil (WC.cond rfl (fun hc => by cases hc) (fun hc => WC.skip (WC.ops ?_)))
      refine oad rfl rfl (by omega) <| omv rfl (WO.nil ⟨p + 1, ?_, ⟨hlt, c6, ?_, ?_⟩, by omega⟩)
      · exact Cov.cons rfl (Cov.cons rfl (Cov.cons rfl (Cov.cons rfl (Cov.cons (by simp [Env.get, iv]) (Cov.nil _)))))
      · rw [ht, steps_snoc, hl0, Nat.zero_add, hkp]; exact q0.grow g36
      · rw [ht, steps_snoc, hl0, Nat.zero_add, hkp]; exact q1.grow g36
    | true =>
      refine WO.nil (WC.cond rfl (fun hc => WC.ops ?_) (fun hc => by cases hc))
      refine omv rfl <| WO.ops (StepK.loadN rfl (r7.rds rfl)) ?_
      refine WO.call rfl rfl (dput_ans S h6 g36.wf b b0 b1 wv (Dv.steps kp 0 (D.ws.take p) D) (alk.devB (d.B.chg c6 (by simp; exact ⟨d.e0, d.e1⟩))) (q0.grow g36) (q1.grow g36) d.e0 d.e1 d.e2 w.1 w.2.1 w.2.2 o1 o2 (by rw [alk.len]; exact o3)) ?_
      rintro _ h7 ⟨c7', q7, q8⟩
      have c8 : Chg [b0, b1] h h7 := c6.trans c7' hw (fun x hx => .inl hx)
      refine WO.nil (WC.ops ?_)
      refine oad rfl rfl (by omega) <| omv rfl (WO.nil ⟨p + 1, ?_, ⟨hlt, c8, ?_, ?_⟩, by omega⟩)
      · exact Cov.cons rfl (Cov.cons rfl (Cov.cons rfl (Cov.cons rfl (Cov.cons (by simp [Env.get, iv]) (Cov.nil _)))))
      · rw [ht, steps_snoc, hl0, Nat.zero_add, hkp]; exact q7
      · rw [ht, steps_snoc, hl0, Nat.zero_add, hkp]; exact q8
  · obtain rfl : p = D.ws.length := by omega
    refine obn rfl rfl (ltF (by simp)) (WO.nil (WC.seq (WC.cond rfl (fun hc => by cases hc) (fun hc => WC.exit ?_))))
    rw [List.take_length] at q0 q1
    exact ⟨trivial, .tuple [], rfl, fun n => ⟨⟨c3.wf, c3.size, c3.keep⟩, q0, q1⟩⟩
end
end Abs
end Go.Proofs.YtlgbdjlnbnlphaaGreatDoor
namespace Go.Proofs.YtlgbdjlnbnlphaaGreatDoor
namespace Abs
set_option linter.unusedVariables false
set_option linter.unusedSimpArgs false
open Go.RowKit
attribute [local irreducible] WO WC WD StepK Ans Does Runs DoesD

def Dv.done (kp : Nat → Bool) (D : Dv) : Dv := { Dv.steps kp 0 D.ws D with ws := [] }
section
variable {C : Cfg} (S : StdO C)
include S
theorem ddone_ans (hSm : ∀ f args h v h', C.S f args h = some (some (v, h')) → HM h h') (n : Nat) (h : Heap) (hw : Wf h) (b b0 b1 : Nat) (wv : V) (D : Dv) (d : DevAt n h b b0 b1 wv D) (hok : WsOk D) (hn : D.ws.length ≤ 1000000)
    (fk : Nat) (first caps : List V) (kp : Nat → Bool) (hk : ∀ i h', i < D.ws.length → Chg [b0, b1] h h' → Ans C fk (first ++ [iv i] ++ caps) h' fun r h2 => r = .bool (kp i) ∧ Grow h' h2) :
    Ans C 23 [.ptr (some (b, 0)), .func (.func fk) first caps] h fun r h' => r = iv 0 ∧ Chg [b, b0, b1] h h' ∧ DevAt n h' b b0 b1 (.slice none 0 0) (D.done kp) := by
  have hF : C.F 23 = some a23 := S.f rfl
  unfold a23 at hF
  refine Ans.mut (S.s _ _ _ rfl) hF rfl rfl hw fun h2 g hs2 hg2 => ?_
  clear hF
  have d2 := d.grow g
  have hb : b < h.size := by obtain ⟨ty, q⟩ := d.B; exact Wf.lt hw q
  refine WC.seqO (omv rfl (WO.nil (WC.seq (WC.seqO ?_))))
  refine omv rfl <| oeq rfl rfl (t := false) rfl (WO.nil (WC.cond rfl (fun hc => by cases hc) (fun hc => WC.skip (WC.seqO ?_))))
  refine omv rfl <| onk rfl <| ofa rfl <| old rfl (d2.B.rd (i := 4) rfl) <| omv rfl <| omv rfl <| omf rfl rfl ?_
  refine WO.call rfl rfl (settle_ans S hSm n h2 g.wf b b0 b1 wv D d2 hok hn fk first caps kp (fun i h' hi c => hk i h' hi (c.of_same hs2 hg2))) ?_
  rintro _ h3 ⟨c3, q0, q1⟩
  have B3 := d2.B.chg c3 (by simp; exact ⟨d.e0, d.e1⟩)
  obtain ⟨h4, r1, r2, r3, r4⟩ := B3.set c3.wf (i := 4) (by simp) (v := .slice none 0 0) rfl
  refine WO.nil (WC.seqO ?_)
  refine omv rfl <| onk rfl <| ofa rfl <| WO.op (StepK.store rfl rfl rfl r1) (WO.nil (WC.seqO ?_))
  have lo := wr_low r1
  have alk : Alk D (Dv.steps kp 0 D.ws D) := Alk.steps _ _ _ _ _ (Alk.refl D)
  have cc : Chg [b, b0, b1] h h4 := (Chg.trans (F := [b, b0, b1]) (G := [b]) ((c3.of_same hs2 hg2).mono (by simp)) r3 hw (fun x hx => by obtain rfl := List.mem_singleton.1 hx; exact .inl (by simp)))
  refine omv rfl (WO.nil (WC.ret ⟨trivial, iv 0, rfl, by omega, fun m => ⟨rfl, ⟨cc.wf, cc.size, cc.keep⟩, ?_⟩⟩))
  refine ⟨d.nb, d.n0, d.n1, d.e0, d.e1, d.e2, ?_, (q0.chg r3 (by simpa using d.e0.symm)).low m, (q1.chg r3 (by simpa using d.e1.symm)).low m, Grown.nil _ _ _, Off.nil _, Off.nil _, Off.nil _⟩
  have := alk.devB (h := { h4 with low := m }) (b := b) (b0 := b0) (b1 := b1) (wv := .slice none 0 0) (show DevB _ b b0 b1 _ D from r2)
  exact this
theorem dflush1_ans (h : Heap) (hw : Wf h) (i : Int) : Ans C 28 [iv i] h fun r h' => r = .bool true ∧ Grow h h' := by
  have hF : C.F 28 = some a28 := S.f rfl
  unfold a28 at hF
  refine Ans.val (fun _ _ => S.s _ _ _ rfl) hF rfl rfl hw fun h2 g => ?_
  clear hF
  exact WC.seqO (omv rfl (WO.nil (WC.seqO (omv rfl (WO.nil (WC.ret ⟨trivial, g, rfl⟩))))))
theorem dflush_ans (hSm : ∀ f args h v h', C.S f args h = some (some (v, h')) → HM h h') (n : Nat) (h : Heap) (hw : Wf h) (b b0 b1 : Nat) (wv : V) (D : Dv) (d : DevAt n h b b0 b1 wv D) (hok : WsOk D) (hn : D.ws.length ≤ 1000000) :
    Ans C 13 [.ptr (some (b, 0))] h fun r h' => r = iv 0 ∧ Chg [b, b0, b1] h h' ∧ DevAt n h' b b0 b1 (.slice none 0 0) (D.done fun _ => true) := by
  have hF : C.F 13 = some a13 := S.f rfl
  unfold a13 at hF
  have hb : b < h.size := by obtain ⟨ty, q⟩ := d.B; exact Wf.lt hw q
  refine Ans.loc hSm (S.s _ _ _ rfl) hF rfl rfl hw (fun h2 g hs2 hg2 => ?_) (fun v h1 hl hr _ => ?_)
  rotate_left
  · obtain ⟨q1, q2, q3⟩ := hr
    exact ⟨q1, Chg.refl hw, { q3 with B := q3.B.of_get (hl _ hb), S0 := q3.S0.of_get (hl _ (d.S0.lt hw)), S1 := q3.S1.of_get (hl _ (d.S1.lt hw)), W := Grown.nil _ _ _ }⟩
  clear hF
  refine WC.seqO (omv rfl (WO.nil (WC.seqO ?_)))
  refine omv rfl ?_
  refine WO.call rfl rfl (ddone_ans S hSm n h2 g.wf b b0 b1 wv D (d.grow g) hok hn 28 [] [] (fun _ => true) (fun i h' hi c => dflush1_ans S h' c.wf i)) ?_
  rintro _ h3 ⟨rfl, c3, d3⟩
  have c4 := c3.of_same hs2 hg2
  refine omv rfl (WO.nil (WC.ret ⟨trivial, iv 0, rfl, fun m => ⟨rfl, ⟨c4.wf, c4.size, c4.keep⟩, ?_⟩⟩))
  exact { d3 with B := d3.B, S0 := d3.S0, S1 := d3.S1, W := Grown.nil _ _ _ }
end
end Abs
end Go.Proofs.YtlgbdjlnbnlphaaGreatDoor
namespace Go.Proofs.YtlgbdjlnbnlphaaGreatDoor
namespace Abs
set_option linter.unusedVariables false
set_option linter.unusedSimpArgs false
open Go.RowKit
attribute [local irreducible] WO WC WD StepK Ans Does Runs DoesD

theorem reps_str : ∀ n : Nat, reps n [V.str []] = (List.replicate n ([] : List Nat)).map V.str
  | 0 => rfl
  | n + 1 => by
    simp only [reps, List.replicate_succ, List.map_cons, reps_str n]
    rfl
theorem make_strs (h : Heap) (n : Nat) (hn : n ≤ 512) : makeSlA h 1 16 [.str []] (iv n) (iv n) = some (.slice (some (h.size, 0)) n n, h.push (.cells ((List.replicate n ([] : List Nat)).map V.str) (.tip [] 0 none))) := by
  simp only [makeSlA, iv]
  rw [if_pos (by omega), Int.toNat_natCast, reps_str]
def Dv.new (m n : Nat) : Dv := ⟨List.replicate m [], List.replicate n [], false, false, []⟩
section
variable {C : Cfg} (S : StdO C)
include S
theorem dnew_ans (h : Heap) (hw : Wf h) (m n : Nat) (hm1 : 1 ≤ m) (hm2 : m ≤ 512) (hn1 : 1 ≤ n) (hn2 : n ≤ 512) : Ans C 6 [iv m, iv n] h fun r h' => ∃ b b0 b1, r = .ptr (some (b, 0)) ∧ Grow h h' ∧ DevAt h.size h' b b0 b1 (.slice none 0 0) (Dv.new m n) := by
  have hF : C.F 6 = some a6 := S.f rfl
  unfold a6 at hF
  refine Ans.fn (fun _ _ => S.s _ _ _ rfl) hF rfl rfl hw (fun h2 g => ?_)
  clear hF
  refine WC.seqO (omv rfl (WO.nil (WC.seq (WC.seqO ?_))))
  refine omv rfl <| omv rfl <| omn rfl rfl ?_
  have e1 : ¬ ((if (n : Int) < m then (n : Int) else m) < 1) := by split <;> omega
  have e2 : ¬ ((512 : Int) < (if (n : Int) > m then (n : Int) else m)) := by split <;> omega
  refine obn rfl rfl (ltF e1) <| omv rfl <| WO.run rfl <| omv rfl <| WO.run rfl <| omv rfl <| WO.run rfl <| omx rfl rfl <| WO.run rfl <| obn rfl rfl (gtF e2) <| opf rfl rfl <| WO.nil <| WC.cond rfl (fun hc => by cases hc) (fun hc => WC.skip (WC.seqD ?_))
  refine dmv rfl <| WD.alloc rfl (StepK.makeSl rfl rfl (make_strs h2 m hm2)) ?_
  have nA : (h2.push (.cells ((List.replicate m ([] : List Nat)).map V.str) (.tip [] 0 none))).get h2.size = some (.cells ((List.replicate m ([] : List Nat)).map V.str) (.tip [] 0 none)) := get_push_self _ _
  have cA : Cl (h2.push (.cells ((List.replicate m ([] : List Nat)).map V.str) (.tip [] 0 none))) h2.size ((List.replicate m ([] : List Nat)).map V.str) := Cl.new _ _ _
  have gA := g.trans ((Grow.refl g.wf).push (.cells ((List.replicate m ([] : List Nat)).map V.str) (.tip [] 0 none)))
  have z2 := g.size
  have zA : (h2.push (.cells ((List.replicate m ([] : List Nat)).map V.str) (.tip [] 0 none))).size = h2.size + 1 := rfl
  generalize h2.push (.cells ((List.replicate m ([] : List Nat)).map V.str) (.tip [] 0 none)) = hA at *
  generalize h2.size = b0 at *
  refine dmv rfl <| WD.alloc rfl (StepK.makeSl rfl rfl (make_strs hA n hn2)) ?_
  have gb := (Grow.refl gA.wf).push (.cells ((List.replicate n ([] : List Nat)).map V.str) (.tip [] 0 none))
  have nB : (hA.push (.cells ((List.replicate n ([] : List Nat)).map V.str) (.tip [] 0 none))).get hA.size = some (.cells ((List.replicate n ([] : List Nat)).map V.str) (.tip [] 0 none)) := get_push_self _ _
  replace nA := gb.ext _ _ nA
  have cB : Cl (hA.push (.cells ((List.replicate n ([] : List Nat)).map V.str) (.tip [] 0 none))) hA.size ((List.replicate n ([] : List Nat)).map V.str) := Cl.new _ _ _
  have cA' := cA.grow gb
  have gB := gA.trans gb
  have zB : (hA.push (.cells ((List.replicate n ([] : List Nat)).map V.str) (.tip [] 0 none))).size = hA.size + 1 := rfl
  clear gb
  generalize hA.push (.cells ((List.replicate n ([] : List Nat)).map V.str) (.tip [] 0 none)) = hB at *
  generalize hA.size = b1 at *
  refine dbu rfl rfl <| dbu rfl rfl <| WD.alloc rfl (StepK.box rfl) ?_
  change WD C _ _ _ _ (hB.push (.cells [.slice (some (b0, 0)) m m, .slice (some (b1, 0)) n n, .bool false, .bool false, .slice none 0 0] (.tip [] 0 none))) _
  have gc := (Grow.refl gB.wf).push (.cells [.slice (some (b0, 0)) m m, .slice (some (b1, 0)) n n, .bool false, .bool false, .slice none 0 0] (.tip [] 0 none))
  have nC : (hB.push (.cells [.slice (some (b0, 0)) m m, .slice (some (b1, 0)) n n, .bool false, .bool false, .slice none 0 0] (.tip [] 0 none))).get hB.size = some (.cells [.slice (some (b0, 0)) m m, .slice (some (b1, 0)) n n, .bool false, .bool false, .slice none 0 0] (.tip [] 0 none)) := get_push_self _ _
  replace nA := gc.ext _ _ nA
  replace nB := gc.ext _ _ nB
  have cC : Cl (hB.push (.cells [.slice (some (b0, 0)) m m, .slice (some (b1, 0)) n n, .bool false, .bool false, .slice none 0 0] (.tip [] 0 none))) hB.size [.slice (some (b0, 0)) m m, .slice (some (b1, 0)) n n, .bool false, .bool false, .slice none 0 0] := Cl.new _ _ _
  have gC := gB.trans gc
  have cA2 := cA'.grow gc
  have cB2 := cB.grow gc
  clear gc
  generalize hB.push (.cells [.slice (some (b0, 0)) m m, .slice (some (b1, 0)) n n, .bool false, .bool false, .slice none 0 0] (.tip [] 0 none)) = hC at *
  generalize hB.size = b at *
  refine dmv rfl <| WD.nil ⟨nC, nB, nA, trivial⟩ <| WC.ret ⟨trivial, gC.wf, _, rfl, fun h3 g3 => ⟨b, b0, b1, rfl, gC.trans g3, by omega, z2, by omega, by omega, by omega, by omega, ?_, cA2.grow g3, cB2.grow g3, Grown.nil _ _ _, Off.nil _, Off.nil _, Off.nil _⟩, fun hc => ?_⟩
  · have := cC.grow g3
    unfold DevB Dv.new
    simpa using this
  · change (V.ptr (some (b, 0))).scopd h.size = true at hc
    simp [V.scopd] at hc
    omega
end
end Abs
end Go.Proofs.YtlgbdjlnbnlphaaGreatDoor
