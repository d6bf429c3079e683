/- Two devices of sectors: what they have, and what dev's functions answer that change nothing. Two devices of sectors: what Write does. Two devices of sectors: New. The second level: Room, log. For StoreRoom alone: what is read of devices that nothing was written to; a log that is none; small things. -/
import Derived.Test.YtdebiolekbldiaaGreatDoorB14
import Derived.Test.YtdebiolekbldiaaGreatDoorA40
namespace Go.Proofs.YtdebiolekbldiaaGreatDoor
namespace Abs
set_option linter.unusedVariables false
set_option linter.unusedSimpArgs false
open Go.RowKit
attribute [local irreducible] WO WC WD StepK Ans Does Runs DoesD
structure Dv where
 s0 : List (List Nat)
 s1 : List (List Nat)
 l0 : Bool
 l1 : Bool
 ws : List (Int × Int × List Nat)
def Dv.s (D : Dv) (v : Int) : List (List Nat) := if v = 0 then D.s0 else D.s1
def Dv.l (D : Dv) (v : Int) : Bool := if v = 0 then D.l0 else D.l1
def isDev (v : Int) : Bool := decide (v = 0) || decide (v = 1)
def Dv.may (D : Dv) (v a : Int) (n : Nat) : Int := if isDev v = false ∨ a < 0 ∨ ((D.s v).length : Int) ≤ a ∨ 1024 < n then 1 else if D.l v = true then 5 else 0
def DevB (h : Heap) (b b0 b1 : Nat) (wv : V) (D : Dv) : Prop := Cl h b [.slice (some (b0, 0)) D.s0.length D.s0.length, .slice (some (b1, 0)) D.s1.length D.s1.length, .bool D.l0, .bool D.l1, wv]
theorem eqT {a b : Int} (h : a = b) : binA .eql (iv a) (iv b) = some (.bool true) := by subst h; simp [binA, iv]
theorem eqF {a b : Int} (h : a ≠ b) : binA .eql (iv a) (iv b) = some (.bool false) := by simp [binA, iv, h]
theorem ltT {a b : Int} (h : a < b) : binA .lss (iv a) (iv b) = some (.bool true) := by simp [binA, iv, h]
theorem ltF {a b : Int} (h : ¬ a < b) : binA .lss (iv a) (iv b) = some (.bool false) := by simp [binA, iv, h]
theorem geT {a b : Int} (h : b ≤ a) : binA .geq (iv a) (iv b) = some (.bool true) := by simp [binA, iv, h]
theorem geF {a b : Int} (h : ¬ b ≤ a) : binA .geq (iv a) (iv b) = some (.bool false) := by simp [binA, iv]; omega
theorem gtT {a b : Int} (h : b < a) : binA .gtr (iv a) (iv b) = some (.bool true) := by simp [binA, iv, h]
theorem gtF {a b : Int} (h : ¬ b < a) : binA .gtr (iv a) (iv b) = some (.bool false) := by simp [binA, iv]; omega
section
variable {C : Cfg} (S : StdO C)
include S
theorem is_ans (h : Heap) (hw : Wf h) (b : Nat) (v : Int) : Ans C 59 [.ptr (some (b, 0)), iv v] h fun r h' => r = .bool (isDev v) ∧ Grow h h' := by
 have hF : C.F 59 = some a59 := S.f rfl
 unfold a59 at hF
 refine Ans.val (fun _ _ => S.s _ _ _ rfl) hF rfl rfl hw fun h2 g => ?_
 clear hF
 refine WC.seqO (omv rfl (WO.nil (WC.seqO ?_)))
 refine omv rfl <| oeq rfl rfl rfl <| omv rfl <| WO.run rfl <| omv rfl <| WO.run rfl ?_
 by_cases h0 : v = 0
 ·refine obn rfl rfl (eqT h0) ?_
  (repeat (first | refine omv rfl ?_ | refine ols rfl (by first | with_reducible assumption | rfl) ?_ | refine ofa rfl ?_ | refine oad rfl rfl (by omega) ?_ | refine osb rfl rfl (by omega) ?_ | refine obn rfl rfl rfl ?_ | refine opt rfl rfl ?_ | refine opf rfl rfl ?_ | refine ont rfl ?_ | refine oeq rfl rfl rfl ?_ | refine oex rfl rfl ?_ | refine obu rfl rfl ?_ | refine ofd rfl rfl ?_ | refine olt rfl ?_ | refine onk rfl ?_ | refine old rfl (by first | with_reducible assumption | rfl) ?_ | refine WO.run rfl ?_ | refine WO.skip rfl rfl ?_ | refine WO.skipu rfl ?_))
  refine WO.nil (WC.ret ⟨trivial, g, ?_⟩)
  simp [isDev, h0]; rfl
 ·refine obn rfl rfl (eqF h0) <| WO.run rfl <| omv rfl <| WO.run rfl <| omv rfl <| WO.run rfl ?_
  by_cases h1 : v = 1
  ·refine obn rfl rfl (eqT h1) ?_
   (repeat (first | refine omv rfl ?_ | refine ols rfl (by first | with_reducible assumption | rfl) ?_ | refine ofa rfl ?_ | refine oad rfl rfl (by omega) ?_ | refine osb rfl rfl (by omega) ?_ | refine obn rfl rfl rfl ?_ | refine opt rfl rfl ?_ | refine opf rfl rfl ?_ | refine ont rfl ?_ | refine oeq rfl rfl rfl ?_ | refine oex rfl rfl ?_ | refine obu rfl rfl ?_ | refine ofd rfl rfl ?_ | refine olt rfl ?_ | refine onk rfl ?_ | refine old rfl (by first | with_reducible assumption | rfl) ?_ | refine WO.run rfl ?_ | refine WO.skip rfl rfl ?_ | refine WO.skipu rfl ?_))
   refine WO.nil (WC.ret ⟨trivial, g, ?_⟩)
   simp [isDev, h1]; rfl
  ·refine obn rfl rfl (eqF h1) ?_
   (repeat (first | refine omv rfl ?_ | refine ols rfl (by first | with_reducible assumption | rfl) ?_ | refine ofa rfl ?_ | refine oad rfl rfl (by omega) ?_ | refine osb rfl rfl (by omega) ?_ | refine obn rfl rfl rfl ?_ | refine opt rfl rfl ?_ | refine opf rfl rfl ?_ | refine ont rfl ?_ | refine oeq rfl rfl rfl ?_ | refine oex rfl rfl ?_ | refine obu rfl rfl ?_ | refine ofd rfl rfl ?_ | refine olt rfl ?_ | refine onk rfl ?_ | refine old rfl (by first | with_reducible assumption | rfl) ?_ | refine WO.run rfl ?_ | refine WO.skip rfl rfl ?_ | refine WO.skipu rfl ?_))
   refine WO.nil (WC.ret ⟨trivial, g, ?_⟩)
   simp [isDev, h0, h1]; rfl
theorem size_ans (h : Heap) (hw : Wf h) (b b0 b1 : Nat) (wv : V) (D : Dv) (hb : DevB h b b0 b1 wv D) (v : Int) : Ans C 49 [.ptr (some (b, 0)), iv v] h fun r h' => r = iv (if isDev v then (D.s v).length else 0) ∧ Grow h h' := by
 have hF : C.F 49 = some a49 := S.f rfl
 unfold a49 at hF
 refine Ans.val (fun _ _ => S.s _ _ _ rfl) hF rfl rfl hw fun h2 g => ?_
 clear hF
 have hb2 : DevB h2 b b0 b1 wv D := hb.grow g
 refine WC.seqO (omv rfl (WO.nil (WC.seq (WC.seqO ?_))))
 refine omv rfl <| omv rfl ?_
 refine WO.call rfl rfl (is_ans S h2 g.wf b v) ?_
 rintro _ h3 ⟨rfl, g3⟩
 have hb3 : DevB h3 b b0 b1 wv D := hb2.grow g3
 cases hv : isDev v with
 | false =>
  refine ont rfl (WO.nil (WC.cond rfl (fun hc => ?_) (fun hc => by cases hc)))
  refine WC.seqO (omv rfl (WO.nil (WC.ret ⟨trivial, g.trans g3, ?_⟩)))
  rfl
 | true =>
  refine ont rfl (WO.nil (WC.cond rfl (fun hc => by cases hc) (fun hc => WC.skip (WC.seqO ?_))))
  have hv' : v = 0 ∨ v = 1 := by simpa [isDev] using hv
  rcases hv' with rfl | rfl
  ·refine omv rfl <| omv rfl <| onk rfl <| ofa rfl <| WO.ops (StepK.idxArr rfl rfl (idx_at (n := 2) (j := 0) rfl (by omega) rfl)) <| old rfl (hb3.rd (i := 0) rfl) ?_
   refine ols rfl rfl <| omv rfl (WO.nil (WC.ret ⟨trivial, g.trans g3, ?_⟩))
   rfl
  ·refine omv rfl <| omv rfl <| onk rfl <| ofa rfl <| WO.ops (StepK.idxArr rfl rfl (idx_at (n := 2) (j := 1) rfl (by omega) rfl)) <| old rfl (hb3.rd (i := 1) rfl) ?_
   refine ols rfl rfl <| omv rfl (WO.nil (WC.ret ⟨trivial, g.trans g3, ?_⟩))
   rfl
theorem lost_ans (h : Heap) (hw : Wf h) (b b0 b1 : Nat) (wv : V) (D : Dv) (hb : DevB h b b0 b1 wv D) (v : Int) : Ans C 80 [.ptr (some (b, 0)), iv v] h fun r h' => r = .bool (isDev v && D.l v) ∧ Grow h h' := by
 have hF : C.F 80 = some a80 := S.f rfl
 unfold a80 at hF
 refine Ans.val (fun _ _ => S.s _ _ _ rfl) hF rfl rfl hw fun h2 g => ?_
 clear hF
 have hb2 : DevB h2 b b0 b1 wv D := hb.grow g
 refine WC.seqO (omv rfl (WO.nil (WC.seqO ?_)))
 refine omv rfl <| omv rfl ?_
 refine WO.call rfl rfl (is_ans S h2 g.wf b v) ?_
 rintro _ h3 ⟨rfl, g3⟩
 have hb3 : DevB h3 b b0 b1 wv D := hb2.grow g3
 cases hv : isDev v with
 | false =>
  (repeat (first | refine omv rfl ?_ | refine ols rfl (by first | with_reducible assumption | rfl) ?_ | refine ofa rfl ?_ | refine oad rfl rfl (by omega) ?_ | refine osb rfl rfl (by omega) ?_ | refine obn rfl rfl rfl ?_ | refine opt rfl rfl ?_ | refine opf rfl rfl ?_ | refine ont rfl ?_ | refine oeq rfl rfl rfl ?_ | refine oex rfl rfl ?_ | refine obu rfl rfl ?_ | refine ofd rfl rfl ?_ | refine olt rfl ?_ | refine onk rfl ?_ | refine old rfl (by first | with_reducible assumption | rfl) ?_ | refine WO.run rfl ?_ | refine WO.skip rfl rfl ?_ | refine WO.skipu rfl ?_))
  refine WO.nil (WC.ret ⟨trivial, g.trans g3, rfl⟩)
 | true =>
  have hv' : v = 0 ∨ v = 1 := by simpa [isDev] using hv
  rcases hv' with rfl | rfl
  ·refine omv rfl <| WO.run rfl <| omv rfl <| WO.run rfl <| omv rfl <| WO.run rfl <| onk rfl <| WO.run rfl <| ofa rfl <| WO.run rfl <| WO.ops (StepK.idxArr rfl rfl (show _ = some (V.ptr (some (b, 2))) from rfl)) <| WO.run rfl <| old rfl (hb3.rd (i := 2) rfl) ?_
   (repeat (first | refine omv rfl ?_ | refine ols rfl (by first | with_reducible assumption | rfl) ?_ | refine ofa rfl ?_ | refine oad rfl rfl (by omega) ?_ | refine osb rfl rfl (by omega) ?_ | refine obn rfl rfl rfl ?_ | refine opt rfl rfl ?_ | refine opf rfl rfl ?_ | refine ont rfl ?_ | refine oeq rfl rfl rfl ?_ | refine oex rfl rfl ?_ | refine obu rfl rfl ?_ | refine ofd rfl rfl ?_ | refine olt rfl ?_ | refine onk rfl ?_ | refine old rfl (by first | with_reducible assumption | rfl) ?_ | refine WO.run rfl ?_ | refine WO.skip rfl rfl ?_ | refine WO.skipu rfl ?_))
   refine WO.nil (WC.ret ⟨trivial, g.trans g3, ?_⟩)
   rfl
  ·refine omv rfl <| WO.run rfl <| omv rfl <| WO.run rfl <| omv rfl <| WO.run rfl <| onk rfl <| WO.run rfl <| ofa rfl <| WO.run rfl <| WO.ops (StepK.idxArr rfl rfl (show _ = some (V.ptr (some (b, 3))) from rfl)) <| WO.run rfl <| old rfl (hb3.rd (i := 3) rfl) ?_
   (repeat (first | refine omv rfl ?_ | refine ols rfl (by first | with_reducible assumption | rfl) ?_ | refine ofa rfl ?_ | refine oad rfl rfl (by omega) ?_ | refine osb rfl rfl (by omega) ?_ | refine obn rfl rfl rfl ?_ | refine opt rfl rfl ?_ | refine opf rfl rfl ?_ | refine ont rfl ?_ | refine oeq rfl rfl rfl ?_ | refine oex rfl rfl ?_ | refine obu rfl rfl ?_ | refine ofd rfl rfl ?_ | refine olt rfl ?_ | refine onk rfl ?_ | refine old rfl (by first | with_reducible assumption | rfl) ?_ | refine WO.run rfl ?_ | refine WO.skip rfl rfl ?_ | refine WO.skipu rfl ?_))
   refine WO.nil (WC.ret ⟨trivial, g.trans g3, ?_⟩)
   rfl
theorem may_ans (h : Heap) (hw : Wf h) (b b0 b1 : Nat) (wv : V) (D : Dv) (hb : DevB h b b0 b1 wv D) (v a : Int) (s : List Nat) : Ans C 55 [.ptr (some (b, 0)), .agg [iv v, iv a], .str s] h fun r h' => r = iv (D.may v a s.length) ∧ Grow h h' := by
 have hF : C.F 55 = some a55 := S.f rfl
 unfold a55 at hF
 refine Ans.val (fun _ _ => S.s _ _ _ rfl) hF rfl rfl hw fun h2 g => ?_
 clear hF
 refine WC.seqO (WO.ops (StepK.box rfl) ?_)
 have gp := (Grow.refl g.wf).push (.cells [iv v, iv a] (.tip [] 0 none))
 have hq : Cl (h2.push (.cells [iv v, iv a] (.tip [] 0 none))) h2.size [iv v, iv a] := Cl.new _ _ _
 have g3 := g.trans gp
 change WO C _ _ (h2.push (.cells [iv v, iv a] (.tip [] 0 none))) _
 generalize h2.push (.cells [iv v, iv a] (.tip [] 0 none)) = h3 at *
 generalize h2.size = p at *
 have hb3 : DevB h3 b b0 b1 wv D := hb.grow g3
 refine omv rfl (WO.nil (WC.seq (WC.block (WC.seqD ?_))))
 have r0 : h3.rd p (0 + 0) = some (iv v) := hq.rd rfl
 refine dmv rfl <| dfa rfl <| WD.load1 rfl r0 ?_
 refine WD.call (by repeat (first | exact trivial | refine ⟨by with_reducible assumption, ?_⟩)) rfl rfl (is_ans S h3 g3.wf b v) ?_
 rintro _ h4 ⟨rfl, g4⟩
 have g34 := g3.trans g4
 have r0' : h4.rd p (0 + 0) = some (iv v) := g4.rd r0
 have r1' : h4.rd p (0 + 1) = some (iv a) := g4.rd (hq.rd rfl)
 have hb4 : DevB h4 b b0 b1 wv D := hb3.grow g4
 have bad : D.may v a s.length = 1 → ∀ (e' : List (Nat × V)), Env.get e' 7 = some (.bool true) → ∀ {A B : AC} {Q : Ex → List (Nat × V) → Heap → Prop}, (∀ e'', Env.get e'' 6 = some (iv 1) → Q .ret e'' h4) →
   WC C (.cond (.t 7) (.seq (.ops [⟨some 6, none, .mv (.c (.int .i64 1))⟩]) .ret) B) e' h4 Q := by
  intro hm e' he A B Q hQ
  exact WC.cond he (fun _ => WC.seqO (omv rfl (WO.nil (WC.ret (hQ _ rfl))))) (fun hc => by cases hc)
 have out : D.may v a s.length = 1 → ∀ e'', Env.get e'' 6 = some (iv 1) → Fin .ret ∧ Grow h h4 ∧ retE e'' h4 [.tmp 6] = some (iv (D.may v a s.length)) := by
  intro hm e'' he
  refine ⟨trivial, g34, ?_⟩
  rw [hm]
  simp only [retE, ressE, resE, he]; rfl
 cases hv : isDev v with
 | false =>
  have hm : D.may v a s.length = 1 := by simp [Dv.may, hv]
  (repeat (first | refine dmv rfl ?_ | refine dls rfl (by first | with_reducible assumption | rfl) ?_ | refine dfa rfl ?_ | refine dad rfl rfl (by omega) ?_ | refine dsb rfl rfl (by omega) ?_ | refine dbn rfl rfl rfl ?_ | refine dpt rfl rfl ?_ | refine dpf rfl rfl ?_ | refine dnt rfl ?_ | refine deq rfl rfl rfl ?_ | refine dex rfl rfl ?_ | refine dbu rfl rfl ?_ | refine dfd rfl rfl ?_ | refine dlt rfl ?_ | refine dnk rfl ?_ | refine WD.load1 rfl (by first | with_reducible assumption | rfl) ?_ | refine WD.run rfl ?_ | refine WD.skipn rfl rfl rfl ?_ | refine WD.skipun rfl rfl ?_))
  exact WD.nil (by repeat (first | exact trivial | refine ⟨by with_reducible assumption, ?_⟩)) (bad hm _ rfl (A := .skip) (out hm))
 | true =>
  refine dnt rfl <| dmv rfl <| WD.run rfl <| dfa rfl <| WD.run rfl <| WD.load1 rfl r1' <| WD.run rfl ?_
  by_cases ha : a < 0
  ·have hm : D.may v a s.length = 1 := by simp [Dv.may, ha]
   refine dbn rfl rfl (ltT ha) ?_
   (repeat (first | refine dmv rfl ?_ | refine dls rfl (by first | with_reducible assumption | rfl) ?_ | refine dfa rfl ?_ | refine dad rfl rfl (by omega) ?_ | refine dsb rfl rfl (by omega) ?_ | refine dbn rfl rfl rfl ?_ | refine dpt rfl rfl ?_ | refine dpf rfl rfl ?_ | refine dnt rfl ?_ | refine deq rfl rfl rfl ?_ | refine dex rfl rfl ?_ | refine dbu rfl rfl ?_ | refine dfd rfl rfl ?_ | refine dlt rfl ?_ | refine dnk rfl ?_ | refine WD.load1 rfl (by first | with_reducible assumption | rfl) ?_ | refine WD.run rfl ?_ | refine WD.skipn rfl rfl rfl ?_ | refine WD.skipun rfl rfl ?_))
   exact WD.nil (by repeat (first | exact trivial | refine ⟨by with_reducible assumption, ?_⟩)) (bad hm _ rfl (A := .skip) (out hm))
  refine dbn rfl rfl (ltF ha) <| dpf rfl rfl <| dmv rfl <| WD.run rfl <| dfa rfl <| WD.run rfl <| WD.load1 rfl r1' <| WD.run rfl <| dmv rfl <| WD.run rfl <| dfa rfl <| WD.run rfl <| WD.load1 rfl r0' <| WD.run rfl <| dnk rfl <| WD.run rfl <| dfa rfl <| WD.run rfl ?_
  obtain ⟨k, c, n, k2, i1, i2, hn, i3, i4⟩ : ∃ k c n k2, idxArrA 2 1 (.ptr (some (b, 0 + 0))) (iv v) = some (.ptr (some (b, k))) ∧ h4.rd b k = some (.slice (some (c, 0)) n n) ∧ n = (D.s v).length ∧ idxArrA 2 1 (.ptr (some (b, 0 + 2))) (iv v) = some (.ptr (some (b, k2))) ∧ h4.rd b k2 = some (.bool (D.l v)) := by
   have hv' : v = 0 ∨ v = 1 := by simpa [isDev] using hv
   rcases hv' with rfl | rfl
   ·exact ⟨0, b0, _, 2, rfl, hb4.rd (i := 0) rfl, rfl, rfl, hb4.rd (i := 2) rfl⟩
   ·exact ⟨1, b1, _, 3, rfl, hb4.rd (i := 1) rfl, rfl, rfl, hb4.rd (i := 3) rfl⟩
  refine WD.pure (StepK.idxArr rfl rfl i1) rfl <| WD.run rfl <| WD.load1 rfl i2 <| WD.run rfl <| dls rfl rfl <| WD.run rfl ?_
  by_cases hl : (n : Int) ≤ a
  ·have hm : D.may v a s.length = 1 := by
    have : ((D.s v).length : Int) ≤ a := by omega
    simp [Dv.may, this]
   refine dbn rfl rfl (geT hl) ?_
   (repeat (first | refine dmv rfl ?_ | refine dls rfl (by first | with_reducible assumption | rfl) ?_ | refine dfa rfl ?_ | refine dad rfl rfl (by omega) ?_ | refine dsb rfl rfl (by omega) ?_ | refine dbn rfl rfl rfl ?_ | refine dpt rfl rfl ?_ | refine dpf rfl rfl ?_ | refine dnt rfl ?_ | refine deq rfl rfl rfl ?_ | refine dex rfl rfl ?_ | refine dbu rfl rfl ?_ | refine dfd rfl rfl ?_ | refine dlt rfl ?_ | refine dnk rfl ?_ | refine WD.load1 rfl (by first | with_reducible assumption | rfl) ?_ | refine WD.run rfl ?_ | refine WD.skipn rfl rfl rfl ?_ | refine WD.skipun rfl rfl ?_))
   exact WD.nil (by repeat (first | exact trivial | refine ⟨by with_reducible assumption, ?_⟩)) (bad hm _ rfl (A := .skip) (out hm))
  refine dbn rfl rfl (geF hl) <| dpf rfl rfl <| dmv rfl <| WD.run rfl <| dmv rfl <| WD.run rfl <| dlt rfl <| WD.run rfl ?_
  by_cases hs : (1024 : Int) < s.length
  ·have hm : D.may v a s.length = 1 := by
    have : 1024 < s.length := by omega
    simp [Dv.may, this]
   refine dbn rfl rfl (gtT hs) ?_
   (repeat (first | refine dmv rfl ?_ | refine dls rfl (by first | with_reducible assumption | rfl) ?_ | refine dfa rfl ?_ | refine dad rfl rfl (by omega) ?_ | refine dsb rfl rfl (by omega) ?_ | refine dbn rfl rfl rfl ?_ | refine dpt rfl rfl ?_ | refine dpf rfl rfl ?_ | refine dnt rfl ?_ | refine deq rfl rfl rfl ?_ | refine dex rfl rfl ?_ | refine dbu rfl rfl ?_ | refine dfd rfl rfl ?_ | refine dlt rfl ?_ | refine dnk rfl ?_ | refine WD.load1 rfl (by first | with_reducible assumption | rfl) ?_ | refine WD.run rfl ?_ | refine WD.skipn rfl rfl rfl ?_ | refine WD.skipun rfl rfl ?_))
   exact WD.nil (by repeat (first | exact trivial | refine ⟨by with_reducible assumption, ?_⟩)) (bad hm _ rfl (A := .skip) (out hm))
  refine dbn rfl rfl (gtF hs) <| dpf rfl rfl <| dmv rfl ?_
  have hm : D.may v a s.length = if D.l v = true then 5 else 0 := by
   unfold Dv.may
   rw [if_neg]
   rintro (q | q | q | q)
   ·rw [hv] at q; cases q
   ·exact ha q
   ·rw [← hn] at q; exact hl q
   ·omega
  refine WD.nil (by repeat (first | exact trivial | refine ⟨by with_reducible assumption, ?_⟩)) (WC.cond rfl (fun hc => by cases hc) (fun hc => WC.seqD ?_))
  refine dmv rfl <| dfa rfl <| WD.load1 rfl r0' <| dnk rfl <| dfa rfl <| WD.pure (StepK.idxArr rfl rfl i3) rfl <| WD.load1 rfl i4 <| dmv rfl ?_
  cases hL : D.l v with
  | true =>
   rw [hL] at i4
   refine WD.nil (by repeat (first | exact trivial | refine ⟨by with_reducible assumption, ?_⟩)) (WC.cond rfl (fun hc => WC.seqO (omv rfl (WO.nil (WC.ret ⟨trivial, g34, ?_⟩)))) (fun hc => by cases hc))
   rw [hm, if_pos hL]; rfl
  | false =>
   rw [hL] at i4
   refine WD.nil (by repeat (first | exact trivial | refine ⟨by with_reducible assumption, ?_⟩)) (WC.cond rfl (fun hc => by cases hc) (fun hc => WC.skip (WC.seqO (omv rfl (WO.nil (WC.ret ⟨trivial, g34, ?_⟩))))))
   rw [hm, if_neg (by rw [hL]; decide)]; rfl
end
end Abs
end Go.Proofs.YtdebiolekbldiaaGreatDoor
namespace Go.Proofs.YtdebiolekbldiaaGreatDoor
namespace Abs
set_option linter.unusedVariables false
set_option linter.unusedSimpArgs false
open Go.RowKit
attribute [local irreducible] WO WC WD StepK Ans Does Runs DoesD
def wC (w : Int × Int × List Nat) : List V := [iv w.1, iv w.2.1, .str w.2.2]
structure DevAt (n : Nat) (h : Heap) (b b0 b1 : Nat) (wv : V) (D : Dv) : Prop where
 nb : n ≤ b
 n0 : n ≤ b0
 n1 : n ≤ b1
 e0 : b ≠ b0
 e1 : b ≠ b1
 e2 : b0 ≠ b1
 B : DevB h b b0 b1 wv D
 S0 : Cl h b0 (D.s0.map V.str)
 S1 : Cl h b1 (D.s1.map V.str)
 W : Grown h n 3 wv (D.ws.map wC)
 ob : Off wv b
 o0 : Off wv b0
 o1 : Off wv b1
theorem DevAt.grow {n : Nat} {h h' : Heap} {b b0 b1 : Nat} {wv : V} {D : Dv} (d : DevAt n h b b0 b1 wv D) (g : Grow h h') : DevAt n h' b b0 b1 wv D :=
 { d with B := d.B.grow g, S0 := d.S0.grow g, S1 := d.S1.grow g, W := d.W.grow g }
structure DFr (h h' : Heap) (F : List Nat) (wv wv' : V) : Prop where
 size : h.size ≤ h'.size
 keep : ∀ x o, h.get x = some o → x ∉ F → Off wv x → h'.get x = some o
 off : ∀ x, x < h.size → Off wv x → Off wv' x
theorem roomyW {n : Nat} (h : n ≤ 1000000000) : roomy n 32 = true := by
 unfold roomy; exact decide_eq_true (by omega)
theorem one_cells {w : V} (h : V.one w = true) : w.cellsOf = [w] := by cases w <;> first | rfl | cases h
theorem wr_low {h h' : Heap} {b o : Nat} {vs : List V} (hw : h.wr b o vs = some h') : h'.low ≤ b := by
 unfold Heap.wr at hw
 split at hw
 ·split at hw
  ·cases hw; exact Nat.min_le_right _ _
  ·cases hw
 ·cases hw
theorem append_size {h h' : Heap} {sz bytes : Nat} {tyK : Option Nat} {x y v : V} (hx : appendA h sz bytes tyK x y = some (v, h')) : h.size ≤ h'.size := by
 unfold appendA at hx
 split at hx
 ·split at hx
  ·split at hx
   ·exact (HM.core hx).size
   ·cases hx
  ·cases hx
 ·cases hx
section
variable {C : Cfg} (S : StdO C)
include S
theorem write_ok (hB h : Heap) (hw0 : Wf hB) (gB : Grow hB h) (b b0 b1 : Nat) (wv : V) (D : Dv) (d : DevAt hB.size h b b0 b1 wv D) (v a : Int) (s : List Nat) (hm : D.may v a s.length = 0) (hn : D.ws.length ≤ 1000000) :
  Ans C 106 [.ptr (some (b, 0)), .agg [iv v, iv a], .str s] h fun r h' => r = iv 0 ∧ Grow hB h' ∧ ∃ wv', DevAt hB.size h' b b0 b1 wv' { D with ws := D.ws ++ [(v, a, s)] } ∧ DFr h h' [b] wv wv' := by
 have hw := gB.wf
 have hF : C.F 106 = some a106 := S.f rfl
 unfold a106 at hF
 refine Ans.mut (S.s _ _ _ rfl) hF rfl rfl hw fun h2 g hs2 hg2 => ?_
 clear hF
 refine WC.seqO (WO.ops (StepK.box rfl) ?_)
 have gp := (Grow.refl g.wf).push (.cells [iv v, iv a] (.tip [] 0 none))
 have hq : Cl (h2.push (.cells [iv v, iv a] (.tip [] 0 none))) h2.size [iv v, iv a] := Cl.new _ _ _
 have g3 := g.trans gp
 change WO C _ _ (h2.push (.cells [iv v, iv a] (.tip [] 0 none))) _
 generalize h2.push (.cells [iv v, iv a] (.tip [] 0 none)) = h3 at *
 have hp2 : h2.size = h.size := hs2
 generalize h2.size = p at *
 refine omv rfl (WO.nil (WC.seqO ?_))
 refine omv rfl <| WO.ops (StepK.loadN rfl (hq.rds rfl)) <| omv rfl ?_
 refine WO.call rfl rfl (may_ans S h3 g3.wf b b0 b1 wv D (d.B.grow g3) v a s) ?_
 rintro _ h4 ⟨rfl, g4⟩
 rw [hm]
 refine omv rfl (WO.nil (WC.seq (WC.seqO ?_)))
 refine omv rfl <| obn rfl rfl (eqT rfl) (WO.nil (WC.cond rfl (fun hc => WC.draw ?_) (fun hc => by cases hc)))
 have g34 := g3.trans g4
 have d4 := d.grow g34
 have hq4 := hq.grow g4
 have r4 : h4.rd b (0 + 4) = some wv := d4.B.rd rfl
 have q4 : h4.rds p 0 2 = some [iv v, iv a] := hq4.rds rfl
 refine dmv rfl <| dmv rfl <| dnk rfl <| dfa rfl <| WD.load1 rfl r4 <| WD.loadN rfl q4 <| dmv rfl <| dbu rfl rfl ?_
 refine WD.alloc rfl (StepK.buildSl rfl rfl) ?_
 have gp5 := (Grow.refl g4.wf).push (.cells [iv v, iv a, .str s] (.tip [] 0 none))
 have hnew : (h4.push (.cells [iv v, iv a, .str s] (.tip [] 0 none))).get h4.size = some (.cells [iv v, iv a, .str s] (.tip [] 0 none)) := get_push_self _ _
 change WD C _ _ _ _ (h4.push (.cells [iv v, iv a, .str s] (.tip [] 0 none))) _
 have g5 := g34.trans gp5
 have d5 := d4.grow gp5
 have r5 := gp5.rd r4
 have q5 := gp5.rds q4
 generalize h4.push (.cells [iv v, iv a, .str s] (.tip [] 0 none)) = h5 at *
 have gB5 := gB.trans g5
 obtain ⟨w, h6, u1, u2, u3, u4, u5⟩ := Grown.append2 (bytes := 32) (tyK := none) hw0 gB5 d5.W (sl_one hnew rfl) (by decide) (by decide) (roomyW (by simp; omega)) (fun c hc x hx => by
  obtain rfl := List.mem_singleton.1 hc
  simp only [List.mem_cons, List.not_mem_nil, or_false] at hx
  rcases hx with rfl | rfl | rfl <;> rfl)
 have hb5 : b < h5.size := by obtain ⟨ty, q⟩ := d5.B; exact Wf.lt g5.wf q
 have hb0 : b < h.size := by obtain ⟨ty, q⟩ := d.B; exact Wf.lt hw q
 refine WD.opC ⟨hnew, q5, r5, trivial⟩ rfl (StepK.append rfl rfl u1) ?_
 refine dnk rfl <| dfa rfl ?_
 obtain ⟨h7, s1, s2, s3, s4⟩ := (Cl.frm d5.B u4 d5.ob).set u3.wf (i := 4) (by simp) (v := w) u2.one
 have s1' : h6.wr b (0 + 4) w.cellsOf = some h7 := by rw [one_cells u2.one]; exact s1
 refine WD.opC (by repeat (first | exact trivial | refine ⟨by with_reducible assumption, ?_⟩)) rfl (StepK.store rfl rfl (by rw [one_cells u2.one]; rfl) s1') ?_
 refine WD.nil (by repeat (first | exact trivial | refine ⟨by with_reducible assumption, ?_⟩)) (WC.seqO (omv rfl <| omv rfl (WO.nil (WC.ret ⟨trivial, iv 0, rfl, ?_, fun n => ⟨rfl, ?_, w, ?_, ?_⟩⟩))))
 ·have := wr_low s1; omega
 ·exact (s3.newGrow u3 hw0 (fun x hx => by obtain rfl := List.mem_singleton.1 hx; exact d.nb)).low1 n
 ·have ow : Off w b := u5 b hb5 d5.ob
  have lt : ∀ {x cs}, Cl h5 x cs → x < h5.size := fun c => by obtain ⟨ty, q⟩ := c; exact Wf.lt g5.wf q
  have S0' : Cl h7 b0 (D.s0.map V.str) := (Cl.frm d5.S0 u4 d5.o0).chg s3 (by simpa using d.e0.symm)
  have S1' : Cl h7 b1 (D.s1.map V.str) := (Cl.frm d5.S1 u4 d5.o1).chg s3 (by simpa using d.e1.symm)
  refine ⟨d.nb, d.n0, d.n1, d.e0, d.e1, d.e2, s2, S0', S1', ?_, ow, u5 _ (lt d5.S0) d5.o0, u5 _ (lt d5.S1) d5.o1⟩
  have := u2.chg s3 (fun x hx => by obtain rfl := List.mem_singleton.1 hx; exact ow)
  simp only [List.map_append, List.map_cons, List.map_nil]
  exact this
 ·refine ⟨?_, fun x o q1 q2 q3 => ?_, fun x q1 q2 => u5 x (Nat.lt_of_lt_of_le q1 g5.size) q2⟩
  ·exact Nat.le_trans (Nat.le_trans g5.size (by
    have := u4; exact append_size u1)) s3.size
  ·exact s3.keep x o q2 (u4 x o (g5.ext x o q1) q3)
end
end Abs
end Go.Proofs.YtdebiolekbldiaaGreatDoor
namespace Go.Proofs.YtdebiolekbldiaaGreatDoor
namespace Abs
set_option linter.unusedVariables false
set_option linter.unusedSimpArgs false
open Go.RowKit
attribute [local irreducible] WO WC WD StepK Ans Does Runs DoesD
theorem reps_str : ∀ n : Nat, reps n [V.str []] = (List.replicate n ([] : List Nat)).map V.str
 | 0 => rfl
 | n + 1 => by
  simp only [reps, List.replicate_succ, List.map_cons, reps_str n]
  rfl
theorem make_strs (h : Heap) (n : Nat) (hn : n ≤ 512) : makeSlA h 1 16 [.str []] (iv n) (iv n) = some (.slice (some (h.size, 0)) n n, h.push (.cells ((List.replicate n ([] : List Nat)).map V.str) (.tip [] 0 none))) := by
 simp only [makeSlA, iv]
 rw [if_pos (by omega), Int.toNat_natCast, reps_str]
def Dv.new (m n : Nat) : Dv := ⟨List.replicate m [], List.replicate n [], false, false, []⟩
section
variable {C : Cfg} (S : StdO C)
include S
theorem dnew_ans (h : Heap) (hw : Wf h) (m n : Nat) (hm1 : 1 ≤ m) (hm2 : m ≤ 512) (hn1 : 1 ≤ n) (hn2 : n ≤ 512) : Ans C 28 [iv m, iv n] h fun r h' => ∃ b b0 b1, r = .ptr (some (b, 0)) ∧ Grow h h' ∧ DevAt h.size h' b b0 b1 (.slice none 0 0) (Dv.new m n) := by
 have hF : C.F 28 = some a28 := S.f rfl
 unfold a28 at hF
 refine Ans.fn (fun _ _ => S.s _ _ _ rfl) hF rfl rfl hw (fun h2 g => ?_)
 clear hF
 refine WC.seqO (omv rfl (WO.nil (WC.seq (WC.seqO ?_))))
 refine omv rfl <| omv rfl <| omn rfl rfl ?_
 have e1 : ¬ ((if (n : Int) < m then (n : Int) else m) < 1) := by split <;> omega
 have e2 : ¬ ((512 : Int) < (if (n : Int) > m then (n : Int) else m)) := by split <;> omega
 refine obn rfl rfl (ltF e1) <| omv rfl <| WO.run rfl <| omv rfl <| WO.run rfl <| omv rfl <| WO.run rfl <| omx rfl rfl <| WO.run rfl <| obn rfl rfl (gtF e2) <| opf rfl rfl <| WO.nil <| WC.cond rfl (fun hc => by cases hc) (fun hc => WC.skip (WC.seqD ?_))
 refine dmv rfl <| WD.alloc rfl (StepK.makeSl rfl rfl (make_strs h2 m hm2)) ?_
 have nA : (h2.push (.cells ((List.replicate m ([] : List Nat)).map V.str) (.tip [] 0 none))).get h2.size = some (.cells ((List.replicate m ([] : List Nat)).map V.str) (.tip [] 0 none)) := get_push_self _ _
 have cA : Cl (h2.push (.cells ((List.replicate m ([] : List Nat)).map V.str) (.tip [] 0 none))) h2.size ((List.replicate m ([] : List Nat)).map V.str) := Cl.new _ _ _
 have gA := g.trans ((Grow.refl g.wf).push (.cells ((List.replicate m ([] : List Nat)).map V.str) (.tip [] 0 none)))
 have z2 := g.size
 have zA : (h2.push (.cells ((List.replicate m ([] : List Nat)).map V.str) (.tip [] 0 none))).size = h2.size + 1 := rfl
 generalize h2.push (.cells ((List.replicate m ([] : List Nat)).map V.str) (.tip [] 0 none)) = hA at *
 generalize h2.size = b0 at *
 refine dmv rfl <| WD.alloc rfl (StepK.makeSl rfl rfl (make_strs hA n hn2)) ?_
 have gb := (Grow.refl gA.wf).push (.cells ((List.replicate n ([] : List Nat)).map V.str) (.tip [] 0 none))
 have nB : (hA.push (.cells ((List.replicate n ([] : List Nat)).map V.str) (.tip [] 0 none))).get hA.size = some (.cells ((List.replicate n ([] : List Nat)).map V.str) (.tip [] 0 none)) := get_push_self _ _
 replace nA := gb.ext _ _ nA
 have cB : Cl (hA.push (.cells ((List.replicate n ([] : List Nat)).map V.str) (.tip [] 0 none))) hA.size ((List.replicate n ([] : List Nat)).map V.str) := Cl.new _ _ _
 have cA' := cA.grow gb
 have gB := gA.trans gb
 have zB : (hA.push (.cells ((List.replicate n ([] : List Nat)).map V.str) (.tip [] 0 none))).size = hA.size + 1 := rfl
 clear gb
 generalize hA.push (.cells ((List.replicate n ([] : List Nat)).map V.str) (.tip [] 0 none)) = hB at *
 generalize hA.size = b1 at *
 refine dbu rfl rfl <| dbu rfl rfl <| WD.alloc rfl (StepK.box rfl) ?_
 change WD C _ _ _ _ (hB.push (.cells [.slice (some (b0, 0)) m m, .slice (some (b1, 0)) n n, .bool false, .bool false, .slice none 0 0] (.tip [] 0 none))) _
 have gc := (Grow.refl gB.wf).push (.cells [.slice (some (b0, 0)) m m, .slice (some (b1, 0)) n n, .bool false, .bool false, .slice none 0 0] (.tip [] 0 none))
 have nC : (hB.push (.cells [.slice (some (b0, 0)) m m, .slice (some (b1, 0)) n n, .bool false, .bool false, .slice none 0 0] (.tip [] 0 none))).get hB.size = some (.cells [.slice (some (b0, 0)) m m, .slice (some (b1, 0)) n n, .bool false, .bool false, .slice none 0 0] (.tip [] 0 none)) := get_push_self _ _
 replace nA := gc.ext _ _ nA
 replace nB := gc.ext _ _ nB
 have cC : Cl (hB.push (.cells [.slice (some (b0, 0)) m m, .slice (some (b1, 0)) n n, .bool false, .bool false, .slice none 0 0] (.tip [] 0 none))) hB.size [.slice (some (b0, 0)) m m, .slice (some (b1, 0)) n n, .bool false, .bool false, .slice none 0 0] := Cl.new _ _ _
 have gC := gB.trans gc
 have cA2 := cA'.grow gc
 have cB2 := cB.grow gc
 clear gc
 generalize hB.push (.cells [.slice (some (b0, 0)) m m, .slice (some (b1, 0)) n n, .bool false, .bool false, .slice none 0 0] (.tip [] 0 none)) = hC at *
 generalize hB.size = b at *
 refine dmv rfl <| WD.nil ⟨nC, nB, nA, trivial⟩ <| WC.ret ⟨trivial, gC.wf, _, rfl, fun h3 g3 => ⟨b, b0, b1, rfl, gC.trans g3, by omega, z2, by omega, by omega, by omega, by omega, ?_, cA2.grow g3, cB2.grow g3, Grown.nil _ _ _, Off.nil _, Off.nil _, Off.nil _⟩, fun hc => ?_⟩
 ·have := cC.grow g3
  unfold DevB Dv.new
  simpa using this
 ·change (V.ptr (some (b, 0))).scopd h.size = true at hc
  simp [V.scopd] at hc
  omega
end
end Abs
end Go.Proofs.YtdebiolekbldiaaGreatDoor
namespace Go.Proofs.YtdebiolekbldiaaGreatDoor
namespace Abs
set_option linter.unusedVariables false
set_option linter.unusedSimpArgs false
open Go.RowKit
attribute [local irreducible] WO WC WD StepK Ans Does Runs DoesD
theorem rem_nat (m k : Nat) (hk : k ≠ 0) : binA .rem (iv m) (iv k) = some (iv ((m % k : Nat) : Int)) := by
 simp only [binA]
 rw [if_pos ⟨trivial, by omega⟩]; rfl
theorem quo_nat (m k : Nat) (hk : k ≠ 0) (hm : m < 9223372036854775808) : binA .quo (iv m) (iv k) = some (iv ((m / k : Nat) : Int)) := by
 simp only [binA]
 rw [if_pos ⟨trivial, by omega⟩]
 have h1 : ((m : Int).tdiv (k : Int)) = ((m / k : Nat) : Int) := rfl
 have h2 : m / k ≤ m := Nat.div_le_self m k
 rw [h1]
 generalize m / k = q at *
 rw [StepK.wrap64 (by omega) (by omega)]
theorem mul_at {m n : Int} (h1 : -9223372036854775808 ≤ m * n) (h2 : m * n < 9223372036854775808) : binA .mul (iv m) (iv n) = some (iv (m * n)) := by
 simp only [binA, iv, if_true, StepK.wrap64 h1 h2]
theorem ret_cell {e : List (Nat × V)} {h : Heap} {a : Nat} {n : Option Nat} {x v : V} (ea : Env.get e a = some x) (hl : loadA h n x = some v) : retE e h [.cell a n] = some v := by
 simp only [retE, ressE, resE, ea, hl]
 rfl
def roomN (n : Nat) : Nat := n / 8 * 7 + (n % 8 - 1)
section
variable {C : Cfg} (S : StdO C)
include S
theorem room_ans (h : Heap) (hw : Wf h) (s n : Nat) (hr : h.rd s (0 + 2) = some (iv n)) (hn : n ≤ 1000000) : Ans C 87 [.ptr (some (s, 0))] h fun r h' => r = iv (roomN n) ∧ Grow h h' := by
 have hF : C.F 87 = some a87 := S.f rfl
 unfold a87 at hF
 refine Ans.val (fun _ _ => S.s _ _ _ rfl) hF rfl rfl hw fun h2 g => ?_
 clear hF
 have r2 := g.rd hr
 refine WC.seqO (omv rfl (WO.nil (WC.seq (WC.seqO ?_))))
 refine omv rfl <| oeq rfl rfl (t := false) rfl (WO.nil (WC.cond rfl (fun hc => by cases hc) (fun hc => WC.skip (WC.seqD ?_))))
 have e1 : binA .quo (iv n) (iv 8) = some (iv ((n / 8 : Nat) : Int)) := quo_nat n 8 (by decide) (by omega)
 have e2 : binA .rem (iv n) (iv 8) = some (iv ((n % 8 : Nat) : Int)) := rem_nat n 8 (by decide)
 refine dmv rfl <| dnk rfl <| dfa rfl <| WD.load1 rfl r2 <| dbn rfl rfl e1 <| dbn rfl rfl (mul_at (by omega) (by omega)) <|
  dmv rfl <| dnk rfl <| dfa rfl <| WD.load1 rfl r2 <| dbn rfl rfl e2 <| dsb rfl rfl (by omega) <| dmx rfl rfl ?_
 have em : (if (0 : Int) > ((n % 8 : Nat) : Int) - 1 then (0 : Int) else ((n % 8 : Nat) : Int) - 1) = ((n % 8 - 1 : Nat) : Int) := by split <;> omega
 refine dad rfl rfl (by rw [em]; omega) <| dmv rfl <| WD.nil (by repeat (first | exact trivial | refine ⟨by with_reducible assumption, ?_⟩)) <| WC.ret ⟨trivial, g, ?_⟩
 have ee : ((n / 8 : Nat) : Int) * 7 + (if (0 : Int) > ((n % 8 : Nat) : Int) - 1 then (0 : Int) else ((n % 8 : Nat) : Int) - 1) = (roomN n : Nat) := by
  rw [em]; unfold roomN; omega
 rw [← ee]
 rfl
theorem log_ans (h : Heap) (hw : Wf h) (s : Nat) (f k : Int) (hr : h.rd s (0 + 1) = some (iv f)) (hf : 0 ≤ f ∧ f ≤ 1000000) (hk : -1000000 ≤ k ∧ k ≤ 1000000) : Ans C 110 [.ptr (some (s, 0)), iv k] h fun r h' => r = .agg [iv 1, iv (f + 8 * k)] ∧ Grow h h' := by
 have hF : C.F 110 = some a110 := S.f rfl
 unfold a110 at hF
 refine Ans.val (fun _ _ => S.s _ _ _ rfl) hF rfl rfl hw fun h2 g => ?_
 clear hF
 refine WC.seqO (WO.ops (StepK.alloc) ?_)
 have c4 : Cl (h2.push (.cells [iv 0, iv 0] (.tip [] 0 none))) h2.size [iv 0, iv 0] := Cl.new _ _ _
 have g3 := g.push (.cells [iv 0, iv 0] (.tip [] 0 none))
 have z2 := g.size
 change WO C _ _ (h2.push (.cells [iv 0, iv 0] (.tip [] 0 none))) _
 generalize h2.push (.cells [iv 0, iv 0] (.tip [] 0 none)) = h3 at *
 generalize h2.size = p at *
 obtain ⟨h4, r1, r2, r3, r4⟩ := c4.sets g3.wf (i := 0) (us := [iv 1, iv (f + 8 * k)]) (by simp) (by simp [V.one, iv])
 have g4 : Grow h h4 := r3.newGrow g3 hw (fun x hx => by obtain rfl := List.mem_singleton.1 hx; omega)
 refine WO.nil (WC.seqO ?_)
 refine omv rfl <| onk rfl <| ofa rfl <| old rfl (g3.rd hr) <| omv rfl <| obn rfl rfl (mul_at (by omega) (by omega)) <| oad rfl rfl (by omega) <| obu rfl rfl ?_
 refine WO.op (StepK.store (v := .agg [iv 1, iv (f + 8 * k)]) rfl rfl rfl r1) (WO.nil (WC.ret ⟨trivial, g4, ?_⟩))
 have hl : loadA h4 (some 2) (.ptr (some (p, 0))) = some (.agg [iv 1, iv (f + 8 * k)]) := by
  have q : h4.rds p 0 2 = some [iv 1, iv (f + 8 * k)] := r2.rds (k := 2) rfl
  simp only [loadA, q]
 exact ret_cell rfl hl
end
end Abs
end Go.Proofs.YtdebiolekbldiaaGreatDoor
namespace Go.Proofs.YtdebiolekbldiaaGreatDoor
namespace Abs
set_option linter.unusedVariables false
set_option linter.unusedSimpArgs false
open Go.RowKit
attribute [local irreducible] WO WC WD StepK Ans Does Runs DoesD
structure StdX (C : Cfg) : Prop extends StdO C where
theorem Cl.inj {h : Heap} {b : Nat} {cs ds : List V} (a : Cl h b cs) (c : Cl h b ds) : cs = ds := by
 obtain ⟨t1, q1⟩ := a
 obtain ⟨t2, q2⟩ := c
 rw [q1] at q2; cases q2; rfl
theorem Grown.offNew {h : Heap} {low sz : Nat} {x : V} {es : List (List V)} (g : Grown h low sz x es) (hw : Wf h) {c : Nat} (hc : h.size ≤ c) : Off x c := by
 obtain ⟨_, ⟨rfl, _⟩ | ⟨b', S, ty, rfl, _, _, q⟩⟩ := g
 ·exact Off.nil c
 ·intro b2 o l k z e; cases e; have := Wf.lt hw q; omega
theorem DevAt.chg {n : Nat} {h h' : Heap} {b b0 b1 : Nat} {wv : V} {D : Dv} {F : List Nat} (d : DevAt n h b b0 b1 wv D) (c : Chg F h h') (hF : ∀ x ∈ F, x ∉ [b, b0, b1] ∧ Off wv x) : DevAt n h' b b0 b1 wv D :=
 { d with B := Cl.chg d.B c (fun q => (hF _ q).1 (by simp)), S0 := d.S0.chg c (fun q => (hF _ q).1 (by simp)), S1 := d.S1.chg c (fun q => (hF _ q).1 (by simp)), W := d.W.chg c (fun x hx => (hF x hx).2) }
theorem DevAt.lt {n : Nat} {h : Heap} {b b0 b1 : Nat} {wv : V} {D : Dv} (d : DevAt n h b b0 b1 wv D) (hw : Wf h) : b < h.size ∧ b0 < h.size ∧ b1 < h.size :=
 ⟨Cl.lt d.B hw, d.S0.lt hw, d.S1.lt hw⟩
theorem DFr.chg {h h' : Heap} {F : List Nat} {wv wv' : V} {b : Nat} {cs : List V} (d : DFr h h' F wv wv') (c : Cl h b cs) (hb : b ∉ F) (ho : Off wv b) : Cl h' b cs := c.imp fun _ q => d.keep _ _ q hb ho
theorem DFr.refl {h : Heap} {F : List Nat} {wv : V} : DFr h h F wv wv := ⟨Nat.le_refl _, fun _ _ q _ _ => q, fun _ _ q => q⟩
theorem DFr.trans {h h1 h2 : Heap} {F : List Nat} {wv wv1 wv2 : V} (hw : Wf h) (a : DFr h h1 F wv wv1) (c : DFr h1 h2 F wv1 wv2) : DFr h h2 F wv wv2 :=
 ⟨Nat.le_trans a.size c.size, fun x o q1 q2 q3 => c.keep x o (a.keep x o q1 q2 q3) q2 (a.off x (Wf.lt hw q1) q3), fun x q1 q2 => c.off x (Nat.lt_of_lt_of_le q1 a.size) (a.off x q1 q2)⟩
theorem DFr.ofChg {h h1 : Heap} {F : List Nat} {wv : V} (c : Chg F h h1) : DFr h h1 F wv wv := ⟨c.size, fun x o q1 q2 _ => c.keep x o q2 q1, fun _ _ q => q⟩
theorem ress_ct {e : List (Nat × V)} {h : Heap} {a b : Nat} {n : Option Nat} {x v w : V} (ea : Env.get e a = some x) (hl : loadA h n x = some v) (eb : Env.get e b = some w) : ressE e h [.cell a n, .tmp b] = some [v, w] := by
 simp only [ressE, resE, ea, hl, eb]
def isAt (v a : Int) (w : Int × Int × List Nat) : Bool := decide (w.1 = v) && decide (w.2.1 = a)
def Dv.last (D : Dv) (v a : Int) : Option (List Nat) := (D.ws.reverse.find? (isAt v a)).map (·.2.2)
def Dv.rd (D : Dv) (v a : Int) : List Nat × Int := if D.may v a 0 = 0 then ((D.last v a).getD ((D.s v).getD a.toNat []), 0) else ([], D.may v a 0)
theorem ThenX.on {C : Cfg} {b : AC} {Q : Ex → List (Nat × V) → List V → Heap → Prop} {e : List (Nat × V)} {d : List V} {h : Heap} (hx : WX C b e d h Q) : ThenX C b Q .normal e d h := hx
theorem neT {a b : Int} (h : a ≠ b) : binA .neq (iv a) (iv b) = some (.bool true) := by simp [binA, iv, h]
theorem neF {a b : Int} (h : a = b) : binA .neq (iv a) (iv b) = some (.bool false) := by simp [binA, iv, h]
theorem ress2 {e : List (Nat × V)} {h : Heap} {a b p q : Nat} {x y : V} (ea : Env.get e a = some (.ptr (some (p, 0)))) (eb : Env.get e b = some (.ptr (some (q, 0)))) (ha : Cl h p [x]) (hb : Cl h q [y]) : ressE e h [.cell a none, .cell b none] = some [x, y] := by
 have h1 : loadA h none (.ptr (some (p, 0))) = some x := by simp [loadA, ha.rd (i := 0) rfl]
 have h2 : loadA h none (.ptr (some (q, 0))) = some y := by simp [loadA, hb.rd (i := 0) rfl]
 simp only [ressE, resE, ea, eb, h1, h2]
theorem Cl.putNe {h : Heap} {b c : Nat} {cs : List V} (a : Cl h b cs) (hc : b ≠ c) (o : Obj) : Cl (h.put c o) b cs := a.of_get (h := h.put c o) (by rw [get_put, if_neg hc])
theorem eq_at (v a : Int) (w : Int × Int × List Nat) : eqA (.struct [(0, none, (.flat .int)), (1, none, (.flat .int))]) (.agg [iv w.1, iv w.2.1]) (.agg [iv v, iv a]) = some (isAt v a w) := by
 by_cases h1 : w.1 = v
 ·subst h1
  by_cases h2 : w.2.1 = a
  ·simp [eqA, eqAs, aggOf, flatEq, isAt, iv, h2]
  ·simp [eqA, eqAs, aggOf, flatEq, isAt, iv, h2, beq_false_of_ne h2]
 ·simp [eqA, eqAs, aggOf, flatEq, isAt, iv, h1, beq_false_of_ne h1]
section
variable {C : Cfg} (S : StdO C)
include S
theorem backwf_ans (h : Heap) (hw : Wf h) (x : V) (hx : V.one x = true) : Ans C 120 [x] h fun r h' => ∃ q, r = .func (.func 138) [] [.ptr (some (q, 0))] ∧ Grow h h' ∧ Cl h' q [x] ∧ h.size ≤ q := by
 have hF : C.F 120 = some a120 := S.f rfl
 unfold a120 at hF
 refine Ans.fn (fun _ _ => S.s _ _ _ rfl) hF rfl rfl hw (fun h2 g => ?_)
 clear hF
 refine WC.seqO (WO.ops (StepK.box rfl) ?_)
 have gp := (Grow.refl g.wf).push (.cells [x] (.tip [] 0 none))
 have hs := g.size
 have hq : Cl (h2.push (.cells [x] (.tip [] 0 none))) h2.size [x] := Cl.new _ _ _
 change WO C _ _ (h2.push (.cells x.cellsOf (.tip [] 0 none))) _
 rw [one_cells hx]
 have g3 := g.trans gp
 generalize h2.push (.cells [x] (.tip [] 0 none)) = h3 at *
 generalize h2.size = p at *
 refine omv rfl <| WO.nil <| WC.seqO <| omf rfl rfl <| omv rfl <| WO.nil <| WC.ret ⟨trivial, gp.wf, _, rfl, fun h4 g4 => ⟨p, rfl, g3.trans g4, hq.grow g4, hs⟩, fun hc => ?_⟩
 change (V.func (.func 138) [] [.ptr (some (p, 0))]).scopd h.size = true at hc
 simp [V.scopd, V.scopeds] at hc
 omega
theorem backw_nil (h : Heap) (hw : Wf h) (l q : Nat) (hr : h.rd q 0 = some (.slice none 0 0)) : Ans C 138 [.yld l, .ptr (some (q, 0))] h fun v h' => v = .tuple [] ∧ Grow h h' := by
 have hF : C.F 138 = some a138 := S.f rfl
 unfold a138 at hF
 refine Ans.val (fun _ _ => S.s _ _ _ rfl) hF rfl rfl hw (fun h2 g => ?_)
 clear hF
 refine WC.seqO <| old rfl (g.rd hr) <| ols rfl rfl <| osb rfl rfl (by decide) <| omv rfl (WO.nil (WC.block ?_))
 refine WC.loop (σ := Unit) (fun _ => [(3, iv (-1))]) (fun _ h' => h' = h2) (fun _ => 0) () (Cov.cons rfl (Cov.nil _)) rfl ?_
 rintro ⟨⟩ h3 rfl
 exact WC.seq (WC.seqO <| omv rfl <| obn rfl rfl (geF (by decide)) <| WO.nil <| WC.cond rfl (fun hc => by cases hc) (fun hc => WC.exit ⟨trivial, g, rfl⟩))
theorem dread_new (n : Nat) (h : Heap) (hw : Wf h) (b b0 b1 : Nat) (wv : V) (D : Dv) (d : DevAt n h b b0 b1 wv D) (hn : D.ws = []) (v a : Int) :
  Ans C 96 [.ptr (some (b, 0)), .agg [iv v, iv a]] h fun r h' => r = .tuple [.str (D.rd v a).1, iv (D.rd v a).2] ∧ Grow h h' := by
 have hF : C.F 96 = some a96 := S.f rfl
 unfold a96 at hF
 refine Ans.rng (S.s _ _ _ rfl) hF rfl (by decide) ?_
 clear hF
 have g0 : Grow h { h with low := h.size } := (Grow.refl hw).low1 _
 generalize { h with low := h.size } = h2 at *
 refine WX.seqP (WC.ops (WO.ops (StepK.box rfl) ?_))
 have c3 : Cl (h2.push (.cells [iv v, iv a] (.tip [] 0 none))) h2.size [iv v, iv a] := Cl.new _ _ _
 have g3 := g0.push (.cells [iv v, iv a] (.tip [] 0 none))
 have l3 : h.size ≤ h2.size := g0.size
 change WO C _ _ (h2.push (.cells [iv v, iv a] (.tip [] 0 none))) _
 have z3 : (h2.push (.cells [iv v, iv a] (.tip [] 0 none))).size = h2.size + 1 := rfl
 generalize h2.push (.cells [iv v, iv a] (.tip [] 0 none)) = h3 at *
 generalize h2.size = p3 at *
 refine WO.ops (StepK.alloc) ?_
 have c4 : Cl (h3.push (.cells [.str []] (.tip [] 0 none))) h3.size [.str []] := Cl.new _ _ _
 have c34 := c3.grow ((Grow.refl g3.wf).push (.cells [.str []] (.tip [] 0 none)))
 have g4 := g3.push (.cells [.str []] (.tip [] 0 none))
 change WO C _ _ (h3.push (.cells [.str []] (.tip [] 0 none))) _
 have z4 : (h3.push (.cells [.str []] (.tip [] 0 none))).size = h3.size + 1 := rfl
 generalize h3.push (.cells [.str []] (.tip [] 0 none)) = h4 at *
 have n34 : p3 < h3.size := by omega
 generalize h3.size = p4 at *
 refine WO.ops (StepK.alloc) ?_
 have c5 : Cl (h4.push (.cells [iv 0] (.tip [] 0 none))) h4.size [iv 0] := Cl.new _ _ _
 have gq := (Grow.refl g4.wf).push (.cells [iv 0] (.tip [] 0 none))
 have c35 := c34.grow gq
 have c45 := c4.grow gq
 have g5 := g4.push (.cells [iv 0] (.tip [] 0 none))
 change WO C _ _ (h4.push (.cells [iv 0] (.tip [] 0 none))) _
 clear gq
 have z5 : (h4.push (.cells [iv 0] (.tip [] 0 none))).size = h4.size + 1 := rfl
 generalize h4.push (.cells [iv 0] (.tip [] 0 none)) = h5 at *
 have n45 : p4 < h4.size := by omega
 generalize h4.size = p5 at *
 clear c3 c4 c34 g3 g4
 have fin : ∀ (e' : List (Nat × V)) (h1 : Heap) (x : List Nat) (y : Int), Env.get e' 4 = some (.ptr (some (p4, 0))) → Env.get e' 5 = some (.ptr (some (p5, 0))) → Cl h1 p4 [.str x] → Cl h1 p5 [iv y] → D.rd v a = (x, y) → Grow h h1 →
   ∃ vs, ressE e' h1 [.cell 4 none, .cell 5 none] = some vs ∧ (oneOf vs = .tuple [.str (D.rd v a).1, iv (D.rd v a).2] ∧ Grow h { h1 with low := min h.low h1.low }) ∧
    (h.size ≤ h1.low → (oneOf vs).scopd h.size = true → oneOf vs = .tuple [.str (D.rd v a).1, iv (D.rd v a).2] ∧ Grow h h) := by
  intro e' h1 x y e4 e5 q4 q5 hx g
  have hx' : oneOf [V.str x, iv y] = .tuple [.str (D.rd v a).1, iv (D.rd v a).2] := by rw [hx]; rfl
  exact ⟨_, ress2 e4 e5 q4 q5, ⟨hx', g.low1 _⟩, fun _ _ => ⟨hx', Grow.refl hw⟩⟩
 refine WO.nil (ThenX.on (WX.seqP ?_))
 refine WC.seqO ?_
 refine omv rfl <| WO.ops (StepK.loadN rfl (c35.rds rfl)) ?_
 refine WO.call rfl rfl (may_ans S h5 g5.wf b b0 b1 wv D (d.B.grow g5) v a []) ?_
 rintro _ h6 ⟨rfl, g6⟩
 have g56 := g5.trans g6
 have k3 := c35.grow g6
 have k4 := c45.grow g6
 have k5 := c5.grow g6
 have s6 := g6.size
 clear c35 c45 c5
 refine omv rfl (WO.nil (WC.seqO (omv rfl ?_)))
 by_cases hm : D.may v a 0 = 0
 rotate_left
 ·refine obn rfl rfl (neT hm) (WO.nil (WC.cond rfl (fun hc => WC.seqO ?_) (fun hc => by cases hc)))
  refine omv rfl ?_
  obtain ⟨h7, r1, r2, r3, r4⟩ := k4.set g56.wf (i := 0) (by decide) (v := .str []) rfl
  obtain ⟨h8, t1, t2, t3, t4⟩ := (k5.chg r3 (by simp; omega)).set r3.wf (i := 0) (by decide) (v := iv (D.may v a 0)) rfl
  refine WO.op (StepK.store rfl rfl rfl r1) ?_
  refine WO.op (StepK.store rfl rfl rfl t1) ?_
  refine WO.nil (WC.ret ⟨fun id hc => Ex.noConfusion hc, h8, rfl, fin _ h8 [] (D.may v a 0) rfl rfl (r2.chg t3 (by simp; omega)) t2 (by rw [Dv.rd, if_neg hm]) ?_⟩)
  have q1 := r3.newGrow g56 hw (fun x hx => by obtain rfl := List.mem_singleton.1 hx; omega)
  exact t3.newGrow q1 hw (fun x hx => by obtain rfl := List.mem_singleton.1 hx; omega)
 refine obn rfl rfl (neF hm) (WO.nil (WC.cond rfl (fun hc => by cases hc) (fun hc => WC.skip ?_)))
 refine ThenX.on (WX.seq (WX.seqP (WC.ops ?_)))
 have d6 := d.grow g56
 refine omv rfl <| onk rfl <| ofa rfl <| old rfl (d6.B.rd (i := 4) rfl) ?_
 refine WO.call rfl rfl (backwf_ans S h6 g56.wf wv d6.W.one) ?_
 rintro _ h7 ⟨q, rfl, g7, cq, lq⟩
 have g57 := g56.trans g7
 replace k3 := k3.grow g7
 replace k4 := k4.grow g7
 replace k5 := k5.grow g7
 have s7 := g7.size
 refine WO.nil (ThenX.on (WX.block ?_))
 refine WX.range g57.wf rfl rfl (fun h8 g8 z8 m8 l8 same8 _ => ?_)
 have g58 := g57.trans g8
 have w8 := g58.wf
 have hwv : wv = .slice none 0 0 := by
  have W := d.W
  rw [hn] at W
  obtain ⟨_, ⟨q1, _⟩ | ⟨bb, SS, ty, _, q2, _⟩⟩ := W
  ·exact q1
  ·exact absurd rfl q2
 refine (backw_nil S h8 w8 (h7.size + 1) q ((cq.grow g8).rd (i := 0) (by rw [hwv]; rfl))).mono (fun r h9 hr => ?_)
 obtain ⟨_, g89⟩ := hr
 have hd0 : D.rd v a = ((D.last v a).getD ((D.s v).getD a.toNat []), 0) := by rw [Dv.rd, if_pos hm]
 have hz := g89.size
 have hlast : D.last v a = none := by rw [Dv.last, hn]; rfl
 obtain ⟨nt, tm, hg, hs⟩ := l8
 have hg := g89.ext _ _ hg
 refine ⟨none, ⟨_, _, _, _, _, _, hg, fun hc => by cases hc⟩, ?_⟩
 have g9 : Grow h (h9.put (h7.size + 1) .dead) := (g58.trans g89).put (by omega) (by omega) hw _
 have t3 := ((k3.grow g8).grow g89).putNe (c := h7.size + 1) (by omega) .dead
 have t4 := ((k4.grow g8).grow g89).putNe (c := h7.size + 1) (by omega) .dead
 have t5 := ((k5.grow g8).grow g89).putNe (c := h7.size + 1) (by omega) .dead
 have tm' : (h9.put (h7.size + 1) .dead).get h7.size = some .dfr := by rw [get_put, if_neg (by omega)]; exact g89.ext _ _ m8
 have zs : (h9.put (h7.size + 1) .dead).size = h9.size := rfl
 clear hg
 generalize h9.put (h7.size + 1) .dead = hA at *
 have dA := d.grow g9
 rw [show exOf none = Ex.normal from rfl]
 unfold AtX
 dsimp only
 refine ThenX.on ?_
 refine WX.plain ?_
 refine WC.seqD ?_
 have hdev : isDev v = true ∧ 0 ≤ a ∧ a < (D.s v).length := by
  unfold Dv.may at hm
  split at hm
  ·cases hm
  ·rename_i hh
   refine ⟨?_, ?_, ?_⟩
   ·cases hv : isDev v with
    | true => rfl
    | false => exact absurd (.inl hv) hh
   ·apply Int.not_lt.1; intro hc; exact hh (.inr (.inl hc))
   ·apply Int.not_le.1; intro hc; exact hh (.inr (.inr (.inl hc)))
 obtain ⟨hv, ha, hl⟩ := hdev
 obtain ⟨k, c, i1, i2, i3⟩ : ∃ k c, idxArrA 2 1 (.ptr (some (b, 0 + 0))) (iv v) = some (.ptr (some (b, k))) ∧ hA.rd b k = some (.slice (some (c, 0)) (D.s v).length (D.s v).length) ∧ Cl hA c ((D.s v).map V.str) := by
  have hv' : v = 0 ∨ v = 1 := by simpa [isDev] using hv
  rcases hv' with rfl | rfl
  ·exact ⟨0, b0, rfl, dA.B.rd (i := 0) rfl, dA.S0⟩
  ·exact ⟨1, b1, rfl, dA.B.rd (i := 1) rfl, dA.S1⟩
 have r0 : hA.rd p3 (0 + 0) = some (iv v) := t3.rd rfl
 have r1 : hA.rd p3 (0 + 1) = some (iv a) := t3.rd rfl
 have i4 : idxSlA 1 (.slice (some (c, 0)) (D.s v).length (D.s v).length) (iv a) = some (.ptr (some (c, a.toNat))) := by
  simp [idxSlA, intV, iv, ha, hl]
 have hat : a.toNat < (D.s v).length := by omega
 have i5 : hA.rd c a.toNat = some (.str ((D.s v).getD a.toNat [])) := i3.rd (by rw [List.getElem?_map, List.getD_eq_getElem?_getD, List.getElem?_eq_getElem hat]; rfl)
 obtain ⟨hB, u1, u2, u3, u4⟩ := t4.set g9.wf (i := 0) (by simp) (v := .str ((D.s v).getD a.toNat [])) rfl
 obtain ⟨hC, x1, x2, x3, x4⟩ := (t5.chg u3 (by simp; omega)).set u3.wf (i := 0) (by simp) (v := iv 0) rfl
 refine dmv rfl <| dfa rfl <| WD.load1 rfl r0 <| dnk rfl <| dfa rfl <| WD.pure (StepK.idxArr rfl rfl i1) rfl <| WD.load1 rfl i2 <| dfa rfl <| WD.load1 rfl r1 <| WD.pure (StepK.idxSl rfl rfl i4) rfl <| WD.load1 rfl i5 ?_
 refine WD.opC (by repeat (first | exact trivial | refine ⟨by with_reducible assumption, ?_⟩)) rfl (StepK.store rfl rfl rfl u1) ?_
 refine WD.opC (by repeat (first | exact trivial | refine ⟨by with_reducible assumption, ?_⟩)) rfl (StepK.store rfl rfl rfl x1) ?_
 refine WD.nil (by repeat (first | exact trivial | refine ⟨by with_reducible assumption, ?_⟩)) (WC.ret ?_)
 have gC : Grow h hC := x3.newGrow (u3.newGrow g9 hw (fun x hx => by obtain rfl := List.mem_singleton.1 hx; omega)) hw (fun x hx => by obtain rfl := List.mem_singleton.1 hx; omega)
 have mC : hC.get h7.size = some .dfr := x3.keep _ _ (by simp; omega) (u3.keep _ _ (by simp; omega) tm')
 refine ⟨fun id hc => Ex.noConfusion hc, hC.put h7.size .dead, ?_, fin _ _ ((D.s v).getD a.toNat []) 0 rfl rfl ((u2.chg x3 (by simp; omega)).putNe (by omega) _) (x2.putNe (by omega) _) ?_ ?_⟩
 ·simp only [runMarks, mC]
 ·rw [hd0, hlast]; rfl
 ·exact gC.put (by omega) (by omega) hw _
theorem cdecode_nil (h : Heap) (hw : Wf h) : Ans C 111 [.str []] h fun r h' => r = .tuple [.agg [iv 0, .slice none 0 0], iv 2] ∧ Grow h h' := by
 have hF : C.F 111 = some a111 := S.f rfl
 unfold a111 at hF
 refine Ans.val (fun _ _ => S.s _ _ _ rfl) hF rfl rfl hw (fun h2 g => ?_)
 clear hF
 refine WC.seqO (WO.ops StepK.alloc ?_)
 have c2 : Cl (h2.push (.cells [iv 0, .slice none 0 0] (.tip [] 0 none))) h2.size [iv 0, .slice none 0 0] := Cl.new _ _ _
 have g3 := g.push (.cells [iv 0, .slice none 0 0] (.tip [] 0 none))
 change WO C _ _ (h2.push (.cells [iv 0, .slice none 0 0] (.tip [] 0 none))) _
 generalize h2.push (.cells [iv 0, .slice none 0 0] (.tip [] 0 none)) = h3 at *
 have hp := g.size
 generalize h2.size = p at *
 obtain ⟨h4, v1, v2, v3, v4⟩ := c2.sets g3.wf (i := 0) (us := [iv 0, .slice none 0 0]) (by simp) rfl
 refine omv rfl <| WO.nil <| WC.seq <| WC.seqO <| omv rfl <| olt rfl <| obn rfl rfl (ltT (by decide)) <| WO.nil <| WC.cond rfl (fun _ => WC.seqO <| obu rfl rfl <| WO.op (StepK.store (v := .agg [iv 0, .slice none 0 0]) rfl rfl rfl v1) <| omv rfl <| WO.nil <| WC.ret ⟨trivial, v3.newGrow g3 hw (by simpa using hp), ?_⟩) (fun hc => by cases hc)
 have hl : loadA h4 (some 2) (.ptr (some (p, 0))) = some (.agg [iv 0, .slice none 0 0]) := by
  have q : h4.rds p 0 2 = some [iv 0, .slice none 0 0] := Cl.rds (show Cl h4 p [iv 0, .slice none 0 0] from v2) (k := 2) rfl
  simp only [loadA, q]
 simp only [retE]
 rw [show ressE _ h4 [.cell 2 (some 2), .tmp 3] = some [.agg [iv 0, .slice none 0 0], iv 2] from ress_ct rfl hl rfl]
 rfl
theorem load_none (nb : Nat) (h : Heap) (hw : Wf h) (s b b0 b1 : Nat) (wv : V) (D : Dv) (d : DevAt nb h b b0 b1 wv D) (f k : Nat) (c2 c3 c4 c5 : V)
  (cs : Cl h s [.ptr (some (b, 0)), iv f, c2, c3, c4, c5]) (hf : f ≤ 1000000) (hk : k ≤ 100000) (hws : D.ws = []) (hrd : D.rd 1 ((f + 8 * k : Nat) : Int) = ([], 0)) :
  Ans C 88 [.ptr (some (s, 0)), iv k] h fun r h' => r = .tuple [.agg [iv 0, .slice none 0 0], .bool false] ∧ Grow h h' := by
 have hF : C.F 88 = some a88 := S.f rfl
 unfold a88 at hF
 refine Ans.rng (S.s _ _ _ rfl) hF rfl (by decide) ?_
 clear hF
 have g2 : Grow h { h with low := h.size } := (Grow.refl hw).low1 _
 have z2 : ({ h with low := h.size } : Heap).size = h.size := rfl
 generalize { h with low := h.size } = h2 at *
 refine WX.seqP (WC.ops (WO.ops (StepK.alloc) ?_))
 have k4 : Cl (h2.push (.cells [iv 0, .slice none 0 0] (.tip [] 0 none))) h2.size [iv 0, .slice none 0 0] := Cl.new _ _ _
 have g3 := g2.push (.cells [iv 0, .slice none 0 0] (.tip [] 0 none))
 change WO C _ _ (h2.push (.cells [iv 0, .slice none 0 0] (.tip [] 0 none))) _
 generalize h2.push (.cells [iv 0, .slice none 0 0] (.tip [] 0 none)) = h3 at *
 generalize h2.size = p4 at *
 refine omv rfl <| WO.nil (ThenX.on (WX.seqP (WC.draw ?_)))
 have cs3 := cs.grow g3
 have r0 := cs3.rd (i := 0) rfl
 refine dmv rfl <| dnk rfl <| dfa rfl <| WD.load1 rfl r0 <| dmv rfl <| dmv rfl ?_
 refine WD.call (by repeat (first | exact trivial | refine ⟨by with_reducible assumption, ?_⟩)) rfl rfl (log_ans S h3 g3.wf s f k (cs3.rd (i := 1) rfl) (by omega) (by omega)) ?_
 rintro _ h4 ⟨rfl, g34⟩
 have g4 := g3.trans g34
 have r0' := g34.rd r0
 have ec : (f : Int) + 8 * k = ((f + 8 * k : Nat) : Int) := by omega
 rw [ec]
 refine WD.call (by repeat (first | exact trivial | refine ⟨by with_reducible assumption, ?_⟩)) rfl rfl (dread_new S nb h4 g4.wf b b0 b1 wv D (d.grow g4) hws 1 ((f + 8 * k : Nat) : Int)) ?_
 rintro _ h5 ⟨rfl, g45⟩
 rw [hrd]
 have g5 := g4.trans g45
 have r0'' := g45.rd r0'
 refine dmv rfl <| dex rfl rfl <| dex rfl rfl <| dmv rfl <| dmv rfl <| WD.nil (by repeat (first | exact trivial | refine ⟨by with_reducible assumption, ?_⟩)) (ThenX.on (WX.seqP (WC.ops ?_)))
 refine omv rfl ?_
 refine WO.call rfl rfl (cdecode_nil S h5 g5.wf) ?_
 rintro _ h6 ⟨rfl, g56⟩
 have g6 := g5.trans g56
 refine omv rfl <| oex rfl rfl <| oex rfl rfl <| WO.ops (StepK.alloc) ?_
 have gp := (Grow.refl g6.wf).push (.cells [iv 0, .slice none 0 0] (.tip [] 0 none))
 have k8 : Cl (h6.push (.cells [iv 0, .slice none 0 0] (.tip [] 0 none))) h6.size [iv 0, .slice none 0 0] := Cl.new _ _ _
 change WO C _ _ (h6.push (.cells [iv 0, .slice none 0 0] (.tip [] 0 none))) _
 generalize h6.push (.cells [iv 0, .slice none 0 0] (.tip [] 0 none)) = h7 at *
 obtain ⟨h8, u1, u2, u3, u4⟩ := k8.sets gp.wf (i := 0) (us := [iv 0, .slice none 0 0]) (by simp) rfl
 have g68 : Grow h6 h8 := u3.newGrow gp g6.wf (fun x hx => by obtain rfl := List.mem_singleton.1 hx; omega)
 have g8 := g6.trans g68
 have k48 := k4.grow ((g34.trans g45).trans (g56.trans g68))
 refine WO.op (StepK.store (v := .agg [iv 0, .slice none 0 0]) rfl rfl rfl u1) <| omv rfl <| WO.nil (ThenX.on (WX.seqP (WC.seqO ?_)))
 refine omv rfl <| obn rfl rfl (neF rfl) <| omv rfl <| WO.run rfl <| omv rfl <| WO.run rfl <| obn rfl rfl (neT (by decide)) <| opf rfl rfl <| WO.nil <| WC.cond rfl (fun hc => WC.seqO ?_) (fun hc => by cases hc)
 obtain ⟨h9, v1, v2, v3, v4⟩ := k48.sets g8.wf (i := 0) (us := [iv 0, .slice none 0 0]) (by simp) rfl
 have g9 : Grow h h9 := v3.newGrow g8 hw (fun x hx => by obtain rfl := List.mem_singleton.1 hx; omega)
 refine obu rfl rfl <| WO.op (StepK.store (v := .agg [iv 0, .slice none 0 0]) rfl rfl rfl v1) <| omv rfl <| WO.nil <| WC.ret ⟨fun id hc => Ex.noConfusion hc, h9, rfl, [.agg [iv 0, .slice none 0 0], .bool false], ?_, ⟨rfl, g9.low1 _⟩, fun _ _ => ⟨rfl, Grow.refl hw⟩⟩
 have hl : loadA h9 (some 2) (.ptr (some (p4, 0))) = some (.agg [iv 0, .slice none 0 0]) := by
  have q : h9.rds p4 0 2 = some [iv 0, .slice none 0 0] := Cl.rds (show Cl h9 p4 [iv 0, .slice none 0 0] from v2) (k := 2) rfl
  simp only [loadA, q]
 exact ress_ct rfl hl rfl
end
end Abs
end Go.Proofs.YtdebiolekbldiaaGreatDoor
