/- Layer 7: the document's Give. -/
import Derived.Test.YtkdoemlhjhmfhaaC13
import Derived.Test.YtkdoemlhjhmfhaaA24
namespace Go.Proofs.Ytkdoemlhjhmfhaa
namespace Abs
set_option linter.unusedVariables false
set_option linter.unusedSimpArgs false
set_option maxHeartbeats 3200000
open Go.RowKit
attribute [local irreducible] WO WC WD StepK Ans Does Runs DoesD

/-- What runs are with one more. -/
def giveF (R : List (Int × Int)) (r : Int × Int) : List (Int × Int) × Bool :=
  if mayF (-1) R = false ∨ mayF (-1) [r] = false then ([], false)
  else match refG [] r [] R with
    | none => ([], false)
    | some out => if mayF (-1) out then (out, true) else ([], false)
def ApartV (u v : V) : Prop := ∀ b o l k z, v = .oslice b o l k z → Off u b

structure GI (h : Heap) (c : Nat) (R : List (Int × Int)) (r0 : Int × Int) (h' : Heap) (i : Nat) (u v : V) (A B : List (Int × Int)) (r : Int × Int) : Prop where
  grow : Grow h h'
  box : h'.get c = some (.cells (rn r) (.tip [] 0))
  le : i ≤ R.length
  gu : Grown h' h.size 2 u (A.map rn)
  gv : Grown h' h.size 2 v (B.map rn)
  ou : Off u c
  ov : Off v c
  ap : ApartV u v
  pa : ApartV v u
  la : A.length ≤ i
  lb : B.length ≤ i
  eq : refG [] r0 [] R = refG A r B (R.drop i)
  lo : 0 ≤ r.1 ∧ r.1 ≤ 1073741824
  hi : 1 ≤ r.2 ∧ r.2 ≤ (i + 1) * 1073741824
  sub : (∀ s ∈ A, s ∈ R) ∧ ∀ s ∈ B, s ∈ R

theorem GI.getv {h : Heap} {c : Nat} {R : List (Int × Int)} {r0 : Int × Int} {h' : Heap} {i : Nat} {u v : V} {A B : List (Int × Int)} {r : Int × Int} (g : GI h c R r0 h' i u v A B r) (hc : h.size ≤ c) (hw : Wf h) (r1 : Int × Int) :
    ∃ h2, h'.wr c 0 (rn r1) = some h2 ∧ Grow h h2 ∧ h2.get c = some (.cells (rn r1) (.tip [] 0)) ∧ Grown h2 h.size 2 u (A.map rn) ∧ Grown h2 h.size 2 v (B.map rn) := by
  have hlt := Wf.lt g.grow.wf g.box
  refine ⟨_, wr_two g.box rfl rfl, g.grow.put hc hlt hw _, by rw [get_put, if_pos rfl], ?_, ?_⟩
  · refine g.gu.frame fun b o hb o2 l k z e => ?_
    rw [get_put, if_neg (g.ou b o2 l k z e)]; exact hb
  · refine g.gv.frame fun b o hb o2 l k z e => ?_
    rw [get_put, if_neg (g.ov b o2 l k z e)]; exact hb

/-- One of two lists grows by a run; the other, and the box, stay. -/
theorem side_app {h h' : Heap} {c : Nat} {u v : V} {A B : List (Int × Int)} {o : Obj} (hw : Wf h) (g : Grow h h') (hbox : h'.get c = some o) (gu : Grown h' h.size 2 u (A.map rn)) (gv : Grown h' h.size 2 v (B.map rn)) (ou : Off u c) (ap : ApartV u v) (hl : A.length ≤ 1000) (s : Int × Int) :
    ∃ u2 h4, appendA (h'.push (.cells (rn s) (.tip [] 0))) 2 16 u (.slice (some (h'.size, 0)) 1 1) = some (u2, h4) ∧ Grow h h4 ∧ h4.get c = some o ∧ Grown h4 h.size 2 u2 ((A ++ [s]).map rn) ∧ Grown h4 h.size 2 v (B.map rn) ∧ Off u2 c ∧ ApartV u2 v ∧ ApartV v u2 := by
  have gp : Grow h' (h'.push (.cells (rn s) (.tip [] 0))) := (Grow.refl g.wf).push _
  have hnew : Sl (h'.push (.cells (rn s) (.tip [] 0))) 2 (.slice (some (h'.size, 0)) 1 1) ([s].map rn) :=
    ⟨by simp, rfl, Nat.le_refl _, fun _ => rds_all (st := .tip [] 0) (by rw [get_push_self]; rfl) rfl⟩
  obtain ⟨u2, h4, p1, p2, p3, p4, p5⟩ := (gu.grow gp).append2 hw (g.trans gp) hnew (bytes := 16) (by decide) (by decide) (by simp only [List.length_map, List.length_singleton, roomy, decide_eq_true_eq]; omega) ones_rn
  rw [← List.map_append] at p2
  have hvb : ∀ b o l k z, v = .oslice b o l k z → b < h'.size := by
    intro b o l k z e
    obtain ⟨_, ⟨e2, _⟩ | ⟨b2, S, e2, _, _, q⟩⟩ := gv
    · rw [e2] at e; cases e
    · rw [e2] at e; cases e; exact Wf.lt g.wf q
  have hap : ApartV u2 v := by
    intro b o2 l k z e
    exact p5 b (by have := hvb b o2 l k z e; simp only [Heap.push]; omega) (ap b o2 l k z e)
  refine ⟨u2, h4, p1, p3, p4 c o (gp.ext _ _ hbox) ou, p2, ?_, p5 c (by have := Wf.lt g.wf hbox; simp only [Heap.push]; omega) ou, hap, ?_⟩
  · exact (gv.grow gp).frame fun b o2 hb o3 l k z e => p4 b o2 hb (ap b o3 l k z e)
  · intro b o2 l k z e b' o3 l' k' z' e'
    exact fun hbb => hap b' o3 l' k' z' e' b o2 l k z e hbb.symm
end Abs
end Go.Proofs.Ytkdoemlhjhmfhaa
