/- Layer 11: the cache's Has, Drop, Lists, Target. -/
import Derived.Test.YtnbljblnikdeiaaD2
namespace Go.Proofs.Ytnbljblnikdeiaa
namespace Abs
set_option linter.unusedVariables false
set_option linter.unusedSimpArgs false
set_option maxHeartbeats 1600000
open Go.RowKit
attribute [local irreducible] WO WC WD StepK Ans Does Runs DoesD

def NewS (h : Heap) (v : V) (es : List (List V)) : Prop := v.scopd h.size = true → v = .slice none 0 0 ∧ es = []
theorem ones_ki {ks : List (List Nat)} : ∀ c ∈ ki ks, ∀ v ∈ c, V.one v = true := by
  intro c hc v hv
  obtain ⟨w, hw, rfl⟩ := List.mem_map.1 hc
  obtain ⟨k, _, rfl⟩ := List.mem_map.1 hw
  simp at hv; subst hv; rfl
theorem scoped_up {h : Heap} {sz : Nat} {v : V} {es : List (List V)} (s : Sl h sz v es) {n m : Nat} (hnm : n ≤ m) (hs : v.scopd n = true) : v.scopd m = true := by
  have h1 := s.2
  split at h1
  · rfl
  · simp [V.scopd] at hs ⊢; omega
  · simp [V.scopd] at hs ⊢; omega
  · exact h1.elim

def hasS (s : AS) (k : List Nat) : Bool := decide (k ∈ s.t1) || decide (k ∈ s.t2)
def dropS (s : AS) (k : List Nat) : AS :=
  if k ∈ s.t1 then { s with t1 := s.t1.erase k } else if k ∈ s.t2 then { s with t2 := s.t2.erase k } else if k ∈ s.b1 then { s with b1 := s.b1.erase k } else if k ∈ s.b2 then { s with b2 := s.b2.erase k } else s
def ptrI : V → Nat
  | .ptr (some (_, i)) => i
  | _ => 0
def fH (k : List Nat) (p : V) (s : AS) : Bool × AS := (decide (k ∈ s.get (ptrI p)), s)
def fT (k : List Nat) (p : V) (s : AS) : Bool × AS := (decide (k ∈ s.get (ptrI p)), s.put (ptrI p) ((s.get (ptrI p)).erase k))
theorem as_put_get (s : AS) (i : Nat) : s.put i (s.get i) = s := by
  match i with
  | 0 => rfl
  | 1 => rfl
  | 2 => rfl
  | _ + 3 => rfl
theorem fT_no {k : List Nat} {p : V} {s : AS} (h : k ∉ s.get (ptrI p)) : (fT k p s).2 = s := by
  simp only [fT, List.erase_of_not_mem h, as_put_get]
theorem has_idx (k : List Nat) (s : AS) (a : Nat) : decide ((idxS (fH k) 0 s [.ptr (some (a, 0)), .ptr (some (a, 1))]).1 ≥ 0) = hasS s k ∧ (idxS (fH k) 0 s [.ptr (some (a, 0)), .ptr (some (a, 1))]).2 = s := by
  simp only [idxS, fH, ptrI, AS.get, hasS, decide_eq_true_eq]
  by_cases h1 : k ∈ s.t1
  · simp [h1]
  · by_cases h2 : k ∈ s.t2
    · simp [h1, h2]
    · simp [h1, h2]
theorem drop_idx (k : List Nat) (s : AS) (a : Nat) : (idxS (fT k) 0 s [.ptr (some (a, 0)), .ptr (some (a, 1)), .ptr (some (a, 2)), .ptr (some (a, 3))]).2 = dropS s k := by
  have e0 : (fT k (.ptr (some (a, 0))) s) = (decide (k ∈ s.t1), { s with t1 := s.t1.erase k }) := rfl
  simp only [idxS, e0, decide_eq_true_eq, dropS]
  by_cases h1 : k ∈ s.t1
  · simp only [if_pos h1]
  · have r1 : ({ s with t1 := s.t1.erase k } : AS) = s := by rw [List.erase_of_not_mem h1]
    simp only [if_neg h1, r1]
    have e1 : (fT k (.ptr (some (a, 1))) s) = (decide (k ∈ s.t2), { s with t2 := s.t2.erase k }) := rfl
    simp only [e1, decide_eq_true_eq]
    by_cases h2 : k ∈ s.t2
    · simp only [if_pos h2]
    · have r2 : ({ s with t2 := s.t2.erase k } : AS) = s := by rw [List.erase_of_not_mem h2]
      simp only [if_neg h2, r2]
      have e2 : (fT k (.ptr (some (a, 2))) s) = (decide (k ∈ s.b1), { s with b1 := s.b1.erase k }) := rfl
      simp only [e2, decide_eq_true_eq]
      by_cases h3 : k ∈ s.b1
      · simp only [if_pos h3]
      · have r3 : ({ s with b1 := s.b1.erase k } : AS) = s := by rw [List.erase_of_not_mem h3]
        simp only [if_neg h3, r3]
        have e3 : (fT k (.ptr (some (a, 3))) s) = (decide (k ∈ s.b2), { s with b2 := s.b2.erase k }) := rfl
        simp only [e3, decide_eq_true_eq]
        by_cases h4 : k ∈ s.b2
        · simp only [if_pos h4]
        · have r4 : ({ s with b2 := s.b2.erase k } : AS) = s := by rw [List.erase_of_not_mem h4]
          simp only [if_neg h4, r4]
theorem put_bd {s : AS} (h : Bd s) (i : Nat) {l : List (List Nat)} (hl : l.length ≤ 100000) : Bd (s.put i l) := by
  intro j
  match i, j with
  | 0, 0 => exact hl
  | 0, 1 => exact h 1
  | 0, 2 => exact h 2
  | 0, j + 3 => exact h 3
  | 1, 0 => exact h 0
  | 1, 1 => exact hl
  | 1, 2 => exact h 2
  | 1, j + 3 => exact h 3
  | 2, 0 => exact h 0
  | 2, 1 => exact h 1
  | 2, 2 => exact hl
  | 2, j + 3 => exact h 3
  | i + 3, 0 => exact h 0
  | i + 3, 1 => exact h 1
  | i + 3, 2 => exact h 2
  | i + 3, j + 3 => exact hl

variable {C : Cfg} (S : Std C)
include S

theorem clone_ans (h : Heap) (hw : Wf h) (y : V) (ks : List (List Nat)) (hy : Sl h 1 y (ki ks)) (hl : ks.length ≤ 200000) : Ans C 34 [y] h fun v h' => Sl h' 1 v (ki ks) ∧ Grow h h' ∧ NewS h v (ki ks) := by
  have hF : C.F 34 = some a34 := S.f rfl
  unfold a34 at hF
  refine Ans.fn (fun _ _ => S.s _ _ _ (by decide)) hF rfl rfl hw fun h2 g => ?_
  clear hF
  have hy2 := hy.grow g
  refine WC.seqO ?_
  (repeat (first | refine WO.ops (StepK.mv rfl) ?_ | refine WO.ops (StepK.lenSl rfl (by first | with_reducible assumption | rfl)) ?_ | refine WO.ops (StepK.fieldAddr rfl) ?_ | refine WO.ops (StepK.add rfl rfl (by omega)) ?_ | refine WO.ops (StepK.sub rfl rfl (by omega)) ?_ | refine WO.ops (StepK.bin rfl rfl rfl) ?_ | refine WO.ops (StepK.pickT rfl rfl) ?_ | refine WO.ops (StepK.pickF rfl rfl) ?_ | refine WO.ops (StepK.not rfl) ?_ | refine WO.ops (StepK.eq rfl rfl rfl) ?_ | refine WO.ops (StepK.extract rfl rfl) ?_ | refine WO.ops (StepK.build rfl rfl) ?_ | refine WO.ops (StepK.mkFn rfl rfl) ?_ | refine WO.ops (StepK.field rfl rfl) ?_ | refine WO.ops (StepK.lenStr rfl) ?_ | refine WO.ops (StepK.nilck rfl) ?_ | refine WO.ops (StepK.min2 rfl rfl) ?_ | refine WO.ops (StepK.max2 rfl rfl) ?_ | refine WO.ops (StepK.load1 rfl (by first | with_reducible assumption | rfl)) ?_ | refine WO.run rfl ?_ | refine WO.skip rfl rfl ?_ | refine WO.skipu rfl ?_))
  refine WO.nil (WC.seq (WC.seqO ?_))
  refine WO.ops (StepK.mv rfl) ?_
  have go : ∀ e : List (Nat × V), Cov [(0, y)] e → WC C (.seq (.ops [⟨(some 5), none, .buildSl [] 0 []⟩,
    ⟨(some 6), none, .mv (.t 0)⟩,
    ⟨(some 7), none, .append 1 16 (.t 5) (.t 6)⟩,
    ⟨(some 2), none, .mv (.t 7)⟩]) (.ret)) e h2 (fun x e' h1 => Fin x ∧ Wf h1 ∧ ∃ v, retE e' h1 [.tmp 2] = some v ∧ (∀ h3, Grow h1 h3 → Sl h3 1 v (ki ks) ∧ Grow h h3 ∧ NewS h v (ki ks)) ∧ (v.scopd h.size = true → Sl h 1 v (ki ks) ∧ Grow h h ∧ NewS h v (ki ks))) := by
    intro e hcv
    refine WC.cov hcv (WC.seqO ?_)
    refine WO.ops (StepK.buildSl (cs := []) rfl rfl) ?_
    refine WO.ops (StepK.mv rfl) ?_
    have gp : Grow h2 (h2.push (.cells [] (.tip [] 0))) := (Grow.refl g.wf).push _
    have hfit : Fit (h2.push (.cells [] (.tip [] 0))) 1 (.slice (some (h2.size, 0)) 0 0) [] := ⟨⟨by simp, rfl, Nat.le_refl _, by simp⟩, _, rfl⟩
    obtain ⟨v, h4, p1, p2, p3⟩ := hfit.append (g.trans gp) (hy2.grow gp) (bytes := 16) (by decide) (by decide) (by simp only [List.length_nil, List.length_map, roomy, decide_eq_true_eq]; omega) ones_ki
    refine WO.ops (StepK.append rfl rfl p1) ?_
    refine WO.ops (StepK.mv rfl) (WO.nil (WC.ret ?_))
    have hsl : Sl h4 1 v (ki ks) := by
      rcases p3 with ⟨q1, rfl, rfl⟩ | q
      · rw [q1]; exact hfit.1
      · simpa using q.sl
    have hns : v.scopd h.size = true → v = .slice none 0 0 ∧ ki ks = [] := by
      intro hsc
      rcases p3 with ⟨q1, rfl, rfl⟩ | q
      · have := g.size; simp [V.scopd] at hsc; omega
      · obtain ⟨_, ⟨rfl, q2⟩ | ⟨b, S, rfl, _, q3, _⟩⟩ := q
        · exact ⟨rfl, by simpa using q2⟩
        · simp [V.scopd] at hsc; have := q3.1; omega
    refine ⟨trivial, p2.wf, v, rfl, fun h3 g3 => ⟨hsl.grow g3, p2.trans g3, hns⟩, fun hsc => ?_⟩
    obtain ⟨rfl, q2⟩ := hns hsc
    rw [q2]; exact ⟨Sl.nil h 1, Grow.refl hw, fun _ => ⟨rfl, rfl⟩⟩
  have hy3 := hy.2
  split at hy3
  · obtain ⟨rfl, rfl, hnil⟩ := hy3
    refine WO.ops (StepK.eq rfl rfl rfl) (WO.nil (WC.condT rfl (WC.seqO ?_)))
    (repeat (first | refine WO.ops (StepK.mv rfl) ?_ | refine WO.ops (StepK.lenSl rfl (by first | with_reducible assumption | rfl)) ?_ | refine WO.ops (StepK.fieldAddr rfl) ?_ | refine WO.ops (StepK.add rfl rfl (by omega)) ?_ | refine WO.ops (StepK.sub rfl rfl (by omega)) ?_ | refine WO.ops (StepK.bin rfl rfl rfl) ?_ | refine WO.ops (StepK.pickT rfl rfl) ?_ | refine WO.ops (StepK.pickF rfl rfl) ?_ | refine WO.ops (StepK.not rfl) ?_ | refine WO.ops (StepK.eq rfl rfl rfl) ?_ | refine WO.ops (StepK.extract rfl rfl) ?_ | refine WO.ops (StepK.build rfl rfl) ?_ | refine WO.ops (StepK.mkFn rfl rfl) ?_ | refine WO.ops (StepK.field rfl rfl) ?_ | refine WO.ops (StepK.lenStr rfl) ?_ | refine WO.ops (StepK.nilck rfl) ?_ | refine WO.ops (StepK.min2 rfl rfl) ?_ | refine WO.ops (StepK.max2 rfl rfl) ?_ | refine WO.ops (StepK.load1 rfl (by first | with_reducible assumption | rfl)) ?_ | refine WO.run rfl ?_ | refine WO.skip rfl rfl ?_ | refine WO.skipu rfl ?_))
    rw [hnil]
    exact WO.nil (WC.ret ⟨trivial, g.wf, _, rfl, fun h3 g3 => ⟨Sl.nil h3 1, g.trans g3, fun _ => ⟨rfl, rfl⟩⟩, fun _ => ⟨Sl.nil h 1, Grow.refl hw, fun _ => ⟨rfl, rfl⟩⟩⟩)
  · refine WO.ops (StepK.eq rfl rfl rfl) (WO.nil (WC.condF rfl (WC.skip ?_)))
    exact go _ (Cov.cons rfl (Cov.nil _))
  · refine WO.ops (StepK.eq rfl rfl rfl) (WO.nil (WC.condF rfl (WC.skip ?_)))
    exact go _ (Cov.cons rfl (Cov.nil _))
  · exact hy3.elim

section
variable {h : Heap} (hw : Wf h) {a : Nat} {s : AS} {F : List Nat} (A : ArcAt h a s F)
include hw A

theorem target_ans : Ans C 20 [.ptr (some (a, 0))] h fun v h' => v = iv s.p ∧ Grow h h' := by
  have hF : C.F 20 = some a20 := S.f rfl
  unfold a20 at hF
  refine Ans.val (fun _ _ => S.s _ _ _ (by decide)) hF rfl rfl hw fun h2 g0 => ?_
  clear hF
  have r0 := (A.grow g0).rdp
  refine WC.seqO ?_
  (repeat (first | refine WO.ops (StepK.mv rfl) ?_ | refine WO.ops (StepK.lenSl rfl (by first | with_reducible assumption | rfl)) ?_ | refine WO.ops (StepK.fieldAddr rfl) ?_ | refine WO.ops (StepK.add rfl rfl (by omega)) ?_ | refine WO.ops (StepK.sub rfl rfl (by omega)) ?_ | refine WO.ops (StepK.bin rfl rfl rfl) ?_ | refine WO.ops (StepK.pickT rfl rfl) ?_ | refine WO.ops (StepK.pickF rfl rfl) ?_ | refine WO.ops (StepK.not rfl) ?_ | refine WO.ops (StepK.eq rfl rfl rfl) ?_ | refine WO.ops (StepK.extract rfl rfl) ?_ | refine WO.ops (StepK.build rfl rfl) ?_ | refine WO.ops (StepK.mkFn rfl rfl) ?_ | refine WO.ops (StepK.field rfl rfl) ?_ | refine WO.ops (StepK.lenStr rfl) ?_ | refine WO.ops (StepK.nilck rfl) ?_ | refine WO.ops (StepK.min2 rfl rfl) ?_ | refine WO.ops (StepK.max2 rfl rfl) ?_ | refine WO.ops (StepK.load1 rfl (by first | with_reducible assumption | rfl)) ?_ | refine WO.run rfl ?_ | refine WO.skip rfl rfl ?_ | refine WO.skipu rfl ?_))
  refine WO.nil (WC.seq (WC.seqO ?_))
  (repeat (first | refine WO.ops (StepK.mv rfl) ?_ | refine WO.ops (StepK.lenSl rfl (by first | with_reducible assumption | rfl)) ?_ | refine WO.ops (StepK.fieldAddr rfl) ?_ | refine WO.ops (StepK.add rfl rfl (by omega)) ?_ | refine WO.ops (StepK.sub rfl rfl (by omega)) ?_ | refine WO.ops (StepK.bin rfl rfl rfl) ?_ | refine WO.ops (StepK.pickT rfl rfl) ?_ | refine WO.ops (StepK.pickF rfl rfl) ?_ | refine WO.ops (StepK.not rfl) ?_ | refine WO.ops (StepK.eq rfl rfl rfl) ?_ | refine WO.ops (StepK.extract rfl rfl) ?_ | refine WO.ops (StepK.build rfl rfl) ?_ | refine WO.ops (StepK.mkFn rfl rfl) ?_ | refine WO.ops (StepK.field rfl rfl) ?_ | refine WO.ops (StepK.lenStr rfl) ?_ | refine WO.ops (StepK.nilck rfl) ?_ | refine WO.ops (StepK.min2 rfl rfl) ?_ | refine WO.ops (StepK.max2 rfl rfl) ?_ | refine WO.ops (StepK.load1 rfl (by first | with_reducible assumption | rfl)) ?_ | refine WO.run rfl ?_ | refine WO.skip rfl rfl ?_ | refine WO.skipu rfl ?_))
  refine WO.nil (WC.condF rfl (WC.skip (WC.seqO ?_)))
  (repeat (first | refine WO.ops (StepK.mv rfl) ?_ | refine WO.ops (StepK.lenSl rfl (by first | with_reducible assumption | rfl)) ?_ | refine WO.ops (StepK.fieldAddr rfl) ?_ | refine WO.ops (StepK.add rfl rfl (by omega)) ?_ | refine WO.ops (StepK.sub rfl rfl (by omega)) ?_ | refine WO.ops (StepK.bin rfl rfl rfl) ?_ | refine WO.ops (StepK.pickT rfl rfl) ?_ | refine WO.ops (StepK.pickF rfl rfl) ?_ | refine WO.ops (StepK.not rfl) ?_ | refine WO.ops (StepK.eq rfl rfl rfl) ?_ | refine WO.ops (StepK.extract rfl rfl) ?_ | refine WO.ops (StepK.build rfl rfl) ?_ | refine WO.ops (StepK.mkFn rfl rfl) ?_ | refine WO.ops (StepK.field rfl rfl) ?_ | refine WO.ops (StepK.lenStr rfl) ?_ | refine WO.ops (StepK.nilck rfl) ?_ | refine WO.ops (StepK.min2 rfl rfl) ?_ | refine WO.ops (StepK.max2 rfl rfl) ?_ | refine WO.ops (StepK.load1 rfl (by first | with_reducible assumption | rfl)) ?_ | refine WO.run rfl ?_ | refine WO.skip rfl rfl ?_ | refine WO.skipu rfl ?_))
  exact WO.nil (WC.ret ⟨trivial, g0, rfl⟩)

theorem lists_ans (hb : Bd s) : Ans C 19 [.ptr (some (a, 0))] h fun v h' => ∃ u1 u2 u3 u4, v = .tuple [u1, u2, u3, u4] ∧ (Sl h' 1 u1 (ki s.t1) ∧ Sl h' 1 u2 (ki s.t2) ∧ Sl h' 1 u3 (ki s.b1) ∧ Sl h' 1 u4 (ki s.b2)) ∧ Grow h h' := by
  have hF : C.F 19 = some a19 := S.f rfl
  unfold a19 at hF
  refine Ans.fn (fun _ _ => S.s _ _ _ (by decide)) hF rfl rfl hw fun h2 g0 => ?_
  clear hF
  have A2 := A.grow g0
  obtain ⟨c1, x1, G1, l1, _⟩ := A2.op g0.wf 0 (by decide)
  obtain ⟨c2, x2, G2, l2, _⟩ := A2.op g0.wf 1 (by decide)
  obtain ⟨c3, x3, G3, l3, _⟩ := A2.op g0.wf 2 (by decide)
  obtain ⟨c4, x4, G4, l4, _⟩ := A2.op g0.wf 3 (by decide)
  have r1 : h2.rd a (0 + 0 + 0) = some x1 := l1.rd
  have r2 : h2.rd a (0 + 1 + 0) = some x2 := l2.rd
  have r3 : h2.rd a (0 + 2 + 0) = some x3 := l3.rd
  have r4 : h2.rd a (0 + 3 + 0) = some x4 := l4.rd
  refine WC.seqO ?_
  (repeat (first | refine WO.ops (StepK.mv rfl) ?_ | refine WO.ops (StepK.lenSl rfl (by first | with_reducible assumption | rfl)) ?_ | refine WO.ops (StepK.fieldAddr rfl) ?_ | refine WO.ops (StepK.add rfl rfl (by omega)) ?_ | refine WO.ops (StepK.sub rfl rfl (by omega)) ?_ | refine WO.ops (StepK.bin rfl rfl rfl) ?_ | refine WO.ops (StepK.pickT rfl rfl) ?_ | refine WO.ops (StepK.pickF rfl rfl) ?_ | refine WO.ops (StepK.not rfl) ?_ | refine WO.ops (StepK.eq rfl rfl rfl) ?_ | refine WO.ops (StepK.extract rfl rfl) ?_ | refine WO.ops (StepK.build rfl rfl) ?_ | refine WO.ops (StepK.mkFn rfl rfl) ?_ | refine WO.ops (StepK.field rfl rfl) ?_ | refine WO.ops (StepK.lenStr rfl) ?_ | refine WO.ops (StepK.nilck rfl) ?_ | refine WO.ops (StepK.min2 rfl rfl) ?_ | refine WO.ops (StepK.max2 rfl rfl) ?_ | refine WO.ops (StepK.load1 rfl (by first | with_reducible assumption | rfl)) ?_ | refine WO.run rfl ?_ | refine WO.skip rfl rfl ?_ | refine WO.skipu rfl ?_))
  refine WO.nil (WC.seq (WC.seqO ?_))
  (repeat (first | refine WO.ops (StepK.mv rfl) ?_ | refine WO.ops (StepK.lenSl rfl (by first | with_reducible assumption | rfl)) ?_ | refine WO.ops (StepK.fieldAddr rfl) ?_ | refine WO.ops (StepK.add rfl rfl (by omega)) ?_ | refine WO.ops (StepK.sub rfl rfl (by omega)) ?_ | refine WO.ops (StepK.bin rfl rfl rfl) ?_ | refine WO.ops (StepK.pickT rfl rfl) ?_ | refine WO.ops (StepK.pickF rfl rfl) ?_ | refine WO.ops (StepK.not rfl) ?_ | refine WO.ops (StepK.eq rfl rfl rfl) ?_ | refine WO.ops (StepK.extract rfl rfl) ?_ | refine WO.ops (StepK.build rfl rfl) ?_ | refine WO.ops (StepK.mkFn rfl rfl) ?_ | refine WO.ops (StepK.field rfl rfl) ?_ | refine WO.ops (StepK.lenStr rfl) ?_ | refine WO.ops (StepK.nilck rfl) ?_ | refine WO.ops (StepK.min2 rfl rfl) ?_ | refine WO.ops (StepK.max2 rfl rfl) ?_ | refine WO.ops (StepK.load1 rfl (by first | with_reducible assumption | rfl)) ?_ | refine WO.run rfl ?_ | refine WO.skip rfl rfl ?_ | refine WO.skipu rfl ?_))
  refine WO.nil (WC.condF rfl (WC.skip (WC.seqD ?_)))
  (repeat (first | refine WD.pure (StepK.mv rfl) rfl ?_ | refine WD.pure (StepK.lenSl rfl (by first | with_reducible assumption | rfl)) rfl ?_ | refine WD.pure (StepK.fieldAddr rfl) rfl ?_ | refine WD.pure (StepK.add rfl rfl (by omega)) rfl ?_ | refine WD.pure (StepK.sub rfl rfl (by omega)) rfl ?_ | refine WD.pure (StepK.bin rfl rfl rfl) rfl ?_ | refine WD.pure (StepK.pickT rfl rfl) rfl ?_ | refine WD.pure (StepK.pickF rfl rfl) rfl ?_ | refine WD.pure (StepK.not rfl) rfl ?_ | refine WD.pure (StepK.eq rfl rfl rfl) rfl ?_ | refine WD.pure (StepK.extract rfl rfl) rfl ?_ | refine WD.pure (StepK.build rfl rfl) rfl ?_ | refine WD.pure (StepK.mkFn rfl rfl) rfl ?_ | refine WD.pure (StepK.field rfl rfl) rfl ?_ | refine WD.pure (StepK.lenStr rfl) rfl ?_ | refine WD.pure (StepK.nilck rfl) rfl ?_ | refine WD.pure (StepK.min2 rfl rfl) rfl ?_ | refine WD.pure (StepK.max2 rfl rfl) rfl ?_ | refine WD.load1 rfl (by first | with_reducible assumption | rfl) ?_ | refine WD.run rfl ?_ | refine WD.skipn rfl rfl rfl ?_ | refine WD.skipun rfl rfl ?_))
  refine WD.call ⟨r4, r3, r2, r1, trivial⟩ rfl rfl (clone_ans S h2 g0.wf x1 _ l1.sl (by have := hb 0; omega)) ?_
  rintro u1 h3 ⟨s1, g3, n1⟩
  refine WD.call ⟨g3.rd r4, g3.rd r3, g3.rd r2, trivial⟩ rfl rfl (clone_ans S h3 g3.wf x2 _ (l2.sl.grow g3) (by have := hb 1; omega)) ?_
  rintro u2 h4 ⟨s2, g4, n2⟩
  have g34 := g3.trans g4
  refine WD.call ⟨g34.rd r4, g34.rd r3, trivial⟩ rfl rfl (clone_ans S h4 g4.wf x3 _ (l3.sl.grow g34) (by have := hb 2; omega)) ?_
  rintro u3 h5 ⟨s3, g5, n3⟩
  have g35 := g34.trans g5
  refine WD.call ⟨g35.rd r4, trivial⟩ rfl rfl (clone_ans S h5 g5.wf x4 _ (l4.sl.grow g35) (by have := hb 3; omega)) ?_
  rintro u4 h6 ⟨s4, g6, n4⟩
  have g36 := g35.trans g6
  (repeat (first | refine WD.pure (StepK.mv rfl) rfl ?_ | refine WD.pure (StepK.lenSl rfl (by first | with_reducible assumption | rfl)) rfl ?_ | refine WD.pure (StepK.fieldAddr rfl) rfl ?_ | refine WD.pure (StepK.add rfl rfl (by omega)) rfl ?_ | refine WD.pure (StepK.sub rfl rfl (by omega)) rfl ?_ | refine WD.pure (StepK.bin rfl rfl rfl) rfl ?_ | refine WD.pure (StepK.pickT rfl rfl) rfl ?_ | refine WD.pure (StepK.pickF rfl rfl) rfl ?_ | refine WD.pure (StepK.not rfl) rfl ?_ | refine WD.pure (StepK.eq rfl rfl rfl) rfl ?_ | refine WD.pure (StepK.extract rfl rfl) rfl ?_ | refine WD.pure (StepK.build rfl rfl) rfl ?_ | refine WD.pure (StepK.mkFn rfl rfl) rfl ?_ | refine WD.pure (StepK.field rfl rfl) rfl ?_ | refine WD.pure (StepK.lenStr rfl) rfl ?_ | refine WD.pure (StepK.nilck rfl) rfl ?_ | refine WD.pure (StepK.min2 rfl rfl) rfl ?_ | refine WD.pure (StepK.max2 rfl rfl) rfl ?_ | refine WD.load1 rfl (by first | with_reducible assumption | rfl) ?_ | refine WD.run rfl ?_ | refine WD.skipn rfl rfl rfl ?_ | refine WD.skipun rfl rfl ?_))
  have t1 := s1.grow ((g4.trans g5).trans g6)
  have t2 := s2.grow (g5.trans g6)
  have t3 := s3.grow g6
  refine WD.nil trivial (WC.ret ⟨trivial, g6.wf, .tuple [u1, u2, u3, u4], rfl, fun h7 g7 => ⟨u1, u2, u3, u4, rfl, ⟨t1.grow g7, t2.grow g7, t3.grow g7, s4.grow g7⟩, (g0.trans g36).trans g7⟩, fun hsc => ?_⟩)
  simp only [V.scopd, V.scopeds, Bool.and_eq_true] at hsc
  obtain ⟨y1, y2, y3, y4, _⟩ := hsc
  obtain ⟨rfl, z1⟩ := n1 (scoped_up s1 g0.size y1)
  obtain ⟨rfl, z2⟩ := n2 (scoped_up s2 (g0.trans g3).size y2)
  obtain ⟨rfl, z3⟩ := n3 (scoped_up s3 (g0.trans g34).size y3)
  obtain ⟨rfl, z4⟩ := n4 (scoped_up s4 (g0.trans g35).size y4)
  refine ⟨_, _, _, _, rfl, ⟨?_, ?_, ?_, ?_⟩, Grow.refl hw⟩
  · have e : ki s.t1 = [] := z1
    rw [e]; exact Sl.nil h 1
  · have e : ki s.t2 = [] := z2
    rw [e]; exact Sl.nil h 1
  · have e : ki s.b1 = [] := z3
    rw [e]; exact Sl.nil h 1
  · have e : ki s.b2 = [] := z4
    rw [e]; exact Sl.nil h 1

theorem hasArc (hb : Bd s) (k : List Nat) : Ans C 17 [.ptr (some (a, 0)), .str k] h fun v h' => v = .bool (hasS s k) ∧ APost h h' a F s := by
  have hF : C.F 17 = some a17 := S.f rfl
  unfold a17 at hF
  refine Ans.fnM (fun _ _ => S.s _ _ _ (by decide)) hF rfl rfl hw fun h2 g0 hsz hge => ?_
  clear hF
  have A2 := A.grow g0
  refine WC.seqO ?_
  (repeat (first | refine WO.ops (StepK.mv rfl) ?_ | refine WO.ops (StepK.lenSl rfl (by first | with_reducible assumption | rfl)) ?_ | refine WO.ops (StepK.fieldAddr rfl) ?_ | refine WO.ops (StepK.add rfl rfl (by omega)) ?_ | refine WO.ops (StepK.sub rfl rfl (by omega)) ?_ | refine WO.ops (StepK.bin rfl rfl rfl) ?_ | refine WO.ops (StepK.pickT rfl rfl) ?_ | refine WO.ops (StepK.pickF rfl rfl) ?_ | refine WO.ops (StepK.not rfl) ?_ | refine WO.ops (StepK.eq rfl rfl rfl) ?_ | refine WO.ops (StepK.extract rfl rfl) ?_ | refine WO.ops (StepK.build rfl rfl) ?_ | refine WO.ops (StepK.mkFn rfl rfl) ?_ | refine WO.ops (StepK.field rfl rfl) ?_ | refine WO.ops (StepK.lenStr rfl) ?_ | refine WO.ops (StepK.nilck rfl) ?_ | refine WO.ops (StepK.min2 rfl rfl) ?_ | refine WO.ops (StepK.max2 rfl rfl) ?_ | refine WO.ops (StepK.load1 rfl (by first | with_reducible assumption | rfl)) ?_ | refine WO.run rfl ?_ | refine WO.skip rfl rfl ?_ | refine WO.skipu rfl ?_))
  refine WO.nil (WC.seqD ?_)
  (repeat (first | refine WD.pure (StepK.mv rfl) rfl ?_ | refine WD.pure (StepK.lenSl rfl (by first | with_reducible assumption | rfl)) rfl ?_ | refine WD.pure (StepK.fieldAddr rfl) rfl ?_ | refine WD.pure (StepK.add rfl rfl (by omega)) rfl ?_ | refine WD.pure (StepK.sub rfl rfl (by omega)) rfl ?_ | refine WD.pure (StepK.bin rfl rfl rfl) rfl ?_ | refine WD.pure (StepK.pickT rfl rfl) rfl ?_ | refine WD.pure (StepK.pickF rfl rfl) rfl ?_ | refine WD.pure (StepK.not rfl) rfl ?_ | refine WD.pure (StepK.eq rfl rfl rfl) rfl ?_ | refine WD.pure (StepK.extract rfl rfl) rfl ?_ | refine WD.pure (StepK.build rfl rfl) rfl ?_ | refine WD.pure (StepK.mkFn rfl rfl) rfl ?_ | refine WD.pure (StepK.field rfl rfl) rfl ?_ | refine WD.pure (StepK.lenStr rfl) rfl ?_ | refine WD.pure (StepK.nilck rfl) rfl ?_ | refine WD.pure (StepK.min2 rfl rfl) rfl ?_ | refine WD.pure (StepK.max2 rfl rfl) rfl ?_ | refine WD.load1 rfl (by first | with_reducible assumption | rfl) ?_ | refine WD.run rfl ?_ | refine WD.skipn rfl rfl rfl ?_ | refine WD.skipun rfl rfl ?_))
  refine WD.alloc rfl (StepK.buildSl (cs := [.ptr (some (a, 0)), .ptr (some (a, 1))]) rfl rfl) ?_
  have gp : Grow h2 (h2.push (.cells [.ptr (some (a, 0)), .ptr (some (a, 1))] (.tip [] 0))) := (Grow.refl g0.wf).push _
  have hself := get_push_self h2 (.cells [.ptr (some (a, 0)), .ptr (some (a, 1))] (.tip [] 0))
  have hxF : h2.size ∉ F := fun hm => by have := A2.lows g0.wf _ hm; omega
  have D : Does1 C 33 k a (fH k) [.ptr (some (a, 0)), .ptr (some (a, 1))] := by
    intro p hp s h F hw A hb
    simp only [List.mem_cons, List.mem_nil_iff, or_false] at hp
    rcases hp with rfl | rfl
    · exact (hasA S hw A 0 (by decide) k (hb 0)).mono fun v h' ⟨q1, q2⟩ => ⟨q1, A.post q2, .inr rfl⟩
    · exact (hasA S hw A 1 (by decide) k (hb 1)).mono fun v h' ⟨q1, q2⟩ => ⟨q1, A.post q2, .inr rfl⟩
  refine WD.run rfl ?_
  refine WD.call ⟨hself, trivial⟩ rfl rfl (any_ans S D (fun p s hb => hb) gp.wf (A2.grow gp) hb hself hxF (by simp)) ?_
  rw [(has_idx k s a).1, (has_idx k s a).2]
  rintro v h3 ⟨rfl, p1, p2⟩
  have p1 := p1.growl (g0.trans gp)
  (repeat (first | refine WD.pure (StepK.mv rfl) rfl ?_ | refine WD.pure (StepK.lenSl rfl (by first | with_reducible assumption | rfl)) rfl ?_ | refine WD.pure (StepK.fieldAddr rfl) rfl ?_ | refine WD.pure (StepK.add rfl rfl (by omega)) rfl ?_ | refine WD.pure (StepK.sub rfl rfl (by omega)) rfl ?_ | refine WD.pure (StepK.bin rfl rfl rfl) rfl ?_ | refine WD.pure (StepK.pickT rfl rfl) rfl ?_ | refine WD.pure (StepK.pickF rfl rfl) rfl ?_ | refine WD.pure (StepK.not rfl) rfl ?_ | refine WD.pure (StepK.eq rfl rfl rfl) rfl ?_ | refine WD.pure (StepK.extract rfl rfl) rfl ?_ | refine WD.pure (StepK.build rfl rfl) rfl ?_ | refine WD.pure (StepK.mkFn rfl rfl) rfl ?_ | refine WD.pure (StepK.field rfl rfl) rfl ?_ | refine WD.pure (StepK.lenStr rfl) rfl ?_ | refine WD.pure (StepK.nilck rfl) rfl ?_ | refine WD.pure (StepK.min2 rfl rfl) rfl ?_ | refine WD.pure (StepK.max2 rfl rfl) rfl ?_ | refine WD.load1 rfl (by first | with_reducible assumption | rfl) ?_ | refine WD.run rfl ?_ | refine WD.skipn rfl rfl rfl ?_ | refine WD.skipun rfl rfl ?_))
  exact WD.nil trivial (WC.ret ⟨trivial, _, rfl, fun n hn => ⟨rfl, p1.low n⟩, fun _ _ => ⟨rfl, A.post (Grow.refl hw)⟩⟩)

theorem dropArc (hb : Bd s) (k : List Nat) : Ans C 14 [.ptr (some (a, 0)), .str k] h fun v h' => v = .bool (hasS s k) ∧ APost h h' a F (dropS s k) ∧ (h'.low ≤ a ∨ dropS s k = s) := by
  have hF : C.F 14 = some a14 := S.f rfl
  unfold a14 at hF
  refine Ans.fnM (fun _ _ => S.s _ _ _ (by decide)) hF rfl rfl hw fun h2 g0 hsz hge => ?_
  clear hF
  have A2 := A.grow g0
  have ha := A.at_lt hw
  refine WC.seqO ?_
  (repeat (first | refine WO.ops (StepK.mv rfl) ?_ | refine WO.ops (StepK.lenSl rfl (by first | with_reducible assumption | rfl)) ?_ | refine WO.ops (StepK.fieldAddr rfl) ?_ | refine WO.ops (StepK.add rfl rfl (by omega)) ?_ | refine WO.ops (StepK.sub rfl rfl (by omega)) ?_ | refine WO.ops (StepK.bin rfl rfl rfl) ?_ | refine WO.ops (StepK.pickT rfl rfl) ?_ | refine WO.ops (StepK.pickF rfl rfl) ?_ | refine WO.ops (StepK.not rfl) ?_ | refine WO.ops (StepK.eq rfl rfl rfl) ?_ | refine WO.ops (StepK.extract rfl rfl) ?_ | refine WO.ops (StepK.build rfl rfl) ?_ | refine WO.ops (StepK.mkFn rfl rfl) ?_ | refine WO.ops (StepK.field rfl rfl) ?_ | refine WO.ops (StepK.lenStr rfl) ?_ | refine WO.ops (StepK.nilck rfl) ?_ | refine WO.ops (StepK.min2 rfl rfl) ?_ | refine WO.ops (StepK.max2 rfl rfl) ?_ | refine WO.ops (StepK.load1 rfl (by first | with_reducible assumption | rfl)) ?_ | refine WO.run rfl ?_ | refine WO.skip rfl rfl ?_ | refine WO.skipu rfl ?_))
  refine WO.nil (WC.seq (WC.seqO ?_))
  (repeat (first | refine WO.ops (StepK.mv rfl) ?_ | refine WO.ops (StepK.lenSl rfl (by first | with_reducible assumption | rfl)) ?_ | refine WO.ops (StepK.fieldAddr rfl) ?_ | refine WO.ops (StepK.add rfl rfl (by omega)) ?_ | refine WO.ops (StepK.sub rfl rfl (by omega)) ?_ | refine WO.ops (StepK.bin rfl rfl rfl) ?_ | refine WO.ops (StepK.pickT rfl rfl) ?_ | refine WO.ops (StepK.pickF rfl rfl) ?_ | refine WO.ops (StepK.not rfl) ?_ | refine WO.ops (StepK.eq rfl rfl rfl) ?_ | refine WO.ops (StepK.extract rfl rfl) ?_ | refine WO.ops (StepK.build rfl rfl) ?_ | refine WO.ops (StepK.mkFn rfl rfl) ?_ | refine WO.ops (StepK.field rfl rfl) ?_ | refine WO.ops (StepK.lenStr rfl) ?_ | refine WO.ops (StepK.nilck rfl) ?_ | refine WO.ops (StepK.min2 rfl rfl) ?_ | refine WO.ops (StepK.max2 rfl rfl) ?_ | refine WO.ops (StepK.load1 rfl (by first | with_reducible assumption | rfl)) ?_ | refine WO.run rfl ?_ | refine WO.skip rfl rfl ?_ | refine WO.skipu rfl ?_))
  refine WO.nil (WC.condF rfl (WC.skip (WC.seqO ?_)))
  (repeat (first | refine WO.ops (StepK.mv rfl) ?_ | refine WO.ops (StepK.lenSl rfl (by first | with_reducible assumption | rfl)) ?_ | refine WO.ops (StepK.fieldAddr rfl) ?_ | refine WO.ops (StepK.add rfl rfl (by omega)) ?_ | refine WO.ops (StepK.sub rfl rfl (by omega)) ?_ | refine WO.ops (StepK.bin rfl rfl rfl) ?_ | refine WO.ops (StepK.pickT rfl rfl) ?_ | refine WO.ops (StepK.pickF rfl rfl) ?_ | refine WO.ops (StepK.not rfl) ?_ | refine WO.ops (StepK.eq rfl rfl rfl) ?_ | refine WO.ops (StepK.extract rfl rfl) ?_ | refine WO.ops (StepK.build rfl rfl) ?_ | refine WO.ops (StepK.mkFn rfl rfl) ?_ | refine WO.ops (StepK.field rfl rfl) ?_ | refine WO.ops (StepK.lenStr rfl) ?_ | refine WO.ops (StepK.nilck rfl) ?_ | refine WO.ops (StepK.min2 rfl rfl) ?_ | refine WO.ops (StepK.max2 rfl rfl) ?_ | refine WO.ops (StepK.load1 rfl (by first | with_reducible assumption | rfl)) ?_ | refine WO.run rfl ?_ | refine WO.skip rfl rfl ?_ | refine WO.skipu rfl ?_))
  refine WO.call rfl rfl (hasArc (h := h2) S g0.wf A2 hb k) ?_
  rintro v h3 ⟨rfl, p3⟩
  have w3 := p3.wf
  obtain ⟨F3, A3, c3, m3⟩ := p3
  (repeat (first | refine WO.ops (StepK.mv rfl) ?_ | refine WO.ops (StepK.lenSl rfl (by first | with_reducible assumption | rfl)) ?_ | refine WO.ops (StepK.fieldAddr rfl) ?_ | refine WO.ops (StepK.add rfl rfl (by omega)) ?_ | refine WO.ops (StepK.sub rfl rfl (by omega)) ?_ | refine WO.ops (StepK.bin rfl rfl rfl) ?_ | refine WO.ops (StepK.pickT rfl rfl) ?_ | refine WO.ops (StepK.pickF rfl rfl) ?_ | refine WO.ops (StepK.not rfl) ?_ | refine WO.ops (StepK.eq rfl rfl rfl) ?_ | refine WO.ops (StepK.extract rfl rfl) ?_ | refine WO.ops (StepK.build rfl rfl) ?_ | refine WO.ops (StepK.mkFn rfl rfl) ?_ | refine WO.ops (StepK.field rfl rfl) ?_ | refine WO.ops (StepK.lenStr rfl) ?_ | refine WO.ops (StepK.nilck rfl) ?_ | refine WO.ops (StepK.min2 rfl rfl) ?_ | refine WO.ops (StepK.max2 rfl rfl) ?_ | refine WO.ops (StepK.load1 rfl (by first | with_reducible assumption | rfl)) ?_ | refine WO.run rfl ?_ | refine WO.skip rfl rfl ?_ | refine WO.skipu rfl ?_))
  refine WO.nil (WC.seqD ?_)
  (repeat (first | refine WD.pure (StepK.mv rfl) rfl ?_ | refine WD.pure (StepK.lenSl rfl (by first | with_reducible assumption | rfl)) rfl ?_ | refine WD.pure (StepK.fieldAddr rfl) rfl ?_ | refine WD.pure (StepK.add rfl rfl (by omega)) rfl ?_ | refine WD.pure (StepK.sub rfl rfl (by omega)) rfl ?_ | refine WD.pure (StepK.bin rfl rfl rfl) rfl ?_ | refine WD.pure (StepK.pickT rfl rfl) rfl ?_ | refine WD.pure (StepK.pickF rfl rfl) rfl ?_ | refine WD.pure (StepK.not rfl) rfl ?_ | refine WD.pure (StepK.eq rfl rfl rfl) rfl ?_ | refine WD.pure (StepK.extract rfl rfl) rfl ?_ | refine WD.pure (StepK.build rfl rfl) rfl ?_ | refine WD.pure (StepK.mkFn rfl rfl) rfl ?_ | refine WD.pure (StepK.field rfl rfl) rfl ?_ | refine WD.pure (StepK.lenStr rfl) rfl ?_ | refine WD.pure (StepK.nilck rfl) rfl ?_ | refine WD.pure (StepK.min2 rfl rfl) rfl ?_ | refine WD.pure (StepK.max2 rfl rfl) rfl ?_ | refine WD.load1 rfl (by first | with_reducible assumption | rfl) ?_ | refine WD.run rfl ?_ | refine WD.skipn rfl rfl rfl ?_ | refine WD.skipun rfl rfl ?_))
  refine WD.alloc rfl (StepK.buildSl (cs := [.ptr (some (a, 0)), .ptr (some (a, 1)), .ptr (some (a, 2)), .ptr (some (a, 3))]) rfl rfl) ?_
  have gp : Grow h3 (h3.push (.cells [.ptr (some (a, 0)), .ptr (some (a, 1)), .ptr (some (a, 2)), .ptr (some (a, 3))] (.tip [] 0))) := (Grow.refl w3).push _
  have hself := get_push_self h3 (.cells [.ptr (some (a, 0)), .ptr (some (a, 1)), .ptr (some (a, 2)), .ptr (some (a, 3))] (.tip [] 0))
  have hxF : h3.size ∉ F3 := fun hm => by have := A3.lows w3 _ hm; omega
  have D : Does1 C 32 k a (fT k) [.ptr (some (a, 0)), .ptr (some (a, 1)), .ptr (some (a, 2)), .ptr (some (a, 3))] := by
    intro p hp s h F hw A hb
    have go : ∀ i, i < 4 → p = .ptr (some (a, i)) → Ans C 32 [p, .str k] h fun v h' => v = .bool (fT k p s).1 ∧ APost h h' a F (fT k p s).2 ∧ (h'.low ≤ a ∨ (fT k p s).2 = s) := by
      rintro i hi rfl
      refine (takeA S hw A i hi k (hb i)).mono fun v h' ⟨q1, q2, q3⟩ => ⟨q1, q2, ?_⟩
      rcases q3 with e | e
      · exact .inl e
      · exact .inr (fT_no (p := .ptr (some (a, i))) e)
    simp only [List.mem_cons, List.mem_nil_iff, or_false] at hp
    rcases hp with e | e | e | e
    · exact go 0 (by decide) e
    · exact go 1 (by decide) e
    · exact go 2 (by decide) e
    · exact go 3 (by decide) e
  refine WD.call ⟨hself, trivial⟩ rfl rfl (any_ans S D (fun p s hb => put_bd hb _ (Nat.le_trans List.length_erase_le (hb _))) gp.wf (A3.grow gp) hb hself hxF (by simp)) ?_
  rw [drop_idx]
  rintro v h4 ⟨rfl, p4, lo⟩
  have p4 := p4.growl gp
  have post : APost h h4 a F (dropS s k) := by
    obtain ⟨F4, q1, q2, q3⟩ := p4
    exact ⟨F4, q1, (Chg.growl g0 c3).trans q2 hw (fun b hb => by
      rcases m3 b hb with e | e
      · exact .inl e
      · exact .inr (Nat.le_trans g0.size e)), fun b hb => by
      rcases q3 b hb with e | e
      · rcases m3 b e with e2 | e2
        · exact .inl e2
        · exact .inr (Nat.le_trans g0.size e2)
      · exact .inr (Nat.le_trans (Nat.le_trans g0.size c3.size) e)⟩
  refine WD.nil trivial (WC.seqO ?_)
  (repeat (first | refine WO.ops (StepK.mv rfl) ?_ | refine WO.ops (StepK.lenSl rfl (by first | with_reducible assumption | rfl)) ?_ | refine WO.ops (StepK.fieldAddr rfl) ?_ | refine WO.ops (StepK.add rfl rfl (by omega)) ?_ | refine WO.ops (StepK.sub rfl rfl (by omega)) ?_ | refine WO.ops (StepK.bin rfl rfl rfl) ?_ | refine WO.ops (StepK.pickT rfl rfl) ?_ | refine WO.ops (StepK.pickF rfl rfl) ?_ | refine WO.ops (StepK.not rfl) ?_ | refine WO.ops (StepK.eq rfl rfl rfl) ?_ | refine WO.ops (StepK.extract rfl rfl) ?_ | refine WO.ops (StepK.build rfl rfl) ?_ | refine WO.ops (StepK.mkFn rfl rfl) ?_ | refine WO.ops (StepK.field rfl rfl) ?_ | refine WO.ops (StepK.lenStr rfl) ?_ | refine WO.ops (StepK.nilck rfl) ?_ | refine WO.ops (StepK.min2 rfl rfl) ?_ | refine WO.ops (StepK.max2 rfl rfl) ?_ | refine WO.ops (StepK.load1 rfl (by first | with_reducible assumption | rfl)) ?_ | refine WO.run rfl ?_ | refine WO.skip rfl rfl ?_ | refine WO.skipu rfl ?_))
  refine WO.nil (WC.ret ⟨trivial, _, rfl, fun n hn => ⟨rfl, post.low n, ?_⟩, fun hc _ => ⟨rfl, ?_⟩⟩)
  · rcases lo with e | e
    · exact .inl (Nat.le_trans hn e)
    · exact .inr e
  · rcases lo with e | e
    · omega
    · rw [e]; exact ⟨A.post (Grow.refl hw), .inr rfl⟩
end
end Abs
end Go.Proofs.Ytnbljblnikdeiaa
