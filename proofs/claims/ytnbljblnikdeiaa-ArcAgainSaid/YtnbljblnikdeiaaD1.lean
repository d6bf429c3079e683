/- Layer 11: the cache's lists of keys. -/
import Derived.Test.YtnbljblnikdeiaaIR
import Derived.Test.YtnbljblnikdeiaaA26
namespace Go.Proofs.Ytnbljblnikdeiaa
namespace Abs
set_option linter.unusedVariables false
set_option linter.unusedSimpArgs false
set_option maxHeartbeats 1600000
open Go.RowKit
attribute [local irreducible] WO WC WD StepK Ans Does Runs DoesD

/-- What is so of the machine that runs these functions: live() is answered at once. -/
structure Std (C : Cfg) : Prop where
  s : ∀ f args h, f ≠ 9 → C.S f args h = none
  t : C.F = tab
  live : ∀ h, Wf h → Ans C 9 [] h fun v h' => v = .bool true ∧ Grow h h'
  hm : ∀ f args h v h', C.S f args h = some (some (v, h')) → HM h h'
theorem Std.f {C : Cfg} (S : Std C) {n : Nat} {af : AFunc} (h : tab n = some af) : C.F n = some af := by rw [S.t]; exact h

abbrev iv (n : Int) : V := .int .i64 n
abbrev Key := List Nat
abbrev sv (ks : List (List Nat)) : List V := ks.map V.str
/-- Keys as the items of a slice. -/
abbrev ki (ks : List (List Nat)) : List (List V) := (sv ks).map fun v => [v]

theorem sv_one {ks : List (List Nat)} : ∀ v ∈ sv ks, V.one v = true := by
  intro v hv
  obtain ⟨k, _, rfl⟩ := List.mem_map.1 hv
  rfl

theorem sv_erase (ks : List (List Nat)) (i : Nat) : sv (ks.eraseIdx i) = (sv ks).eraseIdx i := by
  simp only [sv, List.eraseIdx_eq_take_drop_succ, List.map_append, List.map_take, List.map_drop]
/-- The first place of a key, or -1. -/
def idxK (k : List Nat) : Int → List (List Nat) → Int
  | _, [] => -1
  | i, a :: l => if k = a then i else idxK k (i + 1) l
theorem idxK_at (k : List Nat) : ∀ (ks : List (List Nat)) (i : Int), 0 ≤ i → (idxK k i ks = -1 ∧ k ∉ ks) ∨ ∃ j : Nat, idxK k i ks = i + j ∧ j < ks.length ∧ ks.eraseIdx j = ks.erase k ∧ k ∈ ks
  | [], i, h => .inl ⟨rfl, by simp⟩
  | a :: l, i, h => by
    simp only [idxK]
    by_cases e : k = a
    · subst e
      rw [if_pos rfl]
      exact .inr ⟨0, by simp, by simp, by simp, by simp⟩
    · rw [if_neg e]
      rcases idxK_at k l (i + 1) (by omega) with ⟨q1, q2⟩ | ⟨j, q1, q2, q3, q4⟩
      · exact .inl ⟨q1, by simp [e, q2]⟩
      · refine .inr ⟨j + 1, by rw [q1]; push_cast; omega, by simp; omega, ?_, by simp [q4]⟩
        rw [List.eraseIdx_cons_succ, List.erase_cons_tail (by simpa using fun h => e h.symm), q3]

variable {C : Cfg} (S : Std C)
include S

theorem index_ans (h : Heap) (hw : Wf h) (x : V) (ks : List (List Nat)) (k : List Nat) (hs : Sl h 1 x (ki ks)) (hlen : ks.length < 4611686018427387904) : Ans C 38 [x, .str k] h fun v h' => v = iv (idxK k 0 ks) ∧ Grow h h' := by
  have hF : C.F 38 = some a38 := S.f rfl
  unfold a38 at hF
  refine Ans.val (fun _ _ => S.s _ _ _ (by decide)) hF rfl rfl hw fun h2 g0 => ?_
  clear hF
  have hsl : slLen x = some ks.length := by rw [hs.len, List.length_map, List.length_map]
  refine WC.seqO ?_
  (repeat (first | refine WO.ops (StepK.mv rfl) ?_ | refine WO.ops (StepK.lenSl rfl (by first | with_reducible assumption | rfl)) ?_ | refine WO.ops (StepK.fieldAddr rfl) ?_ | refine WO.ops (StepK.add rfl rfl (by omega)) ?_ | refine WO.ops (StepK.sub rfl rfl (by omega)) ?_ | refine WO.ops (StepK.bin rfl rfl rfl) ?_ | refine WO.ops (StepK.pickT rfl rfl) ?_ | refine WO.ops (StepK.pickF rfl rfl) ?_ | refine WO.ops (StepK.not rfl) ?_ | refine WO.ops (StepK.eq rfl rfl rfl) ?_ | refine WO.ops (StepK.extract rfl rfl) ?_ | refine WO.ops (StepK.build rfl rfl) ?_ | refine WO.ops (StepK.mkFn rfl rfl) ?_ | refine WO.ops (StepK.field rfl rfl) ?_ | refine WO.ops (StepK.lenStr rfl) ?_ | refine WO.ops (StepK.nilck rfl) ?_ | refine WO.ops (StepK.min2 rfl rfl) ?_ | refine WO.ops (StepK.max2 rfl rfl) ?_ | refine WO.ops (StepK.load1 rfl (by first | with_reducible assumption | rfl)) ?_ | refine WO.run rfl ?_ | refine WO.skip rfl rfl ?_ | refine WO.skipu rfl ?_))
  refine WO.nil (WC.seq (WC.seqO ?_))
  refine WO.ops (StepK.mv rfl) ?_
  refine WO.ops (StepK.lenSl rfl hsl) ?_
  (repeat (first | refine WO.ops (StepK.mv rfl) ?_ | refine WO.ops (StepK.lenSl rfl (by first | with_reducible assumption | rfl)) ?_ | refine WO.ops (StepK.fieldAddr rfl) ?_ | refine WO.ops (StepK.add rfl rfl (by omega)) ?_ | refine WO.ops (StepK.sub rfl rfl (by omega)) ?_ | refine WO.ops (StepK.bin rfl rfl rfl) ?_ | refine WO.ops (StepK.pickT rfl rfl) ?_ | refine WO.ops (StepK.pickF rfl rfl) ?_ | refine WO.ops (StepK.not rfl) ?_ | refine WO.ops (StepK.eq rfl rfl rfl) ?_ | refine WO.ops (StepK.extract rfl rfl) ?_ | refine WO.ops (StepK.build rfl rfl) ?_ | refine WO.ops (StepK.mkFn rfl rfl) ?_ | refine WO.ops (StepK.field rfl rfl) ?_ | refine WO.ops (StepK.lenStr rfl) ?_ | refine WO.ops (StepK.nilck rfl) ?_ | refine WO.ops (StepK.min2 rfl rfl) ?_ | refine WO.ops (StepK.max2 rfl rfl) ?_ | refine WO.ops (StepK.load1 rfl (by first | with_reducible assumption | rfl)) ?_ | refine WO.run rfl ?_ | refine WO.skip rfl rfl ?_ | refine WO.skipu rfl ?_))
  refine WO.nil (WC.block ?_)
  refine WC.loop (σ := Nat) (fun i => [(0, x), (1, .str k), (7, iv ks.length), (8, iv i)])
    (fun i h' => Grow h h' ∧ i ≤ ks.length ∧ idxK k 0 ks = idxK k i (ks.drop i)) (fun i => ks.length - i) 0 ?_ ⟨g0, by omega, rfl⟩ ?_
  · exact Cov.cons rfl (Cov.cons rfl (Cov.cons rfl (Cov.cons rfl (Cov.nil _))))
  rintro i h3 ⟨g3, hi, hm⟩
  refine WC.seqO ?_
  (repeat (first | refine WO.ops (StepK.mv rfl) ?_ | refine WO.ops (StepK.lenSl rfl (by first | with_reducible assumption | rfl)) ?_ | refine WO.ops (StepK.fieldAddr rfl) ?_ | refine WO.ops (StepK.add rfl rfl (by omega)) ?_ | refine WO.ops (StepK.sub rfl rfl (by omega)) ?_ | refine WO.ops (StepK.bin rfl rfl rfl) ?_ | refine WO.ops (StepK.pickT rfl rfl) ?_ | refine WO.ops (StepK.pickF rfl rfl) ?_ | refine WO.ops (StepK.not rfl) ?_ | refine WO.ops (StepK.eq rfl rfl rfl) ?_ | refine WO.ops (StepK.extract rfl rfl) ?_ | refine WO.ops (StepK.build rfl rfl) ?_ | refine WO.ops (StepK.mkFn rfl rfl) ?_ | refine WO.ops (StepK.field rfl rfl) ?_ | refine WO.ops (StepK.lenStr rfl) ?_ | refine WO.ops (StepK.nilck rfl) ?_ | refine WO.ops (StepK.min2 rfl rfl) ?_ | refine WO.ops (StepK.max2 rfl rfl) ?_ | refine WO.ops (StepK.load1 rfl (by first | with_reducible assumption | rfl)) ?_ | refine WO.run rfl ?_ | refine WO.skip rfl rfl ?_ | refine WO.skipu rfl ?_))
  refine WO.nil (WC.seq ?_)
  refine WC.cond rfl (fun hc => WC.skip ?_) (fun hc => WC.exit ?_)
  rotate_left
  · have hc := of_decide_eq_false hc
    have : i = ks.length := by omega
    subst this
    refine WC.seqO ?_
    (repeat (first | refine WO.ops (StepK.mv rfl) ?_ | refine WO.ops (StepK.lenSl rfl (by first | with_reducible assumption | rfl)) ?_ | refine WO.ops (StepK.fieldAddr rfl) ?_ | refine WO.ops (StepK.add rfl rfl (by omega)) ?_ | refine WO.ops (StepK.sub rfl rfl (by omega)) ?_ | refine WO.ops (StepK.bin rfl rfl rfl) ?_ | refine WO.ops (StepK.pickT rfl rfl) ?_ | refine WO.ops (StepK.pickF rfl rfl) ?_ | refine WO.ops (StepK.not rfl) ?_ | refine WO.ops (StepK.eq rfl rfl rfl) ?_ | refine WO.ops (StepK.extract rfl rfl) ?_ | refine WO.ops (StepK.build rfl rfl) ?_ | refine WO.ops (StepK.mkFn rfl rfl) ?_ | refine WO.ops (StepK.field rfl rfl) ?_ | refine WO.ops (StepK.lenStr rfl) ?_ | refine WO.ops (StepK.nilck rfl) ?_ | refine WO.ops (StepK.min2 rfl rfl) ?_ | refine WO.ops (StepK.max2 rfl rfl) ?_ | refine WO.ops (StepK.load1 rfl (by first | with_reducible assumption | rfl)) ?_ | refine WO.run rfl ?_ | refine WO.skip rfl rfl ?_ | refine WO.skipu rfl ?_))
    refine WO.nil (WC.ret ⟨trivial, g3, ?_⟩)
    rw [hm]; simp [idxK]; rfl
  have hc := of_decide_eq_true hc
  have hi : i < ks.length := by omega
  obtain ⟨b, o, k1, k2⟩ := (hs.grow g3).at (i := i) (by rw [List.length_map, List.length_map]; exact hi)
  rw [List.getElem_map, List.getElem_map] at k2
  have hd : ks.drop i = ks[i] :: ks.drop (i + 1) := List.drop_eq_getElem_cons hi
  rw [hd] at hm
  generalize ks[i] = r at *
  simp only [idxK] at hm
  have q0 : h3.rd b o = some (.str r) := rds_rd k2 (j := 0) rfl
  refine WC.seq (WC.block (WC.seqO ?_))
  (repeat (first | refine WO.ops (StepK.mv rfl) ?_ | refine WO.ops (StepK.lenSl rfl (by first | with_reducible assumption | rfl)) ?_ | refine WO.ops (StepK.fieldAddr rfl) ?_ | refine WO.ops (StepK.add rfl rfl (by omega)) ?_ | refine WO.ops (StepK.sub rfl rfl (by omega)) ?_ | refine WO.ops (StepK.bin rfl rfl rfl) ?_ | refine WO.ops (StepK.pickT rfl rfl) ?_ | refine WO.ops (StepK.pickF rfl rfl) ?_ | refine WO.ops (StepK.not rfl) ?_ | refine WO.ops (StepK.eq rfl rfl rfl) ?_ | refine WO.ops (StepK.extract rfl rfl) ?_ | refine WO.ops (StepK.build rfl rfl) ?_ | refine WO.ops (StepK.mkFn rfl rfl) ?_ | refine WO.ops (StepK.field rfl rfl) ?_ | refine WO.ops (StepK.lenStr rfl) ?_ | refine WO.ops (StepK.nilck rfl) ?_ | refine WO.ops (StepK.min2 rfl rfl) ?_ | refine WO.ops (StepK.max2 rfl rfl) ?_ | refine WO.ops (StepK.load1 rfl (by first | with_reducible assumption | rfl)) ?_ | refine WO.run rfl ?_ | refine WO.skip rfl rfl ?_ | refine WO.skipu rfl ?_))
  refine WO.nil (WC.seqO ?_)
  refine WO.ops (StepK.mv rfl) ?_
  refine WO.ops (StepK.mv rfl) ?_
  refine WO.ops (StepK.mv rfl) ?_
  refine WO.ops (StepK.idxSl rfl rfl k1) ?_
  refine WO.ops (StepK.load1 rfl q0) ?_
  refine WO.ops (StepK.bin (v := .bool (beqL k r)) rfl rfl rfl) ?_
  refine WO.nil (WC.cond rfl (fun hc1 => WC.seqO ?_) (fun hc1 => WC.skip (WC.ops ?_)))
  · (repeat (first | refine WO.ops (StepK.mv rfl) ?_ | refine WO.ops (StepK.lenSl rfl (by first | with_reducible assumption | rfl)) ?_ | refine WO.ops (StepK.fieldAddr rfl) ?_ | refine WO.ops (StepK.add rfl rfl (by omega)) ?_ | refine WO.ops (StepK.sub rfl rfl (by omega)) ?_ | refine WO.ops (StepK.bin rfl rfl rfl) ?_ | refine WO.ops (StepK.pickT rfl rfl) ?_ | refine WO.ops (StepK.pickF rfl rfl) ?_ | refine WO.ops (StepK.not rfl) ?_ | refine WO.ops (StepK.eq rfl rfl rfl) ?_ | refine WO.ops (StepK.extract rfl rfl) ?_ | refine WO.ops (StepK.build rfl rfl) ?_ | refine WO.ops (StepK.mkFn rfl rfl) ?_ | refine WO.ops (StepK.field rfl rfl) ?_ | refine WO.ops (StepK.lenStr rfl) ?_ | refine WO.ops (StepK.nilck rfl) ?_ | refine WO.ops (StepK.min2 rfl rfl) ?_ | refine WO.ops (StepK.max2 rfl rfl) ?_ | refine WO.ops (StepK.load1 rfl (by first | with_reducible assumption | rfl)) ?_ | refine WO.run rfl ?_ | refine WO.skip rfl rfl ?_ | refine WO.skipu rfl ?_))
    refine WO.nil (WC.ret ⟨trivial, g3, ?_⟩)
    rw [hm, if_pos ((beqL_iff _ _).1 hc1)]; rfl
  (repeat (first | refine WO.ops (StepK.mv rfl) ?_ | refine WO.ops (StepK.lenSl rfl (by first | with_reducible assumption | rfl)) ?_ | refine WO.ops (StepK.fieldAddr rfl) ?_ | refine WO.ops (StepK.add rfl rfl (by omega)) ?_ | refine WO.ops (StepK.sub rfl rfl (by omega)) ?_ | refine WO.ops (StepK.bin rfl rfl rfl) ?_ | refine WO.ops (StepK.pickT rfl rfl) ?_ | refine WO.ops (StepK.pickF rfl rfl) ?_ | refine WO.ops (StepK.not rfl) ?_ | refine WO.ops (StepK.eq rfl rfl rfl) ?_ | refine WO.ops (StepK.extract rfl rfl) ?_ | refine WO.ops (StepK.build rfl rfl) ?_ | refine WO.ops (StepK.mkFn rfl rfl) ?_ | refine WO.ops (StepK.field rfl rfl) ?_ | refine WO.ops (StepK.lenStr rfl) ?_ | refine WO.ops (StepK.nilck rfl) ?_ | refine WO.ops (StepK.min2 rfl rfl) ?_ | refine WO.ops (StepK.max2 rfl rfl) ?_ | refine WO.ops (StepK.load1 rfl (by first | with_reducible assumption | rfl)) ?_ | refine WO.run rfl ?_ | refine WO.skip rfl rfl ?_ | refine WO.skipu rfl ?_))
  refine WO.nil ⟨i + 1, ?_, ⟨g3, hi, ?_⟩, by omega⟩
  · exact Cov.cons rfl (Cov.cons rfl (Cov.cons rfl (Cov.cons rfl (Cov.nil _))))
  · rw [hm, if_neg (by intro e; rw [(beqL_iff _ _).2 e] at hc1; cases hc1)]; rfl

theorem contains_ans (h : Heap) (hw : Wf h) (x : V) (ks : List (List Nat)) (k : List Nat) (hs : Sl h 1 x (ki ks)) (hlen : ks.length < 4611686018427387904) : Ans C 40 [x, .str k] h fun v h' => v = .bool (decide (k ∈ ks)) ∧ Grow h h' := by
  have hF : C.F 40 = some a40 := S.f rfl
  unfold a40 at hF
  refine Ans.val (fun _ _ => S.s _ _ _ (by decide)) hF rfl rfl hw fun h2 g0 => ?_
  clear hF
  refine WC.seqO ?_
  (repeat (first | refine WO.ops (StepK.mv rfl) ?_ | refine WO.ops (StepK.lenSl rfl (by first | with_reducible assumption | rfl)) ?_ | refine WO.ops (StepK.fieldAddr rfl) ?_ | refine WO.ops (StepK.add rfl rfl (by omega)) ?_ | refine WO.ops (StepK.sub rfl rfl (by omega)) ?_ | refine WO.ops (StepK.bin rfl rfl rfl) ?_ | refine WO.ops (StepK.pickT rfl rfl) ?_ | refine WO.ops (StepK.pickF rfl rfl) ?_ | refine WO.ops (StepK.not rfl) ?_ | refine WO.ops (StepK.eq rfl rfl rfl) ?_ | refine WO.ops (StepK.extract rfl rfl) ?_ | refine WO.ops (StepK.build rfl rfl) ?_ | refine WO.ops (StepK.mkFn rfl rfl) ?_ | refine WO.ops (StepK.field rfl rfl) ?_ | refine WO.ops (StepK.lenStr rfl) ?_ | refine WO.ops (StepK.nilck rfl) ?_ | refine WO.ops (StepK.min2 rfl rfl) ?_ | refine WO.ops (StepK.max2 rfl rfl) ?_ | refine WO.ops (StepK.load1 rfl (by first | with_reducible assumption | rfl)) ?_ | refine WO.run rfl ?_ | refine WO.skip rfl rfl ?_ | refine WO.skipu rfl ?_))
  refine WO.nil (WC.seqO ?_)
  refine WO.ops (StepK.mv rfl) ?_
  refine WO.ops (StepK.mv rfl) ?_
  refine WO.call rfl rfl (index_ans S h2 g0.wf x ks k (hs.grow g0) hlen) ?_
  rintro v h4 ⟨rfl, g4⟩
  have g4 := g0.trans g4
  have he : binA .geq (iv (idxK k 0 ks)) (iv 0) = some (.bool (decide (k ∈ ks))) := by
    simp only [binA, if_true]
    congr 2
    rcases idxK_at k ks 0 (Int.le_refl _) with ⟨q1, q2⟩ | ⟨j, q1, q2, q3, q4⟩
    · rw [q1]; simp [q2]
    · rw [q1]; simp [q4]
  refine WO.ops (StepK.bin rfl rfl he) ?_
  (repeat (first | refine WO.ops (StepK.mv rfl) ?_ | refine WO.ops (StepK.lenSl rfl (by first | with_reducible assumption | rfl)) ?_ | refine WO.ops (StepK.fieldAddr rfl) ?_ | refine WO.ops (StepK.add rfl rfl (by omega)) ?_ | refine WO.ops (StepK.sub rfl rfl (by omega)) ?_ | refine WO.ops (StepK.bin rfl rfl rfl) ?_ | refine WO.ops (StepK.pickT rfl rfl) ?_ | refine WO.ops (StepK.pickF rfl rfl) ?_ | refine WO.ops (StepK.not rfl) ?_ | refine WO.ops (StepK.eq rfl rfl rfl) ?_ | refine WO.ops (StepK.extract rfl rfl) ?_ | refine WO.ops (StepK.build rfl rfl) ?_ | refine WO.ops (StepK.mkFn rfl rfl) ?_ | refine WO.ops (StepK.field rfl rfl) ?_ | refine WO.ops (StepK.lenStr rfl) ?_ | refine WO.ops (StepK.nilck rfl) ?_ | refine WO.ops (StepK.min2 rfl rfl) ?_ | refine WO.ops (StepK.max2 rfl rfl) ?_ | refine WO.ops (StepK.load1 rfl (by first | with_reducible assumption | rfl)) ?_ | refine WO.run rfl ?_ | refine WO.skip rfl rfl ?_ | refine WO.skipu rfl ?_))
  exact WO.nil (WC.ret ⟨trivial, g4, rfl⟩)

/-- A list's place in a block. -/
structure LP (h : Heap) (a i : Nat) (cs : List V) (x : V) (ks : List (List Nat)) (F : List Nat) : Prop where
  cel : h.get a = some (.cells cs (.tip [] 0))
  has : cs[i]? = some x
  kl : KL h x (sv ks) F
  na : a ∉ F
omit S
theorem LP.rd {h : Heap} {a i : Nat} {cs : List V} {x : V} {ks : List (List Nat)} {F : List Nat} (l : LP h a i cs x ks F) : h.rd a (i + 0) = some x := rd_get l.cel l.has
theorem LP.sl {h : Heap} {a i : Nat} {cs : List V} {x : V} {ks : List (List Nat)} {F : List Nat} (l : LP h a i cs x ks F) : Sl h 1 x (ki ks) := l.kl.sl
theorem LP.len {h : Heap} {a i : Nat} {cs : List V} {x : V} {ks : List (List Nat)} {F : List Nat} (l : LP h a i cs x ks F) : slLen x = some ks.length := by rw [l.kl.len, List.length_map]
theorem LP.grow {h h' : Heap} {a i : Nat} {cs : List V} {x : V} {ks : List (List Nat)} {F : List Nat} (l : LP h a i cs x ks F) (g : Grow h h') : LP h' a i cs x ks F := ⟨g.ext _ _ l.cel, l.has, l.kl.grow g, l.na⟩
theorem LP.same {h h' : Heap} {a i : Nat} {cs : List V} {x : V} {ks : List (List Nat)} {F : List Nat} (l : LP h a i cs x ks F) (hg : ∀ b, h'.get b = h.get b) (hs : h'.size = h.size) : LP h' a i cs x ks F := ⟨by rw [hg]; exact l.cel, l.has, l.kl.same hg hs, l.na⟩
theorem Chg.same {F : List Nat} {h h1 h2 : Heap} (c : Chg F h h1) (hg : ∀ b, h2.get b = h1.get b) (hs : h2.size = h1.size) : Chg F h h2 :=
  ⟨fun b hb => by rw [hg]; exact c.wf b (by omega), by rw [hs]; exact c.size, fun b o q r => by rw [hg]; exact c.keep b o q r⟩

/-- Behind a call that changes a list. -/
def LPost (h h' : Heap) (a i : Nat) (cs : List V) (F : List Nat) (ks : List (List Nat)) : Prop :=
  ∃ x F', LP h' a i (cs.set i x) x ks F' ∧ Chg (a :: F) h h' ∧ Comes h F F'
theorem LPost.low {h h' : Heap} {a i : Nat} {cs : List V} {F : List Nat} {ks : List (List Nat)} (p : LPost h h' a i cs F ks) (n : Nat) : LPost h { h' with low := n } a i cs F ks := by
  obtain ⟨x, F', q1, q2, q3⟩ := p
  exact ⟨x, F', q1.same (fun _ => rfl) rfl, q2.same (fun _ => rfl) rfl, q3⟩
theorem LP.post {h h' : Heap} {a i : Nat} {cs : List V} {x : V} {ks : List (List Nat)} {F : List Nat} (l : LP h a i cs x ks F) (g : Grow h h') : LPost h h' a i cs F ks := by
  refine ⟨x, F, ?_, g.chg _, Comes.refl _ _⟩
  have : cs.set i x = cs := by
    obtain ⟨hi, he⟩ := List.getElem?_eq_some_iff.1 l.has
    rw [← he, List.set_getElem_self]
  rw [this]
  exact l.grow g
theorem KL.one {h : Heap} {x : V} {es : List V} {F : List Nat} (k : KL h x es F) : x.cellsOf = [x] ∧ V.one x = true := by
  rcases k with ⟨rfl, _⟩ | ⟨b, S, j, rfl, _⟩ <;> exact ⟨rfl, rfl⟩
/-- The list's value is put back. -/
theorem LP.store {h h1 : Heap} {a i : Nat} {cs : List V} {x : V} {ks ks' : List (List Nat)} {F F' : List Nat} (hw : Wf h) (l : LP h a i cs x ks F) {x' : V} (k : KL h1 x' (sv ks') F') (c : Chg F h h1) (cm : Comes h F F') :
    ∃ h2, h1.wr a (i + 0) x'.cellsOf = some h2 ∧ LPost h h2 a i cs F ks' ∧ h2.low ≤ a ∧ Wf h2 := by
  have hi : i < cs.length := (List.getElem?_eq_some_iff.1 l.has).1
  have ha := Wf.lt hw l.cel
  have hna : a ∉ F' := by
    intro hm
    rcases cm a hm with e | e
    · exact l.na e
    · omega
  obtain ⟨h2, w1, w2, w3, w4, w5⟩ := KL.wr c.wf (c.keep a _ l.na l.cel) (S := []) (by simp) (o := i) (vs := [x']) (by simp; omega) (by simp [k.one.2])
  refine ⟨h2, by rw [k.one.1]; exact w1, ⟨x', F', ⟨?_, by rw [List.getElem?_set_self hi], k.keep w2 (by intro b hb hc; simp at hc; subst hc; exact hna hb), hna⟩, ?_, cm⟩, w5, w2.wf⟩
  · rw [w4, List.set_eq_take_append_cons_drop, if_pos hi]
    simp
  · exact (c.mono (fun b hb => List.mem_cons_of_mem _ hb)).trans (w2.mono (by intro b hb; simp at hb; subst hb; exact List.mem_cons_self)) hw (Comes.refl _ _)
include S

theorem len_ans (h : Heap) (hw : Wf h) {a i : Nat} {cs : List V} {x : V} {ks : List (List Nat)} {F : List Nat} (l : LP h a i cs x ks F) : Ans C 23 [.ptr (some (a, i))] h fun v h' => v = iv ks.length ∧ Grow h h' := by
  have hF : C.F 23 = some a23 := S.f rfl
  unfold a23 at hF
  refine Ans.val (fun _ _ => S.s _ _ _ (by decide)) hF rfl rfl hw fun h2 g0 => ?_
  clear hF
  have l := l.grow g0
  have hl := l.len
  have r0 := l.rd
  refine WC.seqO ?_
  (repeat (first | refine WO.ops (StepK.mv rfl) ?_ | refine WO.ops (StepK.lenSl rfl (by first | with_reducible assumption | rfl)) ?_ | refine WO.ops (StepK.fieldAddr rfl) ?_ | refine WO.ops (StepK.add rfl rfl (by omega)) ?_ | refine WO.ops (StepK.sub rfl rfl (by omega)) ?_ | refine WO.ops (StepK.bin rfl rfl rfl) ?_ | refine WO.ops (StepK.pickT rfl rfl) ?_ | refine WO.ops (StepK.pickF rfl rfl) ?_ | refine WO.ops (StepK.not rfl) ?_ | refine WO.ops (StepK.eq rfl rfl rfl) ?_ | refine WO.ops (StepK.extract rfl rfl) ?_ | refine WO.ops (StepK.build rfl rfl) ?_ | refine WO.ops (StepK.mkFn rfl rfl) ?_ | refine WO.ops (StepK.field rfl rfl) ?_ | refine WO.ops (StepK.lenStr rfl) ?_ | refine WO.ops (StepK.nilck rfl) ?_ | refine WO.ops (StepK.min2 rfl rfl) ?_ | refine WO.ops (StepK.max2 rfl rfl) ?_ | refine WO.ops (StepK.load1 rfl (by first | with_reducible assumption | rfl)) ?_ | refine WO.run rfl ?_ | refine WO.skip rfl rfl ?_ | refine WO.skipu rfl ?_))
  refine WO.nil (WC.seqO ?_)
  (repeat (first | refine WO.ops (StepK.mv rfl) ?_ | refine WO.ops (StepK.lenSl rfl (by first | with_reducible assumption | rfl)) ?_ | refine WO.ops (StepK.fieldAddr rfl) ?_ | refine WO.ops (StepK.add rfl rfl (by omega)) ?_ | refine WO.ops (StepK.sub rfl rfl (by omega)) ?_ | refine WO.ops (StepK.bin rfl rfl rfl) ?_ | refine WO.ops (StepK.pickT rfl rfl) ?_ | refine WO.ops (StepK.pickF rfl rfl) ?_ | refine WO.ops (StepK.not rfl) ?_ | refine WO.ops (StepK.eq rfl rfl rfl) ?_ | refine WO.ops (StepK.extract rfl rfl) ?_ | refine WO.ops (StepK.build rfl rfl) ?_ | refine WO.ops (StepK.mkFn rfl rfl) ?_ | refine WO.ops (StepK.field rfl rfl) ?_ | refine WO.ops (StepK.lenStr rfl) ?_ | refine WO.ops (StepK.nilck rfl) ?_ | refine WO.ops (StepK.min2 rfl rfl) ?_ | refine WO.ops (StepK.max2 rfl rfl) ?_ | refine WO.ops (StepK.load1 rfl (by first | with_reducible assumption | rfl)) ?_ | refine WO.run rfl ?_ | refine WO.skip rfl rfl ?_ | refine WO.skipu rfl ?_))
  exact WO.nil (WC.ret ⟨trivial, g0, rfl⟩)

theorem has_ans (h : Heap) (hw : Wf h) {a i : Nat} {cs : List V} {x : V} {ks : List (List Nat)} {F : List Nat} (l : LP h a i cs x ks F) (k : List Nat) (hlen : ks.length < 4611686018427387904) : Ans C 33 [.ptr (some (a, i)), .str k] h fun v h' => v = .bool (decide (k ∈ ks)) ∧ Grow h h' := by
  have hF : C.F 33 = some a33 := S.f rfl
  unfold a33 at hF
  refine Ans.val (fun _ _ => S.s _ _ _ (by decide)) hF rfl rfl hw fun h2 g0 => ?_
  clear hF
  have l := l.grow g0
  have r0 := l.rd
  refine WC.seqO ?_
  (repeat (first | refine WO.ops (StepK.mv rfl) ?_ | refine WO.ops (StepK.lenSl rfl (by first | with_reducible assumption | rfl)) ?_ | refine WO.ops (StepK.fieldAddr rfl) ?_ | refine WO.ops (StepK.add rfl rfl (by omega)) ?_ | refine WO.ops (StepK.sub rfl rfl (by omega)) ?_ | refine WO.ops (StepK.bin rfl rfl rfl) ?_ | refine WO.ops (StepK.pickT rfl rfl) ?_ | refine WO.ops (StepK.pickF rfl rfl) ?_ | refine WO.ops (StepK.not rfl) ?_ | refine WO.ops (StepK.eq rfl rfl rfl) ?_ | refine WO.ops (StepK.extract rfl rfl) ?_ | refine WO.ops (StepK.build rfl rfl) ?_ | refine WO.ops (StepK.mkFn rfl rfl) ?_ | refine WO.ops (StepK.field rfl rfl) ?_ | refine WO.ops (StepK.lenStr rfl) ?_ | refine WO.ops (StepK.nilck rfl) ?_ | refine WO.ops (StepK.min2 rfl rfl) ?_ | refine WO.ops (StepK.max2 rfl rfl) ?_ | refine WO.ops (StepK.load1 rfl (by first | with_reducible assumption | rfl)) ?_ | refine WO.run rfl ?_ | refine WO.skip rfl rfl ?_ | refine WO.skipu rfl ?_))
  refine WO.nil (WC.seqO ?_)
  (repeat (first | refine WO.ops (StepK.mv rfl) ?_ | refine WO.ops (StepK.lenSl rfl (by first | with_reducible assumption | rfl)) ?_ | refine WO.ops (StepK.fieldAddr rfl) ?_ | refine WO.ops (StepK.add rfl rfl (by omega)) ?_ | refine WO.ops (StepK.sub rfl rfl (by omega)) ?_ | refine WO.ops (StepK.bin rfl rfl rfl) ?_ | refine WO.ops (StepK.pickT rfl rfl) ?_ | refine WO.ops (StepK.pickF rfl rfl) ?_ | refine WO.ops (StepK.not rfl) ?_ | refine WO.ops (StepK.eq rfl rfl rfl) ?_ | refine WO.ops (StepK.extract rfl rfl) ?_ | refine WO.ops (StepK.build rfl rfl) ?_ | refine WO.ops (StepK.mkFn rfl rfl) ?_ | refine WO.ops (StepK.field rfl rfl) ?_ | refine WO.ops (StepK.lenStr rfl) ?_ | refine WO.ops (StepK.nilck rfl) ?_ | refine WO.ops (StepK.min2 rfl rfl) ?_ | refine WO.ops (StepK.max2 rfl rfl) ?_ | refine WO.ops (StepK.load1 rfl (by first | with_reducible assumption | rfl)) ?_ | refine WO.run rfl ?_ | refine WO.skip rfl rfl ?_ | refine WO.skipu rfl ?_))
  refine WO.call rfl rfl (contains_ans S h2 g0.wf x ks k l.sl hlen) ?_
  rintro v h3 ⟨rfl, g3⟩
  (repeat (first | refine WO.ops (StepK.mv rfl) ?_ | refine WO.ops (StepK.lenSl rfl (by first | with_reducible assumption | rfl)) ?_ | refine WO.ops (StepK.fieldAddr rfl) ?_ | refine WO.ops (StepK.add rfl rfl (by omega)) ?_ | refine WO.ops (StepK.sub rfl rfl (by omega)) ?_ | refine WO.ops (StepK.bin rfl rfl rfl) ?_ | refine WO.ops (StepK.pickT rfl rfl) ?_ | refine WO.ops (StepK.pickF rfl rfl) ?_ | refine WO.ops (StepK.not rfl) ?_ | refine WO.ops (StepK.eq rfl rfl rfl) ?_ | refine WO.ops (StepK.extract rfl rfl) ?_ | refine WO.ops (StepK.build rfl rfl) ?_ | refine WO.ops (StepK.mkFn rfl rfl) ?_ | refine WO.ops (StepK.field rfl rfl) ?_ | refine WO.ops (StepK.lenStr rfl) ?_ | refine WO.ops (StepK.nilck rfl) ?_ | refine WO.ops (StepK.min2 rfl rfl) ?_ | refine WO.ops (StepK.max2 rfl rfl) ?_ | refine WO.ops (StepK.load1 rfl (by first | with_reducible assumption | rfl)) ?_ | refine WO.run rfl ?_ | refine WO.skip rfl rfl ?_ | refine WO.skipu rfl ?_))
  exact WO.nil (WC.ret ⟨trivial, g0.trans g3, rfl⟩)

theorem add_ans (h : Heap) (hw : Wf h) {a i : Nat} {cs : List V} {x : V} {ks : List (List Nat)} {F : List Nat} (l : LP h a i cs x ks F) (k : List Nat) (hlen : ks.length ≤ 100000) : Ans C 24 [.ptr (some (a, i)), .str k] h fun v h' => v = .tuple [] ∧ LPost h h' a i cs F (ks ++ [k]) ∧ h'.low ≤ a := by
  have hF : C.F 24 = some a24 := S.f rfl
  unfold a24 at hF
  refine Ans.fnM (fun _ _ => S.s _ _ _ (by decide)) hF rfl rfl hw fun h2 g0 hsz hge => ?_
  clear hF
  have l2 := l.grow g0
  have r0 := l2.rd
  have ha := Wf.lt hw l.cel
  refine WC.ops ?_
  (repeat (first | refine WO.ops (StepK.mv rfl) ?_ | refine WO.ops (StepK.lenSl rfl (by first | with_reducible assumption | rfl)) ?_ | refine WO.ops (StepK.fieldAddr rfl) ?_ | refine WO.ops (StepK.add rfl rfl (by omega)) ?_ | refine WO.ops (StepK.sub rfl rfl (by omega)) ?_ | refine WO.ops (StepK.bin rfl rfl rfl) ?_ | refine WO.ops (StepK.pickT rfl rfl) ?_ | refine WO.ops (StepK.pickF rfl rfl) ?_ | refine WO.ops (StepK.not rfl) ?_ | refine WO.ops (StepK.eq rfl rfl rfl) ?_ | refine WO.ops (StepK.extract rfl rfl) ?_ | refine WO.ops (StepK.build rfl rfl) ?_ | refine WO.ops (StepK.mkFn rfl rfl) ?_ | refine WO.ops (StepK.field rfl rfl) ?_ | refine WO.ops (StepK.lenStr rfl) ?_ | refine WO.ops (StepK.nilck rfl) ?_ | refine WO.ops (StepK.min2 rfl rfl) ?_ | refine WO.ops (StepK.max2 rfl rfl) ?_ | refine WO.ops (StepK.load1 rfl (by first | with_reducible assumption | rfl)) ?_ | refine WO.run rfl ?_ | refine WO.skip rfl rfl ?_ | refine WO.skipu rfl ?_))
  refine WO.ops (StepK.buildSl (cs := [.str k]) rfl rfl) ?_
  have gp : Grow h2 (h2.push (.cells [.str k] (.tip [] 0))) := (Grow.refl g0.wf).push _
  have hnew : Sl (h2.push (.cells [.str k] (.tip [] 0))) 1 (.slice (some (h2.size, 0)) 1 1) [[.str k]] :=
    ⟨by simp, rfl, Nat.le_refl _, fun _ => rds_all (st := .tip [] 0) (by rw [get_push_self]; rfl) rfl⟩
  have g3 := g0.trans gp
  have l3 := l2.grow gp
  generalize h2.push (.cells [.str k] (.tip [] 0)) = h3 at *
  obtain ⟨x', h4, F', p1, p2, p3, p4⟩ := l3.kl.append (bytes := 16) g3.wf (.str k) rfl hnew (by decide) (by simp only [List.length_map, roomy, decide_eq_true_eq]; omega)
  refine WO.ops (StepK.append rfl rfl p1) ?_
  have p2' : KL h4 x' (sv (ks ++ [k])) F' := by simpa [sv] using p2
  have p4' : Comes h F F' := fun b hb => by
    rcases p4 b hb with e | e
    · exact .inl e
    · exact .inr (Nat.le_trans g3.size e)
  obtain ⟨h5, w1, w2, w3, w4⟩ := l.store hw p2' (Chg.growl g3 p3) p4'
  (repeat (first | refine WO.ops (StepK.mv rfl) ?_ | refine WO.ops (StepK.lenSl rfl (by first | with_reducible assumption | rfl)) ?_ | refine WO.ops (StepK.fieldAddr rfl) ?_ | refine WO.ops (StepK.add rfl rfl (by omega)) ?_ | refine WO.ops (StepK.sub rfl rfl (by omega)) ?_ | refine WO.ops (StepK.bin rfl rfl rfl) ?_ | refine WO.ops (StepK.pickT rfl rfl) ?_ | refine WO.ops (StepK.pickF rfl rfl) ?_ | refine WO.ops (StepK.not rfl) ?_ | refine WO.ops (StepK.eq rfl rfl rfl) ?_ | refine WO.ops (StepK.extract rfl rfl) ?_ | refine WO.ops (StepK.build rfl rfl) ?_ | refine WO.ops (StepK.mkFn rfl rfl) ?_ | refine WO.ops (StepK.field rfl rfl) ?_ | refine WO.ops (StepK.lenStr rfl) ?_ | refine WO.ops (StepK.nilck rfl) ?_ | refine WO.ops (StepK.min2 rfl rfl) ?_ | refine WO.ops (StepK.max2 rfl rfl) ?_ | refine WO.ops (StepK.load1 rfl (by first | with_reducible assumption | rfl)) ?_ | refine WO.run rfl ?_ | refine WO.skip rfl rfl ?_ | refine WO.skipu rfl ?_))
  refine WO.op (StepK.store rfl rfl (by rw [p2'.one.1]; rfl) w1) ?_
  exact WO.nil ⟨trivial, .tuple [], rfl, fun n hn => ⟨rfl, w2.low n, Nat.le_trans hn w3⟩, fun hc _ => by omega⟩

theorem delete_ans (h : Heap) (hw : Wf h) {x : V} {ks : List (List Nat)} {F : List Nat} (l : KL h x (sv ks) F) (i : Nat) (hi : i < ks.length) (hlen : ks.length ≤ 100000) : Ans C 39 [x, iv i, iv ((i : Int) + 1)] h fun v h' => ∃ F', KL h' v (sv (ks.eraseIdx i)) F' ∧ Chg F h h' ∧ Comes h F F' := by
  have hF : C.F 39 = some a39 := S.f rfl
  unfold a39 at hF
  refine Ans.fnM (fun _ _ => S.s _ _ _ (by decide)) hF rfl rfl hw fun h2 g0 hsz hge => ?_
  clear hF
  have hl := l.len
  rw [List.length_map] at hl
  obtain ⟨s0, s1, s2, s3, s4, h3, h4, F', p0, p1, p2, p3, p4, p5, p6, p7, p8, p9, p10⟩ := (l.grow g0).delete (bytes := 16) (.str []) rfl g0.wf sv_one (i := i) (by rw [List.length_map]; exact hi) (by decide)
  rw [List.length_map] at p0 p4 p5
  have p7' : KL h4 s3 (sv (ks.eraseIdx i)) F' := by rw [sv_erase]; exact p7
  have hne : binA .eql (iv i) (iv ((i : Int) + 1)) = some (.bool false) := by
    simp only [binA, if_true]
    congr 2
    simp; omega
  refine WC.seqO ?_
  (repeat (first | refine WO.ops (StepK.mv rfl) ?_ | refine WO.ops (StepK.lenSl rfl (by first | with_reducible assumption | rfl)) ?_ | refine WO.ops (StepK.fieldAddr rfl) ?_ | refine WO.ops (StepK.add rfl rfl (by omega)) ?_ | refine WO.ops (StepK.sub rfl rfl (by omega)) ?_ | refine WO.ops (StepK.bin rfl rfl rfl) ?_ | refine WO.ops (StepK.pickT rfl rfl) ?_ | refine WO.ops (StepK.pickF rfl rfl) ?_ | refine WO.ops (StepK.not rfl) ?_ | refine WO.ops (StepK.eq rfl rfl rfl) ?_ | refine WO.ops (StepK.extract rfl rfl) ?_ | refine WO.ops (StepK.build rfl rfl) ?_ | refine WO.ops (StepK.mkFn rfl rfl) ?_ | refine WO.ops (StepK.field rfl rfl) ?_ | refine WO.ops (StepK.lenStr rfl) ?_ | refine WO.ops (StepK.nilck rfl) ?_ | refine WO.ops (StepK.min2 rfl rfl) ?_ | refine WO.ops (StepK.max2 rfl rfl) ?_ | refine WO.ops (StepK.load1 rfl (by first | with_reducible assumption | rfl)) ?_ | refine WO.run rfl ?_ | refine WO.skip rfl rfl ?_ | refine WO.skipu rfl ?_))
  refine WO.nil (WC.seqO ?_)
  refine WO.ops (StepK.mv rfl) ?_
  refine WO.ops (StepK.mv rfl) ?_
  refine WO.ops (StepK.mv rfl) ?_
  refine WO.ops (StepK.mv rfl) ?_
  refine WO.ops (StepK.lenSl rfl hl) ?_
  refine WO.ops (StepK.sliceSl rfl rfl rfl rfl p0) (WO.nil (WC.seq (WC.seqO ?_)))
  refine WO.ops (StepK.mv rfl) ?_
  refine WO.ops (StepK.mv rfl) ?_
  refine WO.ops (StepK.bin rfl rfl hne) (WO.nil (WC.condF rfl (WC.skip (WC.seqO ?_))))
  refine WO.ops (StepK.mv rfl) ?_
  refine WO.ops (StepK.lenSl rfl hl) ?_
  (repeat (first | refine WO.ops (StepK.mv rfl) ?_ | refine WO.ops (StepK.lenSl rfl (by first | with_reducible assumption | rfl)) ?_ | refine WO.ops (StepK.fieldAddr rfl) ?_ | refine WO.ops (StepK.add rfl rfl (by omega)) ?_ | refine WO.ops (StepK.sub rfl rfl (by omega)) ?_ | refine WO.ops (StepK.bin rfl rfl rfl) ?_ | refine WO.ops (StepK.pickT rfl rfl) ?_ | refine WO.ops (StepK.pickF rfl rfl) ?_ | refine WO.ops (StepK.not rfl) ?_ | refine WO.ops (StepK.eq rfl rfl rfl) ?_ | refine WO.ops (StepK.extract rfl rfl) ?_ | refine WO.ops (StepK.build rfl rfl) ?_ | refine WO.ops (StepK.mkFn rfl rfl) ?_ | refine WO.ops (StepK.field rfl rfl) ?_ | refine WO.ops (StepK.lenStr rfl) ?_ | refine WO.ops (StepK.nilck rfl) ?_ | refine WO.ops (StepK.min2 rfl rfl) ?_ | refine WO.ops (StepK.max2 rfl rfl) ?_ | refine WO.ops (StepK.load1 rfl (by first | with_reducible assumption | rfl)) ?_ | refine WO.run rfl ?_ | refine WO.skip rfl rfl ?_ | refine WO.skipu rfl ?_))
  refine WO.nil (WC.seqD ?_)
  refine WD.pure (StepK.mv rfl) rfl ?_
  refine WD.pure (StepK.mv rfl) rfl ?_
  refine WD.pure (StepK.sliceSl rfl rfl rfl rfl p1) rfl ?_
  refine WD.pure (StepK.mv rfl) rfl ?_
  refine WD.pure (StepK.mv rfl) rfl ?_
  refine WD.pure (StepK.sliceSl rfl rfl rfl rfl p2) rfl ?_
  refine WD.opC trivial rfl (StepK.append rfl rfl p3) ?_
  refine WD.pure (StepK.mv rfl) rfl ?_
  refine WD.nil trivial (WC.seqO ?_)
  refine WO.ops (StepK.mv rfl) ?_
  refine WO.ops (StepK.mv rfl) ?_
  refine WO.ops (StepK.lenSl rfl p4) ?_
  refine WO.ops (StepK.mv rfl) ?_
  refine WO.ops (StepK.sliceSl rfl rfl rfl rfl p5) ?_
  refine WO.op (StepK.clear rfl p6) ?_
  refine WO.nil (WC.seqO ?_)
  (repeat (first | refine WO.ops (StepK.mv rfl) ?_ | refine WO.ops (StepK.lenSl rfl (by first | with_reducible assumption | rfl)) ?_ | refine WO.ops (StepK.fieldAddr rfl) ?_ | refine WO.ops (StepK.add rfl rfl (by omega)) ?_ | refine WO.ops (StepK.sub rfl rfl (by omega)) ?_ | refine WO.ops (StepK.bin rfl rfl rfl) ?_ | refine WO.ops (StepK.pickT rfl rfl) ?_ | refine WO.ops (StepK.pickF rfl rfl) ?_ | refine WO.ops (StepK.not rfl) ?_ | refine WO.ops (StepK.eq rfl rfl rfl) ?_ | refine WO.ops (StepK.extract rfl rfl) ?_ | refine WO.ops (StepK.build rfl rfl) ?_ | refine WO.ops (StepK.mkFn rfl rfl) ?_ | refine WO.ops (StepK.field rfl rfl) ?_ | refine WO.ops (StepK.lenStr rfl) ?_ | refine WO.ops (StepK.nilck rfl) ?_ | refine WO.ops (StepK.min2 rfl rfl) ?_ | refine WO.ops (StepK.max2 rfl rfl) ?_ | refine WO.ops (StepK.load1 rfl (by first | with_reducible assumption | rfl)) ?_ | refine WO.run rfl ?_ | refine WO.skip rfl rfl ?_ | refine WO.skipu rfl ?_))
  have c : Chg F h h4 := Chg.growl g0 p8
  have cm : Comes h F F' := fun b hb => by
    rcases p9 b hb with e | e
    · exact .inl e
    · exact .inr (Nat.le_trans g0.size e)
  refine WO.nil (WC.ret ⟨trivial, s3, rfl, fun n hn => ⟨F', p7'.same (fun _ => rfl) rfl, c.same (fun _ => rfl) rfl, cm⟩, fun hc _ => by omega⟩)

theorem take_ans (h : Heap) (hw : Wf h) {a i : Nat} {cs : List V} {x : V} {ks : List (List Nat)} {F : List Nat} (l : LP h a i cs x ks F) (k : List Nat) (hlen : ks.length ≤ 100000) : Ans C 32 [.ptr (some (a, i)), .str k] h fun v h' => v = .bool (decide (k ∈ ks)) ∧ LPost h h' a i cs F (ks.erase k) ∧ (h'.low ≤ a ∨ k ∉ ks) := by
  have hF : C.F 32 = some a32 := S.f rfl
  unfold a32 at hF
  refine Ans.fnM (fun _ _ => S.s _ _ _ (by decide)) hF rfl rfl hw fun h2 g0 hsz hge => ?_
  clear hF
  have l2 := l.grow g0
  have r0 := l2.rd
  have ha := Wf.lt hw l.cel
  refine WC.seqO ?_
  (repeat (first | refine WO.ops (StepK.mv rfl) ?_ | refine WO.ops (StepK.lenSl rfl (by first | with_reducible assumption | rfl)) ?_ | refine WO.ops (StepK.fieldAddr rfl) ?_ | refine WO.ops (StepK.add rfl rfl (by omega)) ?_ | refine WO.ops (StepK.sub rfl rfl (by omega)) ?_ | refine WO.ops (StepK.bin rfl rfl rfl) ?_ | refine WO.ops (StepK.pickT rfl rfl) ?_ | refine WO.ops (StepK.pickF rfl rfl) ?_ | refine WO.ops (StepK.not rfl) ?_ | refine WO.ops (StepK.eq rfl rfl rfl) ?_ | refine WO.ops (StepK.extract rfl rfl) ?_ | refine WO.ops (StepK.build rfl rfl) ?_ | refine WO.ops (StepK.mkFn rfl rfl) ?_ | refine WO.ops (StepK.field rfl rfl) ?_ | refine WO.ops (StepK.lenStr rfl) ?_ | refine WO.ops (StepK.nilck rfl) ?_ | refine WO.ops (StepK.min2 rfl rfl) ?_ | refine WO.ops (StepK.max2 rfl rfl) ?_ | refine WO.ops (StepK.load1 rfl (by first | with_reducible assumption | rfl)) ?_ | refine WO.run rfl ?_ | refine WO.skip rfl rfl ?_ | refine WO.skipu rfl ?_))
  refine WO.nil (WC.seqO ?_)
  (repeat (first | refine WO.ops (StepK.mv rfl) ?_ | refine WO.ops (StepK.lenSl rfl (by first | with_reducible assumption | rfl)) ?_ | refine WO.ops (StepK.fieldAddr rfl) ?_ | refine WO.ops (StepK.add rfl rfl (by omega)) ?_ | refine WO.ops (StepK.sub rfl rfl (by omega)) ?_ | refine WO.ops (StepK.bin rfl rfl rfl) ?_ | refine WO.ops (StepK.pickT rfl rfl) ?_ | refine WO.ops (StepK.pickF rfl rfl) ?_ | refine WO.ops (StepK.not rfl) ?_ | refine WO.ops (StepK.eq rfl rfl rfl) ?_ | refine WO.ops (StepK.extract rfl rfl) ?_ | refine WO.ops (StepK.build rfl rfl) ?_ | refine WO.ops (StepK.mkFn rfl rfl) ?_ | refine WO.ops (StepK.field rfl rfl) ?_ | refine WO.ops (StepK.lenStr rfl) ?_ | refine WO.ops (StepK.nilck rfl) ?_ | refine WO.ops (StepK.min2 rfl rfl) ?_ | refine WO.ops (StepK.max2 rfl rfl) ?_ | refine WO.ops (StepK.load1 rfl (by first | with_reducible assumption | rfl)) ?_ | refine WO.run rfl ?_ | refine WO.skip rfl rfl ?_ | refine WO.skipu rfl ?_))
  refine WO.call rfl rfl (index_ans S h2 g0.wf x ks k l2.sl (by omega)) ?_
  rintro v h3 ⟨rfl, g3⟩
  have l3 := l2.grow g3
  have g3 := g0.trans g3
  have r0 := l3.rd
  rcases idxK_at k ks 0 (Int.le_refl _) with ⟨q1, q2⟩ | ⟨j, q1, q2, q3, q4⟩
  · rw [q1]
    have hn : decide (k ∈ ks) = false := decide_eq_false q2
    rw [hn]
    (repeat (first | refine WO.ops (StepK.mv rfl) ?_ | refine WO.ops (StepK.lenSl rfl (by first | with_reducible assumption | rfl)) ?_ | refine WO.ops (StepK.fieldAddr rfl) ?_ | refine WO.ops (StepK.add rfl rfl (by omega)) ?_ | refine WO.ops (StepK.sub rfl rfl (by omega)) ?_ | refine WO.ops (StepK.bin rfl rfl rfl) ?_ | refine WO.ops (StepK.pickT rfl rfl) ?_ | refine WO.ops (StepK.pickF rfl rfl) ?_ | refine WO.ops (StepK.not rfl) ?_ | refine WO.ops (StepK.eq rfl rfl rfl) ?_ | refine WO.ops (StepK.extract rfl rfl) ?_ | refine WO.ops (StepK.build rfl rfl) ?_ | refine WO.ops (StepK.mkFn rfl rfl) ?_ | refine WO.ops (StepK.field rfl rfl) ?_ | refine WO.ops (StepK.lenStr rfl) ?_ | refine WO.ops (StepK.nilck rfl) ?_ | refine WO.ops (StepK.min2 rfl rfl) ?_ | refine WO.ops (StepK.max2 rfl rfl) ?_ | refine WO.ops (StepK.load1 rfl (by first | with_reducible assumption | rfl)) ?_ | refine WO.run rfl ?_ | refine WO.skip rfl rfl ?_ | refine WO.skipu rfl ?_))
    refine WO.nil (WC.seq (WC.seqO ?_))
    refine WO.ops (StepK.mv rfl) ?_
    refine WO.ops (StepK.bin (v := .bool false) rfl rfl rfl) ?_
    refine WO.nil (WC.condF rfl (WC.skip (WC.seqO ?_)))
    refine WO.ops (StepK.mv rfl) ?_
    refine WO.ops (StepK.bin (v := .bool false) rfl rfl rfl) ?_
    (repeat (first | refine WO.ops (StepK.mv rfl) ?_ | refine WO.ops (StepK.lenSl rfl (by first | with_reducible assumption | rfl)) ?_ | refine WO.ops (StepK.fieldAddr rfl) ?_ | refine WO.ops (StepK.add rfl rfl (by omega)) ?_ | refine WO.ops (StepK.sub rfl rfl (by omega)) ?_ | refine WO.ops (StepK.bin rfl rfl rfl) ?_ | refine WO.ops (StepK.pickT rfl rfl) ?_ | refine WO.ops (StepK.pickF rfl rfl) ?_ | refine WO.ops (StepK.not rfl) ?_ | refine WO.ops (StepK.eq rfl rfl rfl) ?_ | refine WO.ops (StepK.extract rfl rfl) ?_ | refine WO.ops (StepK.build rfl rfl) ?_ | refine WO.ops (StepK.mkFn rfl rfl) ?_ | refine WO.ops (StepK.field rfl rfl) ?_ | refine WO.ops (StepK.lenStr rfl) ?_ | refine WO.ops (StepK.nilck rfl) ?_ | refine WO.ops (StepK.min2 rfl rfl) ?_ | refine WO.ops (StepK.max2 rfl rfl) ?_ | refine WO.ops (StepK.load1 rfl (by first | with_reducible assumption | rfl)) ?_ | refine WO.run rfl ?_ | refine WO.skip rfl rfl ?_ | refine WO.skipu rfl ?_))
    have he : ks.erase k = ks := List.erase_of_not_mem q2
    rw [he]
    exact WO.nil (WC.ret ⟨trivial, _, rfl, fun n hn => ⟨rfl, (l.post g3).low n, .inr q2⟩, fun _ _ => ⟨rfl, l.post (Grow.refl hw), .inr q2⟩⟩)
  · rw [q1, Int.zero_add]
    have hy : decide (k ∈ ks) = true := decide_eq_true q4
    rw [hy]
    have hge : binA .geq (iv j) (iv 0) = some (.bool true) := by simp [binA]
    (repeat (first | refine WO.ops (StepK.mv rfl) ?_ | refine WO.ops (StepK.lenSl rfl (by first | with_reducible assumption | rfl)) ?_ | refine WO.ops (StepK.fieldAddr rfl) ?_ | refine WO.ops (StepK.add rfl rfl (by omega)) ?_ | refine WO.ops (StepK.sub rfl rfl (by omega)) ?_ | refine WO.ops (StepK.bin rfl rfl rfl) ?_ | refine WO.ops (StepK.pickT rfl rfl) ?_ | refine WO.ops (StepK.pickF rfl rfl) ?_ | refine WO.ops (StepK.not rfl) ?_ | refine WO.ops (StepK.eq rfl rfl rfl) ?_ | refine WO.ops (StepK.extract rfl rfl) ?_ | refine WO.ops (StepK.build rfl rfl) ?_ | refine WO.ops (StepK.mkFn rfl rfl) ?_ | refine WO.ops (StepK.field rfl rfl) ?_ | refine WO.ops (StepK.lenStr rfl) ?_ | refine WO.ops (StepK.nilck rfl) ?_ | refine WO.ops (StepK.min2 rfl rfl) ?_ | refine WO.ops (StepK.max2 rfl rfl) ?_ | refine WO.ops (StepK.load1 rfl (by first | with_reducible assumption | rfl)) ?_ | refine WO.run rfl ?_ | refine WO.skip rfl rfl ?_ | refine WO.skipu rfl ?_))
    refine WO.nil (WC.seq (WC.seqO ?_))
    refine WO.ops (StepK.mv rfl) ?_
    refine WO.ops (StepK.bin rfl rfl hge) ?_
    refine WO.nil (WC.condT rfl (WC.ops ?_))
    (repeat (first | refine WO.ops (StepK.mv rfl) ?_ | refine WO.ops (StepK.lenSl rfl (by first | with_reducible assumption | rfl)) ?_ | refine WO.ops (StepK.fieldAddr rfl) ?_ | refine WO.ops (StepK.add rfl rfl (by omega)) ?_ | refine WO.ops (StepK.sub rfl rfl (by omega)) ?_ | refine WO.ops (StepK.bin rfl rfl rfl) ?_ | refine WO.ops (StepK.pickT rfl rfl) ?_ | refine WO.ops (StepK.pickF rfl rfl) ?_ | refine WO.ops (StepK.not rfl) ?_ | refine WO.ops (StepK.eq rfl rfl rfl) ?_ | refine WO.ops (StepK.extract rfl rfl) ?_ | refine WO.ops (StepK.build rfl rfl) ?_ | refine WO.ops (StepK.mkFn rfl rfl) ?_ | refine WO.ops (StepK.field rfl rfl) ?_ | refine WO.ops (StepK.lenStr rfl) ?_ | refine WO.ops (StepK.nilck rfl) ?_ | refine WO.ops (StepK.min2 rfl rfl) ?_ | refine WO.ops (StepK.max2 rfl rfl) ?_ | refine WO.ops (StepK.load1 rfl (by first | with_reducible assumption | rfl)) ?_ | refine WO.run rfl ?_ | refine WO.skip rfl rfl ?_ | refine WO.skipu rfl ?_))
    refine WO.call rfl rfl (delete_ans S h3 g3.wf l3.kl j q2 hlen) ?_
    rintro x' h4 ⟨F', p1, p2, p3⟩
    rw [q3] at p1
    have p3' : Comes h F F' := fun b hb => by
      rcases p3 b hb with e | e
      · exact .inl e
      · exact .inr (Nat.le_trans g3.size e)
    obtain ⟨h5, w1, w2, w3, w4⟩ := l.store hw p1 (Chg.growl g3 p2) p3'
    (repeat (first | refine WO.ops (StepK.mv rfl) ?_ | refine WO.ops (StepK.lenSl rfl (by first | with_reducible assumption | rfl)) ?_ | refine WO.ops (StepK.fieldAddr rfl) ?_ | refine WO.ops (StepK.add rfl rfl (by omega)) ?_ | refine WO.ops (StepK.sub rfl rfl (by omega)) ?_ | refine WO.ops (StepK.bin rfl rfl rfl) ?_ | refine WO.ops (StepK.pickT rfl rfl) ?_ | refine WO.ops (StepK.pickF rfl rfl) ?_ | refine WO.ops (StepK.not rfl) ?_ | refine WO.ops (StepK.eq rfl rfl rfl) ?_ | refine WO.ops (StepK.extract rfl rfl) ?_ | refine WO.ops (StepK.build rfl rfl) ?_ | refine WO.ops (StepK.mkFn rfl rfl) ?_ | refine WO.ops (StepK.field rfl rfl) ?_ | refine WO.ops (StepK.lenStr rfl) ?_ | refine WO.ops (StepK.nilck rfl) ?_ | refine WO.ops (StepK.min2 rfl rfl) ?_ | refine WO.ops (StepK.max2 rfl rfl) ?_ | refine WO.ops (StepK.load1 rfl (by first | with_reducible assumption | rfl)) ?_ | refine WO.run rfl ?_ | refine WO.skip rfl rfl ?_ | refine WO.skipu rfl ?_))
    refine WO.op (StepK.store rfl rfl (by rw [p1.one.1]; rfl) w1) (WO.nil (WC.seqO ?_))
    refine WO.ops (StepK.mv rfl) ?_
    refine WO.ops (StepK.bin rfl rfl hge) ?_
    (repeat (first | refine WO.ops (StepK.mv rfl) ?_ | refine WO.ops (StepK.lenSl rfl (by first | with_reducible assumption | rfl)) ?_ | refine WO.ops (StepK.fieldAddr rfl) ?_ | refine WO.ops (StepK.add rfl rfl (by omega)) ?_ | refine WO.ops (StepK.sub rfl rfl (by omega)) ?_ | refine WO.ops (StepK.bin rfl rfl rfl) ?_ | refine WO.ops (StepK.pickT rfl rfl) ?_ | refine WO.ops (StepK.pickF rfl rfl) ?_ | refine WO.ops (StepK.not rfl) ?_ | refine WO.ops (StepK.eq rfl rfl rfl) ?_ | refine WO.ops (StepK.extract rfl rfl) ?_ | refine WO.ops (StepK.build rfl rfl) ?_ | refine WO.ops (StepK.mkFn rfl rfl) ?_ | refine WO.ops (StepK.field rfl rfl) ?_ | refine WO.ops (StepK.lenStr rfl) ?_ | refine WO.ops (StepK.nilck rfl) ?_ | refine WO.ops (StepK.min2 rfl rfl) ?_ | refine WO.ops (StepK.max2 rfl rfl) ?_ | refine WO.ops (StepK.load1 rfl (by first | with_reducible assumption | rfl)) ?_ | refine WO.run rfl ?_ | refine WO.skip rfl rfl ?_ | refine WO.skipu rfl ?_))
    exact WO.nil (WC.ret ⟨trivial, _, rfl, fun n hn => ⟨rfl, w2.low n, .inl (Nat.le_trans hn w3)⟩, fun hc _ => by omega⟩)

theorem oldest_ans (h : Heap) (hw : Wf h) {a i : Nat} {cs : List V} {x : V} {ks : List (List Nat)} {F : List Nat} (l : LP h a i cs x ks F) (hlen : ks.length ≤ 100000) : Ans C 35 [.ptr (some (a, i))] h fun v h' => v = .str (ks.headD []) ∧ LPost h h' a i cs F ks.tail ∧ (h'.low ≤ a ∨ ks = []) := by
  have hF : C.F 35 = some a35 := S.f rfl
  unfold a35 at hF
  refine Ans.fnM (fun _ _ => S.s _ _ _ (by decide)) hF rfl rfl hw fun h2 g0 hsz hge => ?_
  clear hF
  have l2 := l.grow g0
  have r0 := l2.rd
  have hl := l2.len
  have ha := Wf.lt hw l.cel
  refine WC.seqO ?_
  (repeat (first | refine WO.ops (StepK.mv rfl) ?_ | refine WO.ops (StepK.lenSl rfl (by first | with_reducible assumption | rfl)) ?_ | refine WO.ops (StepK.fieldAddr rfl) ?_ | refine WO.ops (StepK.add rfl rfl (by omega)) ?_ | refine WO.ops (StepK.sub rfl rfl (by omega)) ?_ | refine WO.ops (StepK.bin rfl rfl rfl) ?_ | refine WO.ops (StepK.pickT rfl rfl) ?_ | refine WO.ops (StepK.pickF rfl rfl) ?_ | refine WO.ops (StepK.not rfl) ?_ | refine WO.ops (StepK.eq rfl rfl rfl) ?_ | refine WO.ops (StepK.extract rfl rfl) ?_ | refine WO.ops (StepK.build rfl rfl) ?_ | refine WO.ops (StepK.mkFn rfl rfl) ?_ | refine WO.ops (StepK.field rfl rfl) ?_ | refine WO.ops (StepK.lenStr rfl) ?_ | refine WO.ops (StepK.nilck rfl) ?_ | refine WO.ops (StepK.min2 rfl rfl) ?_ | refine WO.ops (StepK.max2 rfl rfl) ?_ | refine WO.ops (StepK.load1 rfl (by first | with_reducible assumption | rfl)) ?_ | refine WO.run rfl ?_ | refine WO.skip rfl rfl ?_ | refine WO.skipu rfl ?_))
  cases ks with
  | nil =>
    refine WO.nil (WC.seq (WC.seqO ?_))
    (repeat (first | refine WO.ops (StepK.mv rfl) ?_ | refine WO.ops (StepK.lenSl rfl (by first | with_reducible assumption | rfl)) ?_ | refine WO.ops (StepK.fieldAddr rfl) ?_ | refine WO.ops (StepK.add rfl rfl (by omega)) ?_ | refine WO.ops (StepK.sub rfl rfl (by omega)) ?_ | refine WO.ops (StepK.bin rfl rfl rfl) ?_ | refine WO.ops (StepK.pickT rfl rfl) ?_ | refine WO.ops (StepK.pickF rfl rfl) ?_ | refine WO.ops (StepK.not rfl) ?_ | refine WO.ops (StepK.eq rfl rfl rfl) ?_ | refine WO.ops (StepK.extract rfl rfl) ?_ | refine WO.ops (StepK.build rfl rfl) ?_ | refine WO.ops (StepK.mkFn rfl rfl) ?_ | refine WO.ops (StepK.field rfl rfl) ?_ | refine WO.ops (StepK.lenStr rfl) ?_ | refine WO.ops (StepK.nilck rfl) ?_ | refine WO.ops (StepK.min2 rfl rfl) ?_ | refine WO.ops (StepK.max2 rfl rfl) ?_ | refine WO.ops (StepK.load1 rfl (by first | with_reducible assumption | rfl)) ?_ | refine WO.run rfl ?_ | refine WO.skip rfl rfl ?_ | refine WO.skipu rfl ?_))
    refine WO.nil (WC.condT rfl (WC.seqO ?_))
    (repeat (first | refine WO.ops (StepK.mv rfl) ?_ | refine WO.ops (StepK.lenSl rfl (by first | with_reducible assumption | rfl)) ?_ | refine WO.ops (StepK.fieldAddr rfl) ?_ | refine WO.ops (StepK.add rfl rfl (by omega)) ?_ | refine WO.ops (StepK.sub rfl rfl (by omega)) ?_ | refine WO.ops (StepK.bin rfl rfl rfl) ?_ | refine WO.ops (StepK.pickT rfl rfl) ?_ | refine WO.ops (StepK.pickF rfl rfl) ?_ | refine WO.ops (StepK.not rfl) ?_ | refine WO.ops (StepK.eq rfl rfl rfl) ?_ | refine WO.ops (StepK.extract rfl rfl) ?_ | refine WO.ops (StepK.build rfl rfl) ?_ | refine WO.ops (StepK.mkFn rfl rfl) ?_ | refine WO.ops (StepK.field rfl rfl) ?_ | refine WO.ops (StepK.lenStr rfl) ?_ | refine WO.ops (StepK.nilck rfl) ?_ | refine WO.ops (StepK.min2 rfl rfl) ?_ | refine WO.ops (StepK.max2 rfl rfl) ?_ | refine WO.ops (StepK.load1 rfl (by first | with_reducible assumption | rfl)) ?_ | refine WO.run rfl ?_ | refine WO.skip rfl rfl ?_ | refine WO.skipu rfl ?_))
    exact WO.nil (WC.ret ⟨trivial, _, rfl, fun n hn => ⟨rfl, (l.post g0).low n, .inr rfl⟩, fun _ _ => ⟨rfl, l.post (Grow.refl hw), .inr rfl⟩⟩)
  | cons k r =>
    have hne : binA .eql (iv (k :: r).length) (iv 0) = some (.bool false) := by
      simp only [binA, if_true]
      congr 2
    refine WO.nil (WC.seq (WC.seqO ?_))
    refine WO.ops (StepK.mv rfl) ?_
    refine WO.ops (StepK.nilck rfl) ?_
    refine WO.ops (StepK.fieldAddr rfl) ?_
    refine WO.ops (StepK.load1 rfl r0) ?_
    refine WO.ops (StepK.lenSl rfl hl) ?_
    refine WO.ops (StepK.bin rfl rfl hne) ?_
    refine WO.nil (WC.condF rfl (WC.skip (WC.seqO ?_)))
    obtain ⟨b, o, k1, k2⟩ := l2.sl.at (i := 0) (by simp)
    have q0 : h2.rd b o = some (.str k) := rds_rd k2 (j := 0) rfl
    (repeat (first | refine WO.ops (StepK.mv rfl) ?_ | refine WO.ops (StepK.lenSl rfl (by first | with_reducible assumption | rfl)) ?_ | refine WO.ops (StepK.fieldAddr rfl) ?_ | refine WO.ops (StepK.add rfl rfl (by omega)) ?_ | refine WO.ops (StepK.sub rfl rfl (by omega)) ?_ | refine WO.ops (StepK.bin rfl rfl rfl) ?_ | refine WO.ops (StepK.pickT rfl rfl) ?_ | refine WO.ops (StepK.pickF rfl rfl) ?_ | refine WO.ops (StepK.not rfl) ?_ | refine WO.ops (StepK.eq rfl rfl rfl) ?_ | refine WO.ops (StepK.extract rfl rfl) ?_ | refine WO.ops (StepK.build rfl rfl) ?_ | refine WO.ops (StepK.mkFn rfl rfl) ?_ | refine WO.ops (StepK.field rfl rfl) ?_ | refine WO.ops (StepK.lenStr rfl) ?_ | refine WO.ops (StepK.nilck rfl) ?_ | refine WO.ops (StepK.min2 rfl rfl) ?_ | refine WO.ops (StepK.max2 rfl rfl) ?_ | refine WO.ops (StepK.load1 rfl (by first | with_reducible assumption | rfl)) ?_ | refine WO.run rfl ?_ | refine WO.skip rfl rfl ?_ | refine WO.skipu rfl ?_))
    refine WO.ops (StepK.idxSl rfl rfl k1) ?_
    refine WO.ops (StepK.load1 rfl q0) ?_
    (repeat (first | refine WO.ops (StepK.mv rfl) ?_ | refine WO.ops (StepK.lenSl rfl (by first | with_reducible assumption | rfl)) ?_ | refine WO.ops (StepK.fieldAddr rfl) ?_ | refine WO.ops (StepK.add rfl rfl (by omega)) ?_ | refine WO.ops (StepK.sub rfl rfl (by omega)) ?_ | refine WO.ops (StepK.bin rfl rfl rfl) ?_ | refine WO.ops (StepK.pickT rfl rfl) ?_ | refine WO.ops (StepK.pickF rfl rfl) ?_ | refine WO.ops (StepK.not rfl) ?_ | refine WO.ops (StepK.eq rfl rfl rfl) ?_ | refine WO.ops (StepK.extract rfl rfl) ?_ | refine WO.ops (StepK.build rfl rfl) ?_ | refine WO.ops (StepK.mkFn rfl rfl) ?_ | refine WO.ops (StepK.field rfl rfl) ?_ | refine WO.ops (StepK.lenStr rfl) ?_ | refine WO.ops (StepK.nilck rfl) ?_ | refine WO.ops (StepK.min2 rfl rfl) ?_ | refine WO.ops (StepK.max2 rfl rfl) ?_ | refine WO.ops (StepK.load1 rfl (by first | with_reducible assumption | rfl)) ?_ | refine WO.run rfl ?_ | refine WO.skip rfl rfl ?_ | refine WO.skipu rfl ?_))
    refine WO.nil (WC.seqO ?_)
    (repeat (first | refine WO.ops (StepK.mv rfl) ?_ | refine WO.ops (StepK.lenSl rfl (by first | with_reducible assumption | rfl)) ?_ | refine WO.ops (StepK.fieldAddr rfl) ?_ | refine WO.ops (StepK.add rfl rfl (by omega)) ?_ | refine WO.ops (StepK.sub rfl rfl (by omega)) ?_ | refine WO.ops (StepK.bin rfl rfl rfl) ?_ | refine WO.ops (StepK.pickT rfl rfl) ?_ | refine WO.ops (StepK.pickF rfl rfl) ?_ | refine WO.ops (StepK.not rfl) ?_ | refine WO.ops (StepK.eq rfl rfl rfl) ?_ | refine WO.ops (StepK.extract rfl rfl) ?_ | refine WO.ops (StepK.build rfl rfl) ?_ | refine WO.ops (StepK.mkFn rfl rfl) ?_ | refine WO.ops (StepK.field rfl rfl) ?_ | refine WO.ops (StepK.lenStr rfl) ?_ | refine WO.ops (StepK.nilck rfl) ?_ | refine WO.ops (StepK.min2 rfl rfl) ?_ | refine WO.ops (StepK.max2 rfl rfl) ?_ | refine WO.ops (StepK.load1 rfl (by first | with_reducible assumption | rfl)) ?_ | refine WO.run rfl ?_ | refine WO.skip rfl rfl ?_ | refine WO.skipu rfl ?_))
    refine WO.call rfl rfl (take_ans S h2 g0.wf l2 k hlen) ?_
    rintro v h3 ⟨rfl, p1, p2⟩
    refine WO.nil (WC.seqO ?_)
    (repeat (first | refine WO.ops (StepK.mv rfl) ?_ | refine WO.ops (StepK.lenSl rfl (by first | with_reducible assumption | rfl)) ?_ | refine WO.ops (StepK.fieldAddr rfl) ?_ | refine WO.ops (StepK.add rfl rfl (by omega)) ?_ | refine WO.ops (StepK.sub rfl rfl (by omega)) ?_ | refine WO.ops (StepK.bin rfl rfl rfl) ?_ | refine WO.ops (StepK.pickT rfl rfl) ?_ | refine WO.ops (StepK.pickF rfl rfl) ?_ | refine WO.ops (StepK.not rfl) ?_ | refine WO.ops (StepK.eq rfl rfl rfl) ?_ | refine WO.ops (StepK.extract rfl rfl) ?_ | refine WO.ops (StepK.build rfl rfl) ?_ | refine WO.ops (StepK.mkFn rfl rfl) ?_ | refine WO.ops (StepK.field rfl rfl) ?_ | refine WO.ops (StepK.lenStr rfl) ?_ | refine WO.ops (StepK.nilck rfl) ?_ | refine WO.ops (StepK.min2 rfl rfl) ?_ | refine WO.ops (StepK.max2 rfl rfl) ?_ | refine WO.ops (StepK.load1 rfl (by first | with_reducible assumption | rfl)) ?_ | refine WO.run rfl ?_ | refine WO.skip rfl rfl ?_ | refine WO.skipu rfl ?_))
    have he : (k :: r).erase k = r := by simp
    rw [he] at p1
    have hlow : h3.low ≤ a := p2.resolve_right (by simp)
    obtain ⟨x', F', w1, w2, w3⟩ := p1
    have post : LPost h h3 a i cs F r := ⟨x', F', w1, Chg.growl g0 w2, fun b hb => by
      rcases w3 b hb with e | e
      · exact .inl e
      · exact .inr (Nat.le_trans g0.size e)⟩
    exact WO.nil (WC.ret ⟨trivial, _, rfl, fun n hn => ⟨rfl, post.low n, .inl (Nat.le_trans hn hlow)⟩, fun hc _ => by omega⟩)
end Abs
end Go.Proofs.Ytnbljblnikdeiaa
