/- Layer 13: what own, told, Small and Same answer. -/
import Derived.Test.YthdgjjggndfbhaaDoorB14
namespace Go.Proofs.YthdgjjggndfbhaaDoor
namespace Abs
set_option linter.unusedVariables false
set_option linter.unusedSimpArgs false
open Go.RowKit
attribute [local irreducible] WO WC WD StepK Ans Does Runs DoesD

deriving instance DecidableEq for Ent
def entD : EqD := .struct [(0, none, .flat .str), (1, none, .flat .str), (2, none, .flat .int), (3, none, .flat .int)]
theorem ent_eq (a b : Ent) : eqA entD (.agg a.v) (.agg b.v) = some (decide (a = b)) := by
  obtain ⟨k, s, l, o⟩ := a
  obtain ⟨k', s', l', o'⟩ := b
  simp only [entD, eqA, eqAs, aggOf, Ent.v, List.getElem?_cons_zero, List.getElem?_cons_succ, flatEq, if_true, Ent.mk.injEq]
  by_cases h1 : k = k'
  · subst h1
    by_cases h2 : s = s'
    · subst h2
      by_cases h3 : l = l'
      · subst h3
        by_cases h4 : o = o'
        · subst h4; simp [beqL_refl]
        · have : (o == o') = false := by simpa using h4
          simp [beqL_refl, this, h4]
      · have : (l == l') = false := by simpa using h3
        simp [beqL_refl, this, h3]
    · have : beqL s s' = false := Bool.eq_false_iff.2 fun q => h2 ((beqL_iff _ _).1 q)
      simp [beqL_refl, this, h2]
  · have : beqL k k' = false := Bool.eq_false_iff.2 fun q => h1 ((beqL_iff _ _).1 q)
    simp [this, h1]
def smallE (e : Ent) : Prop := e.sum.length ≤ 100 ∧ e.key.length ≤ 100
instance (e : Ent) : Decidable (smallE e) := inferInstanceAs (Decidable (_ ∧ _))
def smallF (es : List Ent) : Prop := (∀ e ∈ es, smallE e) ∧ es.length ≤ 40
instance (es : List Ent) : Decidable (smallF es) := inferInstanceAs (Decidable (_ ∧ _))

section
variable {C : Cfg} (S : StdO C)
include S

theorem told_ans (h : Heap) (hw : Wf h) (x : V) (es : List Ent) (s : Ents h x es) (hn : es.length ≤ 1000000) : Ans C 19 [x] h fun v h' => Grown h' h.size 4 v (es.map Ent.v) ∧ Grow h h' := by
  have hF : C.F 19 = some a19 := S.f rfl
  unfold a19 at hF
  refine Ans.loc S.hm (S.s _ _ _ rfl) hF rfl rfl hw (fun h2 g hsz hge => ?_) ?_
  rotate_left
  · exact fun v h1 hg q hv => ⟨q.1.scopd hv h, Grow.refl hw⟩
  clear hF
  have s2 := s.grow g
  refine WC.seqO ?_
  refine omv rfl ?_
  refine WO.nil (WC.seqO ?_)
  refine omv rfl ?_
  refine WO.nil (WC.seq (WC.seqO ?_))
  refine omv rfl ?_
  refine WO.nil (WC.block ?_)
  refine WC.loop (σ := Nat × V) (fun p => [(0, x), (3, p.2), (4, iv p.1)]) (fun p h' => Grow h h' ∧ p.1 ≤ es.length ∧ Grown h' h.size 4 p.2 ((es.take p.1).map Ent.v)) (fun p => es.length - p.1) (0, .slice none 0 0) (Cov.cons rfl (Cov.cons rfl (Cov.cons rfl (Cov.nil _)))) ⟨g, by omega, Grown.nil _ _ _⟩ ?_
  rintro ⟨p, y⟩ h3 ⟨g3, hp, gy⟩
  simp only at hp gy ⊢
  have s3 := s.grow g3
  refine WC.seq (WC.seqO ?_)
  refine omv rfl <| omv rfl <| ols rfl s3.len <| obn rfl rfl rfl ?_
  refine WO.nil (WC.cond rfl (fun hc => WC.skip ?_) (fun hc => WC.exit ?_))
  · have hc := of_decide_eq_true hc
    have hp : p < es.length := by omega
    obtain ⟨b, o, q1, q2, r0, r1, r2, r3⟩ := s3.at hp
    have htake : es.take (p + 1) = es.take p ++ [es[p]] := by rw [List.take_succ_eq_append_getElem hp]
    generalize es[p] = e at *
    refine WC.seq (WC.block (WC.draw ?_))
    refine dmv rfl <| dmv rfl <| dmv rfl <| WD.pure (StepK.idxSl rfl rfl q1) rfl <| dfa rfl ?_
    refine WD.load1 rfl r0 ?_
    refine dmv rfl <| dmv rfl <| WD.pure (StepK.idxSl rfl rfl q1) rfl <| dfa rfl ?_
    refine WD.load1 rfl r1 ?_
    refine dmv rfl <| dmv rfl <| WD.pure (StepK.idxSl rfl rfl q1) rfl <| dfa rfl ?_
    refine WD.load1 rfl r2 ?_
    refine dmv rfl <| dmv rfl <| WD.pure (StepK.idxSl rfl rfl q1) rfl <| dfa rfl ?_
    refine WD.load1 rfl r3 ?_
    refine dbu rfl rfl ?_
    refine WD.alloc (cs := e.v) (ty := none) rfl (StepK.buildSl rfl rfl) ?_
    have gp := (Grow.refl g3.wf).push (.cells e.v (.tip [] 0 none))
    have hnew : (h3.push (.cells e.v (.tip [] 0 none))).get h3.size = some (.cells e.v (.tip [] 0 none)) := get_push_self _ _
    have r0 := gp.rd r0
    have r1 := gp.rd r1
    have r2 := gp.rd r2
    have r3 := gp.rd r3
    have g4 := g3.trans gp
    have gy4 := gy.grow gp
    generalize h3.push (.cells e.v (.tip [] 0 none)) = h4 at *
    obtain ⟨v, h5, w1, w2, w3, w4, w5⟩ := Grown.append2 (bytes := 48) (tyK := none) hw g4 gy4 (sl_one hnew (ent_len _)) (by decide) (by decide) (roomy48 (by simp; omega)) (by simpa using ent_one _)
    refine WD.opC (by repeat (first | exact trivial | refine ⟨by with_reducible assumption, ?_⟩)) rfl (StepK.append rfl rfl w1) ?_
    refine dmv rfl ?_
    refine WD.nil trivial (WC.ops ?_)
    refine omv rfl <| oad rfl rfl (by omega) <| omv rfl ?_
    refine WO.nil ⟨(p + 1, v), Cov.cons rfl (Cov.cons rfl (Cov.cons rfl (Cov.nil _))), ⟨w3, by simp only; omega, ?_⟩, by simp only; omega⟩
    simp only [htake, List.map_append]; exact w2
  · have hc := of_decide_eq_false hc
    obtain rfl : p = es.length := by omega
    rw [List.take_length] at gy
    refine WC.seqO ?_
    refine omv rfl <| omv rfl ?_
    exact WO.nil (WC.ret ⟨trivial, _, rfl, fun n => ⟨gy.same (fun _ => rfl), g3.low1 n⟩⟩)

theorem own_ans (h : Heap) (hw : Wf h) (seq : Int) (x : V) (es : List Ent) (s : Ents h x es) (hn : es.length ≤ 1000000) : Ans C 11 [.agg [iv seq, x]] h fun v h' => ∃ y, v = .agg [iv seq, y] ∧ Grown h' h.size 4 y (es.map Ent.v) ∧ Grow h h' := by
  have hF : C.F 11 = some a11 := S.f rfl
  unfold a11 at hF
  refine Ans.loc S.hm (S.s _ _ _ rfl) hF rfl rfl hw (fun h2 g hsz hge => ?_) ?_
  rotate_left
  · rintro v h1 hg ⟨y, rfl, q1, q2⟩ hv
    exact ⟨y, rfl, q1.scopd (by simpa [V.scopd, V.scopeds] using hv) h, Grow.refl hw⟩
  clear hF
  refine WC.seqO ?_
  refine WO.ops (StepK.box rfl) ?_
  have a1 := Cl.new h2 [iv seq, x] none
  have g3 := g.push (.cells [iv seq, x] (.tip [] 0 none))
  have hb1 := g.size
  change WO C _ _ (h2.push (.cells [iv seq, x] (.tip [] 0 none))) _
  have n12 : h2.size ≠ (h2.push (.cells [iv seq, x] (.tip [] 0 none))).size := by simp [Heap.push]
  generalize h2.push (.cells [iv seq, x] (.tip [] 0 none)) = h3 at *
  generalize h2.size = b1 at *
  refine WO.ops StepK.alloc ?_
  have a2 := Cl.new h3 [iv 0, .slice none 0 0] none
  have gp := (Grow.refl g3.wf).push (.cells [iv 0, .slice none 0 0] (.tip [] 0 none))
  have a1 := a1.grow gp
  have g4 := g3.trans gp
  have hb2 := g3.size
  change WO C _ _ (h3.push (.cells [iv 0, .slice none 0 0] (.tip [] 0 none))) _
  generalize h3.push (.cells [iv 0, .slice none 0 0] (.tip [] 0 none)) = h4 at *
  generalize h3.size = b2 at *
  refine WO.nil (WC.seqO ?_)
  refine ofa rfl <| old rfl (a1.rd rfl) <| obu rfl rfl <| WO.ops StepK.alloc ?_
  have a3 := Cl.new h4 [iv 0, .slice none 0 0] none
  have gp := (Grow.refl g4.wf).push (.cells [iv 0, .slice none 0 0] (.tip [] 0 none))
  have l1 := a1.lt g4.wf
  have l2 := a2.lt g4.wf
  have a1 := a1.grow gp
  have a2 := a2.grow gp
  have g5 := g4.trans gp
  have hb3 := g4.size
  change WO C _ _ (h4.push (.cells [iv 0, .slice none 0 0] (.tip [] 0 none))) _
  generalize h4.push (.cells [iv 0, .slice none 0 0] (.tip [] 0 none)) = h5 at *
  have n13 : h4.size ≠ b1 := by omega
  have n23 : h4.size ≠ b2 := by omega
  generalize h4.size = b3 at *
  obtain ⟨h6, p1, p2, p3, p4⟩ := a3.sets g5.wf (i := 0) (us := [iv seq, .slice none 0 0]) (by simp) rfl
  have a3 : Cl h6 b3 [iv seq, .slice none 0 0] := p2
  have a1 := a1.chg p3 (by simpa using fun e => n13 e.symm)
  have a2 := a2.chg p3 (by simpa using fun e => n23 e.symm)
  have g6 := Chg.newGrow g5 p3 hw (by simpa using hb3)
  refine WO.op (StepK.store rfl rfl rfl p1) ?_
  refine WO.nil (WC.seq (WC.seqO ?_))
  refine omv rfl ?_
  refine WO.nil (WC.block ?_)
  refine WC.loop (σ := Nat × V) (fun p => [(1, .ptr (some (b1, 0))), (2, .ptr (some (b2, 0))), (3, .ptr (some (b3, 0))), (4, iv p.1)]) (fun p h' => Grow h h' ∧ p.1 ≤ es.length ∧ Grown h' h.size 4 p.2 ((es.take p.1).map Ent.v) ∧ Cl h' b1 [iv seq, x] ∧ Cl h' b2 [iv 0, .slice none 0 0] ∧ Cl h' b3 [iv seq, p.2] ∧ Off p.2 b1 ∧ Off p.2 b2 ∧ Off p.2 b3) (fun p => es.length - p.1) (0, .slice none 0 0) (Cov.cons rfl (Cov.cons rfl (Cov.cons rfl (Cov.cons rfl (Cov.nil _))))) ⟨g6, by omega, Grown.nil _ _ _, a1, a2, a3, Off.nil _, Off.nil _, Off.nil _⟩ ?_
  clear a1 a2 a3 p3 p2 p1 p4 g6 l1 l2
  rintro ⟨p, y⟩ h3 ⟨g3, hp, gy, a1, a2, a3, o1, o2, o3⟩
  simp only at hp gy a3 o1 o2 o3 ⊢
  have s3 := s.grow g3
  have ly : h3.rd b1 (0 + 1) = some x := a1.rd rfl
  have lz : h3.rd b3 (0 + 1) = some y := a3.rd rfl
  refine WC.seq (WC.seqO ?_)
  refine omv rfl <| ofa rfl <| old rfl ly <| ols rfl s3.len <| obn rfl rfl rfl ?_
  refine WO.nil (WC.cond rfl (fun hc => WC.skip ?_) (fun hc => WC.exit ?_))
  · have hc := of_decide_eq_true hc
    have hp : p < es.length := by omega
    obtain ⟨b, o, q1, q2, r0, r1, r2, r3⟩ := s3.at hp
    have htake : es.take (p + 1) = es.take p ++ [es[p]] := by rw [List.take_succ_eq_append_getElem hp]
    generalize es[p] = e at *
    refine WC.seq (WC.block (WC.draw ?_))
    refine dfa rfl ?_
    refine WD.load1 rfl lz ?_
    refine dfa rfl ?_
    refine WD.load1 rfl ly ?_
    refine dmv rfl <| WD.pure (StepK.idxSl rfl rfl q1) rfl <| dfa rfl ?_
    refine WD.load1 rfl r0 ?_
    refine dfa rfl ?_
    refine WD.load1 rfl ly ?_
    refine dmv rfl <| WD.pure (StepK.idxSl rfl rfl q1) rfl <| dfa rfl ?_
    refine WD.load1 rfl r1 ?_
    refine dfa rfl ?_
    refine WD.load1 rfl ly ?_
    refine dmv rfl <| WD.pure (StepK.idxSl rfl rfl q1) rfl <| dfa rfl ?_
    refine WD.load1 rfl r2 ?_
    refine dfa rfl ?_
    refine WD.load1 rfl ly ?_
    refine dmv rfl <| WD.pure (StepK.idxSl rfl rfl q1) rfl <| dfa rfl ?_
    refine WD.load1 rfl r3 ?_
    refine dbu rfl rfl ?_
    refine WD.alloc (cs := e.v) (ty := none) rfl (StepK.buildSl rfl rfl) ?_
    have gp := (Grow.refl g3.wf).push (.cells e.v (.tip [] 0 none))
    have hnew : (h3.push (.cells e.v (.tip [] 0 none))).get h3.size = some (.cells e.v (.tip [] 0 none)) := get_push_self _ _
    have r0 := gp.rd r0
    have r1 := gp.rd r1
    have r2 := gp.rd r2
    have r3 := gp.rd r3
    have ly := gp.rd ly
    have lz := gp.rd lz
    have l1 := a1.lt g3.wf
    have l2 := a2.lt g3.wf
    have l3 := a3.lt g3.wf
    have a1 := a1.grow gp
    have a2 := a2.grow gp
    have a3 := a3.grow gp
    have g4 := g3.trans gp
    have gy4 := gy.grow gp
    have hs34 := gp.size
    generalize h3.push (.cells e.v (.tip [] 0 none)) = h4 at *
    obtain ⟨v, h5, w1, w2, w3, w4, w5⟩ := Grown.append2 (bytes := 48) (tyK := none) hw g4 gy4 (sl_one hnew (ent_len _)) (by decide) (by decide) (roomy48 (by simp; omega)) (by simpa using ent_one _)
    refine WD.opC (by repeat (first | exact trivial | refine ⟨by with_reducible assumption, ?_⟩)) rfl (StepK.append rfl rfl w1) ?_
    have a1 := a1.frm w4 o1
    have a2 := a2.frm w4 o2
    have a3 := a3.frm w4 o3
    obtain ⟨h6, u1, u2, u3, u4⟩ := a3.set w3.wf (i := 1) (v := v) (by exact (by decide : 1 < 2)) w2.one
    have hv1 : v.cellsOf = [v] := by have := w2.one; cases v <;> first | rfl | cases this
    have o1' := w5 b1 (by omega) o1
    have o2' := w5 b2 (by omega) o2
    have o3' := w5 b3 (by omega) o3
    refine dfa rfl ?_
    refine WD.opC (by repeat (first | exact trivial | refine ⟨by with_reducible assumption, ?_⟩)) rfl (StepK.store (n := 1) rfl rfl (by rw [hv1]; rfl) (by rw [hv1]; exact u1)) ?_
    refine WD.nil trivial (WC.ops ?_)
    refine omv rfl <| oad rfl rfl (by omega) <| omv rfl ?_
    refine WO.nil ⟨(p + 1, v), Cov.cons rfl (Cov.cons rfl (Cov.cons rfl (Cov.cons rfl (Cov.nil _)))), ⟨Chg.newGrow w3 u3 hw (by simpa using hb3), by simp only; omega, ?_, a1.chg u3 (by simpa using fun e => n13 e.symm), a2.chg u3 (by simpa using fun e => n23 e.symm), u2, o1', o2', o3'⟩, by simp only; omega⟩
    simp only [htake, List.map_append]
    exact w2.chg u3 (by simpa using o3')
  · have hc := of_decide_eq_false hc
    obtain rfl : p = es.length := by omega
    rw [List.take_length] at gy
    obtain ⟨h4, u1, u2, u3, u4⟩ := a2.sets g3.wf (i := 0) (us := [iv seq, y]) (by simp) (by simp only [List.all_cons, List.all_nil, gy.one, Bool.and_true]; rfl)
    have u2 : Cl h4 b2 [iv seq, y] := u2
    refine WC.seqO ?_
    refine WO.ops (StepK.loadN rfl (a3.rds rfl)) ?_
    refine WO.op (StepK.store rfl rfl rfl u1) ?_
    exact WO.nil (WC.ret ⟨trivial, _, retE_cells rfl (u2.rds rfl), fun n => ⟨y, rfl, (gy.chg u3 (by simpa using o2)).same (fun _ => rfl), (Chg.newGrow g3 u3 hw (by simpa using hb2)).low1 n⟩⟩)

theorem small_ans (h : Heap) (hw : Wf h) (seq : Int) (x : V) (es : List Ent) (s : Ents h x es) (hn : es.length ≤ 9223372036854775807) : Ans C 8 [.agg [iv seq, x]] h fun v h' => v = .bool (decide (smallF es)) ∧ Grow h h' := by
  have hF : C.F 8 = some a8 := S.f rfl
  unfold a8 at hF
  refine Ans.val (fun _ _ => S.s _ _ _ rfl) hF rfl rfl hw fun h2 g => ?_
  clear hF
  refine WC.seqO ?_
  refine WO.ops (StepK.box rfl) <| omv rfl ?_
  have a1 := Cl.new h2 [iv seq, x] none
  have g3 := g.push (.cells [iv seq, x] (.tip [] 0 none))
  change WO C _ _ (h2.push (.cells [iv seq, x] (.tip [] 0 none))) _
  generalize h2.push (.cells [iv seq, x] (.tip [] 0 none)) = h3 at *
  generalize h2.size = b at *
  have s3 := s.grow g3
  have l1 : h3.rd b (0 + 1) = some x := a1.rd rfl
  refine WO.nil (WC.seq (WC.seqO ?_))
  refine omv rfl ?_
  refine WO.nil (WC.block ?_)
  refine WC.loop (σ := Nat) (fun p => [(1, .ptr (some (b, 0))), (3, iv p)]) (fun p h' => h' = h3 ∧ p ≤ es.length ∧ ∀ e ∈ es.take p, smallE e) (fun p => es.length - p) 0 (Cov.cons rfl (Cov.cons rfl (Cov.nil _))) ⟨rfl, by omega, by simp⟩ ?_
  rintro p h3 ⟨rfl, hp, hsm⟩
  refine WC.seq (WC.seqO ?_)
  refine omv rfl <| ofa rfl <| old rfl l1 <| ols rfl s3.len <| obn rfl rfl rfl ?_
  refine WO.nil (WC.cond rfl (fun hc => WC.skip ?_) (fun hc => WC.exit ?_))
  · have hc := of_decide_eq_true hc
    have hp : p < es.length := by omega
    obtain ⟨c, o, q1, q2, r0, r1, r2, r3⟩ := s3.at hp
    have htake : es.take (p + 1) = es.take p ++ [es[p]] := by rw [List.take_succ_eq_append_getElem hp]
    have hmem : es[p] ∈ es := List.getElem_mem hp
    generalize es[p] = e at *
    have no : ¬ smallE e → ¬ smallF es := fun q w => q (w.1 e hmem)
    have fin : ∀ (e' : List (Nat × V)), Env.get e' 2 = some (.bool false) → ¬ smallF es → Fin .ret ∧ Grow h h3 ∧ retE e' h3 [.tmp 2] = some (.bool (decide (smallF es))) := by
      intro e' he hb
      refine ⟨trivial, g3, ?_⟩
      rw [decide_eq_false hb]
      simp only [retE, ressE, resE, he, oneOf]
    refine WC.seq (WC.block (WC.seqO ?_))
    refine ofa rfl <| old rfl l1 <| omv rfl <| WO.ops (StepK.idxSl rfl rfl q1) <| ofa rfl <| old rfl r1 <| olt rfl <| obn rfl rfl rfl <| omv rfl ?_
    refine WO.splitG rfl (fun hc2 => ?_) (fun hc2 => ?_)
    · have hc2 := of_decide_eq_true hc2
      refine WO.skip rfl rfl <| WO.skip rfl rfl <| WO.skip rfl rfl <| WO.skip rfl rfl <| WO.skip rfl rfl <| WO.skip rfl rfl <| WO.skip rfl rfl <| WO.skip rfl rfl <| opt rfl rfl ?_
      refine WO.nil (WC.condT rfl (WC.seqO ?_))
      refine omv rfl ?_
      exact WO.nil (WC.ret (fin _ rfl (no fun q => by have := q.1; omega)))
    have hc2 := of_decide_eq_false hc2
    refine WO.run rfl <| ofa rfl <| WO.run rfl <| old rfl l1 <| WO.run rfl <| omv rfl <| WO.run rfl <| WO.ops (StepK.idxSl rfl rfl q1) <| WO.run rfl <| ofa rfl <| WO.run rfl <| old rfl r0 <| WO.run rfl <| olt rfl <| WO.run rfl <| obn rfl rfl rfl <| opf rfl rfl ?_
    refine WO.nil (WC.cond rfl (fun hc3 => WC.seqO ?_) (fun hc3 => WC.skip (WC.ops ?_)))
    · have hc3 := of_decide_eq_true hc3
      refine omv rfl ?_
      exact WO.nil (WC.ret (fin _ rfl (no fun q => by have := q.2; omega)))
    · have hc3 := of_decide_eq_false hc3
      refine omv rfl <| oad rfl rfl (by omega) <| omv rfl ?_
      refine WO.nil ⟨p + 1, Cov.cons rfl (Cov.cons rfl (Cov.nil _)), ⟨rfl, by omega, ?_⟩, by omega⟩
      rw [htake]
      intro y hy
      rcases List.mem_append.1 hy with q | q
      · exact hsm y q
      · obtain rfl := List.mem_singleton.1 q
        exact ⟨by omega, by omega⟩
  · have hc := of_decide_eq_false hc
    obtain rfl : p = es.length := by omega
    rw [List.take_length] at hsm
    refine WC.seqO ?_
    refine ofa rfl <| old rfl l1 <| ols rfl s3.len <| obn rfl rfl rfl <| omv rfl ?_
    refine WO.nil (WC.ret ⟨trivial, g3, ?_⟩)
    show some (V.bool (decide ((es.length : Int) ≤ 40))) = _
    congr 2
    exact decide_eq_decide.2 ⟨fun q => ⟨hsm, by omega⟩, fun q => by have := q.2; omega⟩

theorem same_ans (h : Heap) (hw : Wf h) (x y : V) (xs ys : List Ent) (s : Ents h x xs) (t : Ents h y ys) (hn : xs.length ≤ 1000000000) : Ans C 18 [x, y] h fun v h' => v = .bool (decide (xs = ys)) ∧ Grow h h' := by
  have hF : C.F 18 = some a18 := S.f rfl
  unfold a18 at hF
  refine Ans.val (fun _ _ => S.s _ _ _ rfl) hF rfl rfl hw fun h2 g => ?_
  clear hF
  have s2 := s.grow g
  have t2 := t.grow g
  have fin : ∀ (e' : List (Nat × V)), Env.get e' 4 = some (.bool false) → xs ≠ ys → Fin .ret ∧ Grow h h2 ∧ retE e' h2 [.tmp 4] = some (.bool (decide (xs = ys))) := by
    intro e' he hb
    refine ⟨trivial, g, ?_⟩
    rw [decide_eq_false hb]
    simp only [retE, ressE, resE, he, oneOf]
  refine WC.seqO ?_
  refine omv rfl ?_
  refine WO.nil (WC.seq (WC.seqO ?_))
  refine omv rfl <| ols rfl s2.len <| omv rfl <| ols rfl t2.len <| obn rfl rfl rfl ?_
  refine WO.nil (WC.cond rfl (fun hc => WC.seqO ?_) (fun hc => WC.skip (WC.seq (WC.seqO ?_))))
  · have hc : (xs.length : Int) ≠ ys.length := by simpa using hc
    refine omv rfl ?_
    exact WO.nil (WC.ret (fin _ rfl (fun q => hc (by rw [q]))))
  have hlen : (xs.length : Int) = ys.length := by simpa using hc
  have hlen : xs.length = ys.length := by omega
  clear hc
  refine omv rfl ?_
  refine WO.nil (WC.block ?_)
  refine WC.loop (σ := Nat) (fun p => [(0, x), (1, y), (5, iv p)]) (fun p h' => h' = h2 ∧ p ≤ xs.length ∧ xs.take p = ys.take p) (fun p => xs.length - p) 0 (Cov.cons rfl (Cov.cons rfl (Cov.cons rfl (Cov.nil _)))) ⟨rfl, by omega, rfl⟩ ?_
  rintro p _ ⟨rfl, hp, heq⟩
  refine WC.seq (WC.seqO ?_)
  refine omv rfl <| omv rfl <| ols rfl s2.len <| obn rfl rfl rfl ?_
  refine WO.nil (WC.cond rfl (fun hc => WC.skip ?_) (fun hc => WC.exit ?_))
  · have hc := of_decide_eq_true hc
    have hp : p < xs.length := by omega
    have hpb : p < ys.length := by omega
    obtain ⟨c, o, q1, q2, _⟩ := s2.at hp
    obtain ⟨c', o', u1, u2, _⟩ := t2.at hpb
    have ta : xs.take (p + 1) = xs.take p ++ [xs[p]] := by rw [List.take_succ_eq_append_getElem hp]
    have tb : ys.take (p + 1) = ys.take p ++ [ys[p]] := by rw [List.take_succ_eq_append_getElem hpb]
    have hne : xs[p] ≠ ys[p] → xs ≠ ys := by
      intro q e; subst e; exact q rfl
    generalize xs[p] = ea at *
    generalize ys[p] = eb at *
    refine WC.seq (WC.block (WC.seqD ?_))
    refine dmv rfl <| dmv rfl <| WD.pure (StepK.idxSl rfl rfl q1) rfl ?_
    refine WD.loadN rfl q2 ?_
    refine dmv rfl <| dmv rfl <| WD.pure (StepK.idxSl rfl rfl u1) rfl ?_
    refine WD.loadN rfl u2 ?_
    refine deq rfl rfl (ent_eq ea eb) ?_
    refine WD.nil (by repeat (first | exact trivial | refine ⟨by with_reducible assumption, ?_⟩)) ?_
    refine WC.cond rfl (fun hc2 => WC.seqO ?_) (fun hc2 => WC.skip (WC.ops ?_))
    · have hc2 : ea ≠ eb := by simpa using hc2
      refine omv rfl ?_
      exact WO.nil (WC.ret (fin _ rfl (hne hc2)))
    · have hc2 : ea = eb := by simpa using hc2
      refine omv rfl <| oad rfl rfl (by omega) <| omv rfl ?_
      refine WO.nil ⟨p + 1, Cov.cons rfl (Cov.cons rfl (Cov.cons rfl (Cov.nil _))), ⟨rfl, by omega, by rw [ta, tb, heq, hc2]⟩, by omega⟩
  · have hc := of_decide_eq_false hc
    obtain rfl : p = xs.length := by omega
    have heq : xs = ys := by
      rw [List.take_length, List.take_of_length_le (by omega)] at heq; exact heq
    refine WC.seqO ?_
    refine omv rfl ?_
    refine WO.nil (WC.ret ⟨trivial, g, ?_⟩)
    show some (V.bool true) = _
    rw [decide_eq_true heq]
end
end Abs
end Go.Proofs.YthdgjjggndfbhaaDoor
