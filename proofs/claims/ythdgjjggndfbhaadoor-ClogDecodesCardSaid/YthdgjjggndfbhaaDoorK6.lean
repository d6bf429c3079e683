/- Layer 13: what the document's Check, newest and Merge answer. -/
import Derived.Test.YthdgjjggndfbhaaDoorK1
import Derived.Test.YthdgjjggndfbhaaDoorA35
namespace Go.Proofs.YthdgjjggndfbhaaDoor
namespace Abs
set_option linter.unusedVariables false
set_option linter.unusedSimpArgs false
open Go.RowKit
attribute [local irreducible] WO WC WD StepK Ans Does Runs DoesD

structure Blk where
  seq : Int
  es : List Ent
def Blk.ok (b : Blk) : Prop := blkOk b.seq b.es
instance (b : Blk) : Decidable b.ok := inferInstanceAs (Decidable (blkOk _ _))
/-- Blocks in memory: each with the slice that has its entries. -/
def Blks (h : Heap) (x : V) (L : List (Blk × V)) : Prop := Sl h 2 x (L.map fun p => [iv p.1.seq, p.2]) ∧ ∀ p ∈ L, Ents h p.2 p.1.es
theorem Blks.grow {h h' : Heap} {x : V} {L : List (Blk × V)} (b : Blks h x L) (g : Grow h h') : Blks h' x L := ⟨b.1.grow g, fun p hp => (b.2 p hp).grow g⟩
theorem Blks.len {h : Heap} {x : V} {L : List (Blk × V)} (b : Blks h x L) : slLen x = some L.length := by
  have := b.1.len
  rwa [List.length_map] at this
theorem Blks.at {h : Heap} {x : V} {L : List (Blk × V)} (b : Blks h x L) {i : Nat} (hi : i < L.length) : ∃ c o, idxSlA 2 x (iv i) = some (.ptr (some (c, o))) ∧ h.rds c o 2 = some [iv L[i].1.seq, L[i].2] ∧ h.rd c (o + 0) = some (iv L[i].1.seq) ∧ h.rd c (o + 1) = some L[i].2 ∧ Ents h L[i].2 L[i].1.es := by
  obtain ⟨c, o, q1, q2⟩ := Sl.at b.1 (i := i) (by simpa using hi)
  rw [List.getElem_map] at q2
  exact ⟨c, o, q1, q2, rds_rd q2 (j := 0) rfl, rds_rd q2 (j := 1) rfl, b.2 _ (List.getElem_mem hi)⟩
def Ent.zero : Ent := ⟨[], [], 0, 0⟩
def nwStep (seq at_ : Int) (st : Int × Ent) (e : Ent) : Int × Ent := if e.loc = at_ ∧ st.1 ≤ seq then (seq, e) else st
def nwBlk (at_ : Int) (st : Int × Ent) (b : Blk) : Int × Ent := if b.ok then b.es.foldl (nwStep b.seq at_) st else st
theorem nwBlk_ok {at_ : Int} {st : Int × Ent} {seq : Int} {es : List Ent} (h : blkOk seq es) : nwBlk at_ st ⟨seq, es⟩ = es.foldl (nwStep seq at_) st := if_pos h
theorem nwBlk_bad {at_ : Int} {st : Int × Ent} {seq : Int} {es : List Ent} (h : ¬ blkOk seq es) : nwBlk at_ st ⟨seq, es⟩ = st := if_neg h
def nwF (at_ : Int) (bs : List Blk) : Int × Ent := bs.foldl (nwBlk at_) (-1, Ent.zero)
def rmF (bs : List Blk) : Nat → List Ent
  | 0 => []
  | k + 1 => rmF bs k ++ (if 0 ≤ (nwF k bs).1 then [(nwF k bs).2] else [])
theorem rmF_len (bs : List Blk) : ∀ k, (rmF bs k).length ≤ k
  | 0 => by simp [rmF]
  | k + 1 => by
    have := rmF_len bs k
    simp only [rmF, List.length_append]
    split <;> simp <;> omega

section
variable {C : Cfg} (S : StdO C)
include S

theorem r13check_ans (h : Heap) (hw : Wf h) (seq : Int) (x : V) (es : List Ent) (s : Ents h x es) (hn : es.length ≤ 1000000000) : Ans C 14 [.agg [iv seq, x]] h fun v h' => v = iv (codeF seq es) ∧ Grow h h' := by
  have hF : C.F 14 = some a14 := S.f rfl
  unfold a14 at hF
  refine Ans.val (fun _ _ => S.s _ _ _ rfl) hF rfl rfl hw fun h2 g => ?_
  clear hF
  have fin : ∀ (h3 : Heap) (e' : List (Nat × V)) (c : Int), Grow h h3 → Env.get e' 2 = some (iv c) → c = codeF seq es → Fin .ret ∧ Grow h h3 ∧ retE e' h3 [.tmp 2] = some (iv (codeF seq es)) := by
    intro h3 e' c g3 he hc
    refine ⟨trivial, g3, ?_⟩
    simp only [retE, ressE, resE, he, oneOf, hc]
  have bad : ¬ blkOk seq es → 1 = codeF seq es := fun q => by unfold codeF; rw [if_neg q]
  refine WC.seqO ?_
  refine WO.ops (StepK.box rfl) <| omv rfl ?_
  have a := Cl.new h2 [iv seq, x] none
  have g3 := g.push (.cells [iv seq, x] (.tip [] 0 none))
  change WO C _ _ (h2.push (.cells [iv seq, x] (.tip [] 0 none))) _
  generalize h2.push (.cells [iv seq, x] (.tip [] 0 none)) = h3 at *
  generalize h2.size = b at *
  have s3 := s.grow g3
  have l0 : h3.rd b (0 + 0) = some (iv seq) := a.rd rfl
  have l1 : h3.rd b (0 + 1) = some x := a.rd rfl
  refine WO.nil (WC.seq (WC.seqO ?_))
  refine ofa rfl <| old rfl l0 <| obn rfl rfl rfl <| omv rfl ?_
  refine WO.splitG rfl (fun hc => ?_) (fun hc => ?_)
  · have hc := of_decide_eq_true hc
    refine WO.skip rfl rfl <| WO.skip rfl rfl <| WO.skip rfl rfl <| opt rfl rfl <| omv rfl <| WO.skip rfl rfl <| WO.skip rfl rfl <| WO.skip rfl rfl <| WO.skip rfl rfl <| opt rfl rfl ?_
    refine WO.nil (WC.condT rfl (WC.seqO (omv rfl (WO.nil (WC.ret (fin _ _ _ g3 rfl (bad fun q => ?_)))))))
    have := q.1.1; omega
  have hc := of_decide_eq_false hc
  refine WO.run rfl <| ofa rfl <| WO.run rfl <| old rfl l0 <| WO.run rfl <| obn rfl rfl rfl <| opf rfl rfl <| omv rfl ?_
  refine WO.splitG rfl (fun hc2 => ?_) (fun hc2 => ?_)
  · have hc2 := of_decide_eq_true hc2
    refine WO.skip rfl rfl <| WO.skip rfl rfl <| WO.skip rfl rfl <| WO.skip rfl rfl <| opt rfl rfl ?_
    refine WO.nil (WC.condT rfl (WC.seqO (omv rfl (WO.nil (WC.ret (fin _ _ _ g3 rfl (bad fun q => ?_)))))))
    have := q.1.2; omega
  have hc2 := of_decide_eq_false hc2
  refine WO.run rfl <| ofa rfl <| WO.run rfl <| old rfl l1 <| WO.run rfl <| ols rfl s3.len <| WO.run rfl <| obn rfl rfl rfl <| opf rfl rfl ?_
  refine WO.nil (WC.cond rfl (fun hc3 => ?_) (fun hc3 => WC.skip (WC.seq (WC.seqO ?_))))
  · have hc3 := of_decide_eq_true hc3
    refine WC.seqO (omv rfl (WO.nil (WC.ret (fin _ _ _ g3 rfl (bad fun q => ?_)))))
    have := q.2.1; omega
  have hc3 := of_decide_eq_false hc3
  refine omv rfl (WO.nil (WC.block ?_))
  refine WC.loop (σ := Nat) (fun p => [(1, .ptr (some (b, 0))), (3, iv p)]) (fun p h' => Grow h3 h' ∧ p ≤ es.length ∧ ∀ e ∈ es.take p, e.ok) (fun p => es.length - p) 0 (Cov.cons rfl (Cov.cons rfl (Cov.nil _))) ⟨Grow.refl g3.wf, by omega, by simp⟩ ?_
  rintro p h4 ⟨g4, hp, hok⟩
  have l1 := g4.rd l1
  have s4 := s3.grow g4
  refine WC.seq (WC.seqO ?_)
  refine omv rfl <| ofa rfl <| old rfl l1 <| ols rfl s4.len <| obn rfl rfl rfl ?_
  refine WO.nil (WC.cond rfl (fun hc => WC.skip ?_) (fun hc => WC.exit ?_))
  · have hc := of_decide_eq_true hc
    have hp : p < es.length := by omega
    obtain ⟨c, o, q1, q2, _⟩ := s4.at hp
    have htake : es.take (p + 1) = es.take p ++ [es[p]] := by rw [List.take_succ_eq_append_getElem hp]
    have hmem : es[p] ∈ es := List.getElem_mem hp
    generalize es[p] = e at *
    have no : ¬ e.ok → 1 = codeF seq es := fun q => bad fun w => q (w.2.2 e hmem)
    refine WC.seq (WC.block (WC.seqO ?_))
    refine ofa rfl <| old rfl l1 <| omv rfl <| WO.ops (StepK.idxSl rfl rfl q1) <| WO.ops (StepK.loadN rfl q2) <| WO.ops StepK.alloc ?_
    have ae := Cl.new h4 [.str [], .str [], iv 0, iv 0] none
    have ge := (Grow.refl g4.wf).push (.cells [.str [], .str [], iv 0, iv 0] (.tip [] 0 none))
    have hs4 := g4.size
    change WO C _ _ (h4.push (.cells [.str [], .str [], iv 0, iv 0] (.tip [] 0 none))) _
    generalize h4.push (.cells [.str [], .str [], iv 0, iv 0] (.tip [] 0 none)) = h5 at *
    obtain ⟨h6, w1, w2, w3, w4⟩ := ae.sets ge.wf (i := 0) (us := e.v) (by simp [Ent.v]) (by rw [List.all_eq_true]; exact ent_one e)
    have g6 := Chg.newGrow (g4.trans ge) w3 g3.wf (by simpa using hs4)
    have w2 : Cl h6 h4.size e.v := w2
    generalize h4.size = u at *
    have u0 : h6.rd u (0 + 0) = some (.str e.key) := w2.rd rfl
    have u1 : h6.rd u (0 + 1) = some (.str e.sum) := w2.rd rfl
    have u2 : h6.rd u (0 + 2) = some (iv e.len) := w2.rd rfl
    have u3 : h6.rd u (0 + 3) = some (iv e.loc) := w2.rd rfl
    have g36 := g3.trans g6
    refine WO.op (StepK.store rfl rfl rfl w1) ?_
    refine WO.nil (WC.seqO ?_)
    refine ofa rfl <| old rfl u0 <| olt rfl <| obn rfl rfl rfl <| omv rfl ?_
    refine WO.splitG rfl (fun k1 => ?_) (fun k1 => ?_)
    · have k1 := of_decide_eq_true k1
      refine WO.skip rfl rfl <| WO.skip rfl rfl <| WO.skip rfl rfl <| WO.skip rfl rfl <| opt rfl rfl <| omv rfl <| WO.skip rfl rfl <| WO.skip rfl rfl <| WO.skip rfl rfl <| WO.skip rfl rfl <| opt rfl rfl <| omv rfl <| WO.skip rfl rfl <| WO.skip rfl rfl <| WO.skip rfl rfl <| opt rfl rfl <| omv rfl <| WO.skip rfl rfl <| WO.skip rfl rfl <| WO.skip rfl rfl <| opt rfl rfl <| omv rfl <| WO.skip rfl rfl <| WO.skip rfl rfl <| WO.skip rfl rfl <| opt rfl rfl <| omv rfl <| WO.skip rfl rfl <| WO.skip rfl rfl <| WO.skip rfl rfl <| opt rfl rfl ?_
      refine WO.nil (WC.condT rfl (WC.seqO (omv rfl (WO.nil (WC.ret (fin _ _ _ g36 rfl (no fun q => q.1 (List.length_eq_zero_iff.1 (by omega)))))))))
    have k1 := of_decide_eq_false k1
    refine WO.run rfl <| ofa rfl <| WO.run rfl <| old rfl u0 <| WO.run rfl <| olt rfl <| WO.run rfl <| obn rfl rfl rfl <| opf rfl rfl <| omv rfl ?_
    refine WO.splitG rfl (fun k2 => ?_) (fun k2 => ?_)
    · have k2 := of_decide_eq_true k2
      refine WO.skip rfl rfl <| WO.skip rfl rfl <| WO.skip rfl rfl <| WO.skip rfl rfl <| opt rfl rfl <| omv rfl <| WO.skip rfl rfl <| WO.skip rfl rfl <| WO.skip rfl rfl <| opt rfl rfl <| omv rfl <| WO.skip rfl rfl <| WO.skip rfl rfl <| WO.skip rfl rfl <| opt rfl rfl <| omv rfl <| WO.skip rfl rfl <| WO.skip rfl rfl <| WO.skip rfl rfl <| opt rfl rfl <| omv rfl <| WO.skip rfl rfl <| WO.skip rfl rfl <| WO.skip rfl rfl <| opt rfl rfl ?_
      refine WO.nil (WC.condT rfl (WC.seqO (omv rfl (WO.nil (WC.ret (fin _ _ _ g36 rfl (no fun q => by have := q.2.1; omega)))))))
    have k2 := of_decide_eq_false k2
    refine WO.run rfl <| ofa rfl <| WO.run rfl <| old rfl u1 <| WO.run rfl <| olt rfl <| WO.run rfl <| obn rfl rfl rfl <| opf rfl rfl <| omv rfl ?_
    refine WO.splitG rfl (fun k3 => ?_) (fun k3 => ?_)
    · have k3 : (e.sum.length : Int) ≠ 32 := by simpa using k3
      refine WO.skip rfl rfl <| WO.skip rfl rfl <| WO.skip rfl rfl <| opt rfl rfl <| omv rfl <| WO.skip rfl rfl <| WO.skip rfl rfl <| WO.skip rfl rfl <| opt rfl rfl <| omv rfl <| WO.skip rfl rfl <| WO.skip rfl rfl <| WO.skip rfl rfl <| opt rfl rfl <| omv rfl <| WO.skip rfl rfl <| WO.skip rfl rfl <| WO.skip rfl rfl <| opt rfl rfl ?_
      refine WO.nil (WC.condT rfl (WC.seqO (omv rfl (WO.nil (WC.ret (fin _ _ _ g36 rfl (no fun q => by have := q.2.2.1; omega)))))))
    have k3 : (e.sum.length : Int) = 32 := by simpa using k3
    refine WO.run rfl <| ofa rfl <| WO.run rfl <| old rfl u2 <| WO.run rfl <| obn rfl rfl rfl <| opf rfl rfl <| omv rfl ?_
    refine WO.splitG rfl (fun k4 => ?_) (fun k4 => ?_)
    · have k4 := of_decide_eq_true k4
      refine WO.skip rfl rfl <| WO.skip rfl rfl <| WO.skip rfl rfl <| opt rfl rfl <| omv rfl <| WO.skip rfl rfl <| WO.skip rfl rfl <| WO.skip rfl rfl <| opt rfl rfl <| omv rfl <| WO.skip rfl rfl <| WO.skip rfl rfl <| WO.skip rfl rfl <| opt rfl rfl ?_
      refine WO.nil (WC.condT rfl (WC.seqO (omv rfl (WO.nil (WC.ret (fin _ _ _ g36 rfl (no fun q => by have := q.2.2.2.1; omega)))))))
    have k4 := of_decide_eq_false k4
    refine WO.run rfl <| ofa rfl <| WO.run rfl <| old rfl u2 <| WO.run rfl <| obn rfl rfl rfl <| opf rfl rfl <| omv rfl ?_
    refine WO.splitG rfl (fun k5 => ?_) (fun k5 => ?_)
    · have k5 := of_decide_eq_true k5
      refine WO.skip rfl rfl <| WO.skip rfl rfl <| WO.skip rfl rfl <| opt rfl rfl <| omv rfl <| WO.skip rfl rfl <| WO.skip rfl rfl <| WO.skip rfl rfl <| opt rfl rfl ?_
      refine WO.nil (WC.condT rfl (WC.seqO (omv rfl (WO.nil (WC.ret (fin _ _ _ g36 rfl (no fun q => by have := q.2.2.2.1; omega)))))))
    have k5 := of_decide_eq_false k5
    refine WO.run rfl <| ofa rfl <| WO.run rfl <| old rfl u3 <| WO.run rfl <| obn rfl rfl rfl <| opf rfl rfl <| omv rfl ?_
    refine WO.splitG rfl (fun k6 => ?_) (fun k6 => ?_)
    · have k6 := of_decide_eq_true k6
      refine WO.skip rfl rfl <| WO.skip rfl rfl <| WO.skip rfl rfl <| opt rfl rfl ?_
      refine WO.nil (WC.condT rfl (WC.seqO (omv rfl (WO.nil (WC.ret (fin _ _ _ g36 rfl (no fun q => by have := q.2.2.2.2; omega)))))))
    have k6 := of_decide_eq_false k6
    refine WO.run rfl <| ofa rfl <| WO.run rfl <| old rfl u3 <| WO.run rfl <| obn rfl rfl rfl <| opf rfl rfl ?_
    refine WO.nil (WC.cond rfl (fun k7 => ?_) (fun k7 => WC.skip (WC.ops ?_)))
    · have k7 := of_decide_eq_true k7
      refine WC.seqO (omv rfl (WO.nil (WC.ret (fin _ _ _ g36 rfl (no fun q => by have := q.2.2.2.2; omega)))))
    have k7 := of_decide_eq_false k7
    refine omv rfl <| oad rfl rfl (by omega) <| omv rfl ?_
    refine WO.nil ⟨p + 1, Cov.cons rfl (Cov.cons rfl (Cov.nil _)), ⟨g6, by omega, ?_⟩, by omega⟩
    rw [htake]
    intro y hy
    rcases List.mem_append.1 hy with q | q
    · exact hok y q
    · obtain rfl := List.mem_singleton.1 q
      exact ⟨fun q => by rw [q] at k1; simp at k1, by omega, by omega, by omega, by omega⟩
  · have hc := of_decide_eq_false hc
    obtain rfl : p = es.length := by omega
    rw [List.take_length] at hok
    have hko : blkOk seq es := ⟨by omega, by omega, hok⟩
    refine WC.seqO (omv rfl (WO.nil (WC.ret (fin _ _ 0 (g3.trans g4) rfl ?_))))
    unfold codeF; rw [if_pos hko]

theorem newest_ans (h : Heap) (hw : Wf h) (x : V) (L : List (Blk × V)) (s : Blks h x L) (hn : L.length ≤ 1000000) (hne : ∀ p ∈ L, p.1.es.length ≤ 1000000) (at_ : Int) :
    Ans C 47 [x, iv at_] h fun v h' => v = .tuple [.agg (nwF at_ (L.map (·.1))).2.v, .bool (decide (0 ≤ (nwF at_ (L.map (·.1))).1))] ∧ Grow h h' := by
  have hF : C.F 47 = some a47 := S.f rfl
  unfold a47 at hF
  refine Ans.val (fun _ _ => S.s _ _ _ rfl) hF rfl rfl hw fun h2 g => ?_
  clear hF
  refine WC.seqO ?_
  refine WO.ops StepK.alloc ?_
  have a4 := Cl.new h2 Ent.zero.v none
  have g3 := g.push (.cells Ent.zero.v (.tip [] 0 none))
  have hb4 := g.size
  change WO C _ _ (h2.push (.cells Ent.zero.v (.tip [] 0 none))) _
  generalize h2.push (.cells Ent.zero.v (.tip [] 0 none)) = h3 at *
  have l4 := a4.lt g3.wf
  generalize h2.size = b4 at *
  refine omv rfl (WO.nil (WC.seqO (omv rfl (WO.nil (WC.seqO ?_)))))
  refine obu rfl rfl <| WO.ops StepK.alloc ?_
  have a7 := Cl.new h3 Ent.zero.v none
  have gp := (Grow.refl g3.wf).push (.cells Ent.zero.v (.tip [] 0 none))
  have g4 := g3.trans gp
  have a4 := a4.grow gp
  have hb7 := g3.size
  have n47 : b4 ≠ h3.size := by omega
  change WO C _ _ (h3.push (.cells Ent.zero.v (.tip [] 0 none))) _
  generalize h3.push (.cells Ent.zero.v (.tip [] 0 none)) = h4 at *
  generalize h3.size = b7 at *
  obtain ⟨h5, w1, w2, w3, w4⟩ := a7.sets g4.wf (i := 0) (us := Ent.zero.v) (by simp) (by rw [List.all_eq_true]; exact ent_one _)
  have a7 : Cl h5 b7 Ent.zero.v := w2
  have a4 := a4.chg w3 (by simpa using n47)
  have g5 := Chg.newGrow g4 w3 hw (by simpa using hb7)
  refine WO.op (StepK.store rfl rfl rfl w1) ?_
  refine WO.nil (WC.seq (WC.seqO (omv rfl (WO.nil (WC.block ?_)))))
  refine WC.loop (σ := Nat × (Int × Ent)) (fun p => [(0, x), (1, iv at_), (4, .ptr (some (b4, 0))), (6, iv p.2.1), (7, .ptr (some (b7, 0))), (8, iv p.1)])
    (fun p h' => Grow h h' ∧ Cl h' b4 Ent.zero.v ∧ Cl h' b7 p.2.2.v ∧ p.1 ≤ L.length ∧ p.2 = nwF at_ ((L.take p.1).map (·.1))) (fun p => L.length - p.1) (0, (-1, Ent.zero)) (Cov.cons rfl (Cov.cons rfl (Cov.cons rfl (Cov.cons rfl (Cov.cons rfl (Cov.cons rfl (Cov.nil _))))))) ⟨g5, a4, a7, by omega, rfl⟩ ?_
  clear a7 a4 w3 w2 w1
  rintro ⟨p, st⟩ h6 ⟨g6, a4, a7, hp, hst⟩
  simp only at a7 hp hst ⊢
  have s6 := s.grow g6
  refine WC.seq (WC.seqO ?_)
  refine omv rfl <| omv rfl <| ols rfl s6.len <| obn rfl rfl rfl ?_
  refine WO.nil (WC.cond rfl (fun hc => WC.skip ?_) (fun hc => WC.exit ?_))
  · have hc := of_decide_eq_true hc
    have hp : p < L.length := by omega
    have hnp := hne _ (List.getElem_mem hp)
    have htake : (L.take (p + 1)).map (·.1) = (L.take p).map (·.1) ++ [L[p].1] := by rw [List.take_succ_eq_append_getElem hp, List.map_append]; rfl
    have hat : ∀ hh, Grow h hh → ∃ c o, idxSlA 2 x (iv p) = some (.ptr (some (c, o))) ∧ hh.rds c o 2 = some [iv L[p].1.seq, L[p].2] ∧ hh.rd c (o + 0) = some (iv L[p].1.seq) ∧ hh.rd c (o + 1) = some L[p].2 ∧ Ents hh L[p].2 L[p].1.es := fun hh gg => (s.grow gg).at hp
    generalize L[p] = q at *
    obtain ⟨⟨seq, es⟩, y⟩ := q
    simp only at hnp hat htake
    refine WC.seq (WC.block (WC.seqO (omv rfl (WO.nil (WC.block ?_)))))
    refine WC.loop (σ := Nat × (Int × Ent)) (fun k => [(0, x), (1, iv at_), (4, .ptr (some (b4, 0))), (6, iv k.2.1), (7, .ptr (some (b7, 0))), (8, iv p), (9, iv k.1)])
      (fun k h' => Grow h h' ∧ Cl h' b4 Ent.zero.v ∧ Cl h' b7 k.2.2.v ∧ k.1 ≤ es.length ∧ (blkOk seq es → k.2 = (es.take k.1).foldl (nwStep seq at_) st) ∧ (¬ blkOk seq es → k.1 = 0 ∧ k.2 = st)) (fun k => es.length - k.1) (0, st) (Cov.cons rfl (Cov.cons rfl (Cov.cons rfl (Cov.cons rfl (Cov.cons rfl (Cov.cons rfl (Cov.cons rfl (Cov.nil _)))))))) ⟨g6, a4, a7, by omega, fun _ => rfl, fun _ => ⟨rfl, rfl⟩⟩ ?_
    clear a4 a7 g6 s6
    rintro ⟨k, su⟩ h7 ⟨g7, a4, a7, hk, hok, hbad⟩
    simp only at a7 hk hok hbad ⊢
    obtain ⟨c, o, q1, q2, q3, q4, sy⟩ := hat h7 g7
    have done : ∀ (e' : List (Nat × V)) (Q : Ex → List (Nat × V) → Heap → Prop) (h8 : Heap), Grow h h8 → Cl h8 b4 Ent.zero.v → Cl h8 b7 su.2.v → Cov [(0, x), (1, iv at_), (4, .ptr (some (b4, 0))), (6, iv su.1), (7, .ptr (some (b7, 0))), (8, iv p)] e' → (es.length ≤ k ∨ ¬ blkOk seq es) →
        (∀ e' (s' : Nat × (Int × Ent)), Cov [(0, x), (1, iv at_), (4, .ptr (some (b4, 0))), (6, iv s'.2.1), (7, .ptr (some (b7, 0))), (8, iv s'.1)] e' → (Grow h h8 ∧ Cl h8 b4 Ent.zero.v ∧ Cl h8 b7 s'.2.2.v ∧ s'.1 ≤ L.length ∧ s'.2 = nwF at_ ((L.take s'.1).map (·.1))) → L.length - s'.1 < L.length - p → Q .normal e' h8) →
        WC C (.ops [⟨(some 15), none, .mv (.t 8)⟩, ⟨(some 16), none, .bin .add (.t 15) (.c (.int .i64 (1)))⟩, ⟨(some 8), none, .mv (.t 16)⟩]) e' h8 Q := by
      intro e' Q h8 g8 a4 a7 cv hend hQ
      refine WC.cov cv (WC.ops ?_)
      refine omv rfl <| oad rfl rfl (by omega) <| omv rfl ?_
      refine WO.nil (hQ _ (p + 1, su) (Cov.cons rfl (Cov.cons rfl (Cov.cons rfl (Cov.cons rfl (Cov.cons rfl (Cov.cons rfl (Cov.nil _))))))) ⟨g8, a4, a7, by simp only; omega, ?_⟩ (by simp only; omega))
      simp only [htake]
      have hfold : nwF at_ ((L.take p).map (·.1) ++ [⟨seq, es⟩]) = nwBlk at_ (nwF at_ ((L.take p).map (·.1))) ⟨seq, es⟩ := by
        unfold nwF; rw [List.foldl_append]; rfl
      rw [hfold, ← hst]
      by_cases hb : blkOk seq es
      · rw [nwBlk_ok hb, hok hb]
        rcases hend with e | e
        · rw [List.take_of_length_le e]
        · exact absurd hb e
      · rw [nwBlk_bad hb]; exact (hbad hb).2
    refine WC.seq (WC.seqO ?_)
    refine omv rfl <| omv rfl <| omv rfl <| WO.ops (StepK.idxSl rfl rfl q1) <| ofa rfl <| old rfl q4 <| ols rfl sy.len <| obn rfl rfl rfl <| omv rfl ?_
    refine WO.splitG rfl (fun hc2 => ?_) (fun hc2 => ?_)
    rotate_left
    · have hc2 := of_decide_eq_false hc2
      refine WO.skip rfl rfl <| WO.skip rfl rfl <| WO.skip rfl rfl <| WO.skip rfl rfl <| WO.skip rfl rfl <| WO.skip rfl rfl <| opf rfl rfl ?_
      refine WO.nil (WC.condF rfl (WC.exit ?_))
      refine done _ _ h7 g7 a4 a7 (Cov.cons rfl (Cov.cons rfl (Cov.cons rfl (Cov.cons rfl (Cov.cons rfl (Cov.cons rfl (Cov.nil _))))))) (.inl (by omega)) (fun e' s' cv hI hm => ⟨s', cv, hI, hm⟩)
    have hc2 := of_decide_eq_true hc2
    have hk : k < es.length := by omega
    refine WO.run rfl <| omv rfl <| WO.run rfl <| omv rfl <| WO.run rfl <| WO.ops (StepK.idxSl rfl rfl q1) <| WO.run rfl <| WO.ops (StepK.loadN rfl q2) <| WO.run rfl ?_
    refine WO.call rfl rfl (r13check_ans S h7 g7.wf seq y es sy (by omega)) ?_
    rintro v h8 ⟨rfl, g8⟩
    have a4 := a4.grow g8
    have a7 := a7.grow g8
    have g8 := g7.trans g8
    obtain ⟨c, o, q1, q2, q3, q4, sy⟩ := hat h8 g8
    refine WO.run rfl <| obn rfl rfl rfl <| opt rfl rfl ?_
    refine WO.nil (WC.cond rfl (fun hc3 => WC.skip ?_) (fun hc3 => WC.exit ?_))
    rotate_left
    · have hno : ¬ blkOk seq es := by
        intro q
        have : codeF seq es = 0 := by unfold codeF; rw [if_pos q]
        rw [this] at hc3; cases hc3
      refine done _ _ h8 g8 a4 a7 (Cov.cons rfl (Cov.cons rfl (Cov.cons rfl (Cov.cons rfl (Cov.cons rfl (Cov.cons rfl (Cov.nil _))))))) (.inr hno) (fun e' s' cv hI hm => ⟨s', cv, hI, hm⟩)
    have hb : blkOk seq es := by
      have hc3 : codeF seq es = 0 := by simpa using hc3
      unfold codeF at hc3; split at hc3
      · assumption
      · cases hc3
    have hok := hok hb
    obtain ⟨d, i, r1, r2, _, _, _, r3⟩ := sy.at hk
    have hfold : (es.take (k + 1)).foldl (nwStep seq at_) st = nwStep seq at_ su es[k] := by rw [List.take_succ_eq_append_getElem hk, List.foldl_append, ← hok]; rfl
    have hel : ∀ hh, Grow h hh → ∃ d i, idxSlA 4 y (iv k) = some (.ptr (some (d, i))) ∧ hh.rds d i 4 = some es[k].v := fun hh gg => by
      obtain ⟨c, o, _, _, _, _, sy⟩ := hat hh gg
      obtain ⟨d, i, r1, r2, _⟩ := sy.at hk
      exact ⟨d, i, r1, r2⟩
    generalize es[k] = e at *
    -- the round's end
    have next : ∀ (e' : List (Nat × V)) (h9 : Heap) (su' : Int × Ent), Grow h h9 → Cl h9 b4 Ent.zero.v → Cl h9 b7 su'.2.v → Cov [(0, x), (1, iv at_), (4, .ptr (some (b4, 0))), (6, iv su'.1), (7, .ptr (some (b7, 0))), (8, iv p), (9, iv k)] e' → su' = nwStep seq at_ su e → ∀ Q : Ex → List (Nat × V) → Heap → Prop,
        (∀ e' (k' : Nat × (Int × Ent)), Cov [(0, x), (1, iv at_), (4, .ptr (some (b4, 0))), (6, iv k'.2.1), (7, .ptr (some (b7, 0))), (8, iv p), (9, iv k'.1)] e' → (Grow h h9 ∧ Cl h9 b4 Ent.zero.v ∧ Cl h9 b7 k'.2.2.v ∧ k'.1 ≤ es.length ∧ (blkOk seq es → k'.2 = (es.take k'.1).foldl (nwStep seq at_) st) ∧ (¬ blkOk seq es → k'.1 = 0 ∧ k'.2 = st)) → es.length - k'.1 < es.length - k → Q .normal e' h9) →
        WC C (.ops [⟨(some 33), none, .mv (.t 9)⟩, ⟨(some 34), none, .bin .add (.t 33) (.c (.int .i64 (1)))⟩, ⟨(some 9), none, .mv (.t 34)⟩]) e' h9 Q := by
      intro e' h9 su' g9 a4 a7 cv hs Q hQ
      refine WC.cov cv (WC.ops ?_)
      refine omv rfl <| oad rfl rfl (by omega) <| omv rfl ?_
      exact WO.nil (hQ _ (k + 1, su') (Cov.cons rfl (Cov.cons rfl (Cov.cons rfl (Cov.cons rfl (Cov.cons rfl (Cov.cons rfl (Cov.cons rfl (Cov.nil _)))))))) ⟨g9, a4, a7, by simp only; omega, fun _ => by simp only; rw [hfold, hs], fun q => absurd hb q⟩ (by simp only; omega))
    refine WC.seq (WC.block (WC.seqO ?_))
    refine omv rfl <| omv rfl <| WO.ops (StepK.idxSl rfl rfl q1) <| ofa rfl <| old rfl q4 <| omv rfl <| WO.ops (StepK.idxSl rfl rfl r1) <| ofa rfl <| old rfl r3 <| omv rfl <| obn rfl rfl rfl <| omv rfl ?_
    have cv7 : ∀ e0 : List (Nat × V), True := fun _ => trivial
    refine WO.splitG rfl (fun hl => ?_) (fun hl => ?_)
    rotate_left
    · have hl : e.loc ≠ at_ := by simpa using hl
      refine WO.skip rfl rfl <| WO.skip rfl rfl <| WO.skip rfl rfl <| WO.skip rfl rfl <| WO.skip rfl rfl <| WO.skip rfl rfl <| WO.skip rfl rfl <| opf rfl rfl ?_
      refine WO.nil (WC.condF rfl (WC.skip (next _ h8 su g8 a4 a7 (Cov.cons rfl (Cov.cons rfl (Cov.cons rfl (Cov.cons rfl (Cov.cons rfl (Cov.cons rfl (Cov.cons rfl (Cov.nil _)))))))) ?_ _ (fun e' s' cv hI hm => ⟨s', cv, hI, hm⟩))))
      unfold nwStep; rw [if_neg (fun q => hl q.1)]
    have hl : e.loc = at_ := by simpa using hl
    refine WO.run rfl <| omv rfl <| WO.run rfl <| omv rfl <| WO.run rfl <| WO.ops (StepK.idxSl rfl rfl q1) <| WO.run rfl <| ofa rfl <| WO.run rfl <| old rfl q3 <| WO.run rfl <| omv rfl <| WO.run rfl <| obn rfl rfl rfl <| opt rfl rfl ?_
    refine WO.nil (WC.cond rfl (fun hs => WC.seqO ?_) (fun hs => WC.skip ?_))
    · have hs : seq ≥ su.1 := of_decide_eq_true hs
      refine omv rfl <| omv rfl <| WO.ops (StepK.idxSl rfl rfl q1) <| ofa rfl <| old rfl q3 <| omv rfl ?_
      refine WO.nil (WC.ops ?_)
      obtain ⟨h9, w1, w2, w3, w4⟩ := a7.sets g8.wf (i := 0) (us := e.v) (by simp [Ent.v]) (by rw [List.all_eq_true]; exact ent_one e)
      refine omv rfl <| omv rfl <| WO.ops (StepK.idxSl rfl rfl q1) <| ofa rfl <| old rfl q4 <| omv rfl <| WO.ops (StepK.idxSl rfl rfl r1) <| WO.ops (StepK.loadN rfl r2) ?_
      refine WO.op (StepK.store rfl rfl rfl w1) ?_
      refine WO.nil (next _ h9 (seq, e) (Chg.newGrow g8 w3 hw (by simpa using hb7)) (a4.chg w3 (by simpa using n47)) w2 (Cov.cons rfl (Cov.cons rfl (Cov.cons rfl (Cov.cons rfl (Cov.cons rfl (Cov.cons rfl (Cov.cons rfl (Cov.nil _)))))))) ?_ _ (fun e' s' cv hI hm => ⟨s', cv, hI, hm⟩))
      unfold nwStep; rw [if_pos ⟨hl, hs⟩]
    · have hs : ¬ seq ≥ su.1 := of_decide_eq_false hs
      refine next _ h8 su g8 a4 a7 (Cov.cons rfl (Cov.cons rfl (Cov.cons rfl (Cov.cons rfl (Cov.cons rfl (Cov.cons rfl (Cov.cons rfl (Cov.nil _)))))))) ?_ _ (fun e' s' cv hI hm => ⟨s', cv, hI, hm⟩)
      unfold nwStep; rw [if_neg (fun q => hs q.2)]
  · have hc := of_decide_eq_false hc
    obtain rfl : p = L.length := by omega
    rw [List.take_length] at hst
    rw [← hst]
    obtain ⟨h7, w1, w2, w3, w4⟩ := a4.sets g6.wf (i := 0) (us := st.2.v) (by simp [Ent.v]) (by rw [List.all_eq_true]; exact ent_one _)
    have w2 : Cl h7 b4 st.2.v := w2
    refine WC.seqO ?_
    refine WO.ops (StepK.loadN rfl (a7.rds rfl)) <| omv rfl <| obn rfl rfl rfl ?_
    refine WO.op (StepK.store rfl rfl rfl w1) ?_
    refine omv rfl ?_
    refine WO.nil (WC.ret ⟨trivial, Chg.newGrow g6 w3 hw (by simpa using hb4), ?_⟩)
    have hl : loadA h7 (some 4) (.ptr (some (b4, 0))) = some (.agg st.2.v) := by simp only [loadA, w2.rds (k := 4) rfl]
    exact (show retE _ h7 [.cell 4 (some 4), .tmp 5] = (match (match loadA h7 (some 4) (.ptr (some (b4, 0))), (some [.bool (decide (st.1 ≥ 0))] : Option (List V)) with | some v, some vs => some (v :: vs) | _, _ => none) with | some vs => some (oneOf vs) | none => none) from rfl).trans (by rw [hl]; rfl)

theorem r13merge_ans (h : Heap) (hw : Wf h) (x : V) (L : List (Blk × V)) (s : Blks h x L) (hn : L.length ≤ 1000000) (hne : ∀ p ∈ L, p.1.es.length ≤ 1000000) :
    Ans C 21 [x] h fun v h' => Grown h' h.size 4 v ((rmF (L.map (·.1)) 512).map Ent.v) ∧ Grow h h' := by
  have hF : C.F 21 = some a21 := S.f rfl
  unfold a21 at hF
  refine Ans.loc S.hm (S.s _ _ _ rfl) hF rfl rfl hw (fun h2 g hsz hge => ?_) ?_
  rotate_left
  · exact fun v h1 hg q hv => ⟨q.1.scopd hv h, Grow.refl hw⟩
  clear hF
  refine WC.seqO (omv rfl (WO.nil (WC.seqO (omv rfl (WO.nil (WC.seq (WC.seqO (omv rfl (WO.nil (WC.block ?_)))))))))) 
  refine WC.loop (σ := Nat × V) (fun p => [(0, x), (3, p.2), (4, iv p.1)]) (fun p h' => Grow h h' ∧ p.1 ≤ 512 ∧ Grown h' h.size 4 p.2 ((rmF (L.map (·.1)) p.1).map Ent.v)) (fun p => 512 - p.1) (0, .slice none 0 0) (Cov.cons rfl (Cov.cons rfl (Cov.cons rfl (Cov.nil _)))) ⟨g, by omega, Grown.nil _ _ _⟩ ?_
  rintro ⟨p, y⟩ h3 ⟨g3, hp, gy⟩
  simp only at hp gy ⊢
  refine WC.seq (WC.seqO ?_)
  refine omv rfl <| obn rfl rfl rfl ?_
  refine WO.nil (WC.cond rfl (fun hc => WC.skip ?_) (fun hc => WC.exit ?_))
  · have hc := of_decide_eq_true hc
    refine WC.seq (WC.block (WC.seqO ?_))
    refine omv rfl <| omv rfl ?_
    refine WO.call rfl rfl (newest_ans S h3 g3.wf x L (s.grow g3) hn hne p) ?_
    rintro v h4 ⟨rfl, g4⟩
    have gy := gy.grow g4
    have g4 := g3.trans g4
    have hrm : rmF (L.map (·.1)) (p + 1) = rmF (L.map (·.1)) p ++ (if 0 ≤ (nwF p (L.map (·.1))).1 then [(nwF p (L.map (·.1))).2] else []) := rfl
    have hlen := rmF_len (L.map (·.1)) p
    generalize nwF p (L.map (·.1)) = st at *
    refine omv rfl <| oex rfl rfl <| oex rfl rfl <| WO.ops StepK.alloc ?_
    have a5 := Cl.new h4 Ent.zero.v none
    have gp := (Grow.refl g4.wf).push (.cells Ent.zero.v (.tip [] 0 none))
    have hs4 := g4.size
    have gy := gy.grow gp
    have hoff : Off y h4.size := by
      intro b o l k z e
      obtain ⟨_, ⟨q, _⟩ | ⟨b', S', ty, q, _, _, q4⟩⟩ := gy
      · rw [q] at e; cases e
      · rw [q] at e; cases e
        intro e; subst e
        rw [get_push_self] at q4
        have : ((rmF (L.map (·.1)) p).map Ent.v).length = 1 ∨ True := .inr trivial
        obtain ⟨_, ⟨q', _⟩ | ⟨b'', S'', ty', q', _, _, q5⟩⟩ := ‹Grown h4 h.size 4 y _›
        · rw [q] at q'; cases q'
        · rw [q] at q'; cases q'
          have := Wf.lt g4.wf q5; omega
    have g5 := g4.trans gp
    change WO C _ _ (h4.push (.cells Ent.zero.v (.tip [] 0 none))) _
    generalize h4.push (.cells Ent.zero.v (.tip [] 0 none)) = h5 at *
    generalize h4.size = b5 at *
    obtain ⟨h6, w1, w2, w3, w4⟩ := a5.sets g5.wf (i := 0) (us := st.2.v) (by simp [Ent.v]) (by rw [List.all_eq_true]; exact ent_one _)
    have w2 : Cl h6 b5 st.2.v := w2
    have g6 := Chg.newGrow g5 w3 hw (by simpa using hs4)
    have gy := gy.chg w3 (by simpa using hoff)
    refine WO.op (StepK.store rfl rfl rfl w1) ?_
    refine omv rfl (WO.nil (WC.seqO (omv rfl (WO.nil ?_))))
    refine WC.cond rfl (fun hb => WC.ops ?_) (fun hb => WC.skip (WC.ops ?_))
    · have hb := of_decide_eq_true hb
      refine omv rfl <| WO.ops (StepK.loadN rfl (w2.rds rfl)) <| WO.ops (StepK.buildSl rfl rfl) ?_
      have gp := (Grow.refl g6.wf).push (.cells st.2.v (.tip [] 0 none))
      have hnew : (h6.push (.cells st.2.v (.tip [] 0 none))).get h6.size = some (.cells st.2.v (.tip [] 0 none)) := get_push_self _ _
      have g7 := g6.trans gp
      have gy := gy.grow gp
      change WO C _ _ (h6.push (.cells st.2.v (.tip [] 0 none))) _
      generalize h6.push (.cells st.2.v (.tip [] 0 none)) = h7 at *
      obtain ⟨v, h8, u1, u2, u3, u4, u5⟩ := Grown.append2 (bytes := 48) (tyK := none) hw g7 gy (sl_one hnew (ent_len _)) (by decide) (by decide) (roomy48 (by simp; omega)) (by simpa using ent_one _)
      refine WO.ops (StepK.append rfl rfl u1) <| omv rfl ?_
      refine WO.nil (WC.ops ?_)
      refine omv rfl <| oad rfl rfl (by omega) <| omv rfl ?_
      refine WO.nil ⟨(p + 1, v), Cov.cons rfl (Cov.cons rfl (Cov.cons rfl (Cov.nil _))), ⟨u3, by simp only; omega, ?_⟩, by simp only; omega⟩
      simp only [hrm, if_pos hb, List.map_append]; exact u2
    · have hb := of_decide_eq_false hb
      refine omv rfl <| oad rfl rfl (by omega) <| omv rfl ?_
      refine WO.nil ⟨(p + 1, y), Cov.cons rfl (Cov.cons rfl (Cov.cons rfl (Cov.nil _))), ⟨g6, by simp only; omega, ?_⟩, by simp only; omega⟩
      simp only [hrm, if_neg hb, List.append_nil]; exact gy
  · have hc := of_decide_eq_false hc
    obtain rfl : p = 512 := by omega
    refine WC.seqO (omv rfl <| omv rfl ?_)
    exact WO.nil (WC.ret ⟨trivial, _, rfl, fun n => ⟨gy.same (fun _ => rfl), g3.low1 n⟩⟩)
end
end Abs
end Go.Proofs.YthdgjjggndfbhaaDoor
