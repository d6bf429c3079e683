/- Layer 11: what is always so of a cache stays so; two caches side by side; whether they are the same. -/
import Derived.Test.YtnbljblnikdeiaaD10
namespace Go.Proofs.Ytnbljblnikdeiaa
namespace Abs
set_option linter.unusedVariables false
set_option linter.unusedSimpArgs false
set_option maxHeartbeats 1600000
open Go.RowKit
attribute [local irreducible] WO WC WD StepK Ans Does Runs DoesD

theorem room_b1 {s : AS} {k : List Nat} (h : k ∈ s.b1) (b : Bool) : k ∈ (roomR s b).2.b1 := by
  unfold roomR
  split
  · simp [h]
  · split <;> exact h
theorem room_b2 {s : AS} {k : List Nat} (h : k ∈ s.b2) (b : Bool) : k ∈ (roomR s b).2.b2 := by
  unfold roomR
  split
  · exact h
  · split
    · simp [h]
    · exact h
theorem wo_head_len {l : List (List Nat)} (h : l.Nodup) (hp : 0 < l.length) : (wo l (l.headD [])).length + 1 = l.length := by
  refine wo_mem_len h ?_
  cases l with
  | nil => simp at hp
  | cons a l => simp

theorem AInv.ask {s : AS} (i : AInv s) (k : List Nat) : AInv (askR s k).2.2 := by
  have c1 := i.c; have p1 := i.p; have i1 := i.h1; have i2 := i.h2; have i3 := i.h3
  unfold askR
  split
  · exact i
  rename_i hk
  split
  · rename_i hh
    have l1 := wo_le s.t1 k; have l2 := wo_le s.t2 k; have l3 := wo_le s.b1 k; have l4 := wo_le s.b2 k
    refine ⟨(dropR_nd i.nd k).app2 (dropR_no hk), i.c, i.p, ?_, ?_, ?_⟩
    · simp only [dropR]; omega
    · simp only [dropR, List.length_append, List.length_singleton]
      rcases (hasS_iff s k).1 hh with q | q
      · have := wo_mem_len i.nd.n1 q; omega
      · have := wo_mem_len i.nd.n2 q; omega
    · simp only [dropR, List.length_append, List.length_singleton]
      rcases (hasS_iff s k).1 hh with q | q
      · have := wo_mem_len i.nd.n1 q; omega
      · have := wo_mem_len i.nd.n2 q; omega
  · split
    · rename_i hb
      unfold againR
      simp only
      by_cases e : k ∈ s.b1
      · rw [if_pos e]
        have hnd : ND (upS s s.b1.length s.b2.length) := i.nd.sub (List.Sublist.refl _) (List.Sublist.refl _) (List.Sublist.refl _) (List.Sublist.refl _)
        obtain ⟨r1, r2⟩ := room_nd hnd false
        obtain ⟨q1, q2, q3, q4, q5⟩ := room_len hnd false
        have hm : k ∈ (roomR (upS s s.b1.length s.b2.length) false).2.b1 := room_b1 (s := upS s s.b1.length s.b2.length) e false
        have hup : 0 ≤ (upS s s.b1.length s.b2.length).p ∧ (upS s s.b1.length s.b2.length).p ≤ s.c := by
          simp only [upS]
          have : 0 ≤ ((s.b2.length / s.b1.length : Nat) : Int) := Int.natCast_nonneg _
          split <;> split <;> omega
        have u1 : (upS s s.b1.length s.b2.length).t1 = s.t1 := rfl
        have u2 : (upS s s.b1.length s.b2.length).t2 = s.t2 := rfl
        have u3 : (upS s s.b1.length s.b2.length).b1 = s.b1 := rfl
        have u4 : (upS s s.b1.length s.b2.length).b2 = s.b2 := rfl
        have u5 : (upS s s.b1.length s.b2.length).c = s.c := rfl
        rw [u1, u3] at q3
        rw [u2, u4] at q4
        rw [u1, u2] at q5
        rw [u5] at q2
        generalize roomR (upS s s.b1.length s.b2.length) false = r at *
        have l1 := wo_le r.2.t1 k; have l2 := wo_le r.2.t2 k; have l3 := wo_mem_len r1.n3 hm; have l4 := wo_le r.2.b2 k
        exact ⟨(dropR_nd r1 k).app2 (dropR_no hk), by simp only [dropR]; omega, by simp only [dropR]; omega, by simp only [dropR]; omega, by simp only [dropR, List.length_append, List.length_singleton]; omega, by simp only [dropR, List.length_append, List.length_singleton]; omega⟩
      · rw [if_neg e]
        have e2 := hb.resolve_left e
        have hnd : ND (downS s s.b1.length s.b2.length) := i.nd.sub (List.Sublist.refl _) (List.Sublist.refl _) (List.Sublist.refl _) (List.Sublist.refl _)
        obtain ⟨r1, r2⟩ := room_nd hnd true
        obtain ⟨q1, q2, q3, q4, q5⟩ := room_len hnd true
        have hm : k ∈ (roomR (downS s s.b1.length s.b2.length) true).2.b2 := room_b2 (s := downS s s.b1.length s.b2.length) e2 true
        have hup : 0 ≤ (downS s s.b1.length s.b2.length).p ∧ (downS s s.b1.length s.b2.length).p ≤ s.c := by
          simp only [downS]
          have : 0 ≤ ((s.b1.length / s.b2.length : Nat) : Int) := Int.natCast_nonneg _
          split <;> split <;> omega
        have u1 : (downS s s.b1.length s.b2.length).t1 = s.t1 := rfl
        have u2 : (downS s s.b1.length s.b2.length).t2 = s.t2 := rfl
        have u3 : (downS s s.b1.length s.b2.length).b1 = s.b1 := rfl
        have u4 : (downS s s.b1.length s.b2.length).b2 = s.b2 := rfl
        have u5 : (downS s s.b1.length s.b2.length).c = s.c := rfl
        rw [u1, u3] at q3
        rw [u2, u4] at q4
        rw [u1, u2] at q5
        rw [u5] at q2
        generalize roomR (downS s s.b1.length s.b2.length) true = r at *
        have l1 := wo_le r.2.t1 k; have l2 := wo_le r.2.t2 k; have l4 := wo_mem_len r1.n4 hm; have l3 := wo_le r.2.b1 k
        exact ⟨(dropR_nd r1 k).app2 (dropR_no hk), by simp only [dropR]; omega, by simp only [dropR]; omega, by simp only [dropR]; omega, by simp only [dropR, List.length_append, List.length_singleton]; omega, by simp only [dropR, List.length_append, List.length_singleton]; omega⟩
    · rename_i hh hb
      have hn : k ∉ s.t1 ∧ k ∉ s.t2 := by rw [hasS_iff] at hh; exact not_or.1 hh
      have hb := not_or.1 hb
      have no : NoKey s k := ⟨hk, hn.1, hn.2, hb.1, hb.2⟩
      have fin : ∀ s' : AS, ND s' → NoKey s' k → s'.c = s.c → s'.p = s.p → (s'.t1.length : Int) + 1 + s'.b1.length ≤ s.c → (s'.t1.length : Int) + 1 + s'.t2.length ≤ s.c → (s'.t1.length : Int) + 1 + s'.t2.length + s'.b1.length + s'.b2.length ≤ 2 * s.c → AInv { s' with t1 := s'.t1 ++ [k] } := by
        intro s' n1 n2 e1 e2 e3 e4 e5
        exact ⟨n1.app1 n2, by simp only [e1]; omega, by simp only [e1, e2]; omega, by simp only [e1, List.length_append, List.length_singleton]; omega, by simp only [e1, List.length_append, List.length_singleton]; omega, by simp only [e1, List.length_append, List.length_singleton]; omega⟩
      simp only
      unfold freshR
      split
      · rename_i f1
        split
        · rename_i f2
          have hs : ND { s with b1 := wo s.b1 (s.b1.headD []) } := i.nd.sub (List.Sublist.refl _) (List.Sublist.refl _) (wo_sub _ _) (List.Sublist.refl _)
          have hl := wo_head_len i.nd.n3 (by omega)
          obtain ⟨r1, r2⟩ := room_nd hs false
          obtain ⟨q1, q2, q3, q4, q5⟩ := room_len hs false
          simp only at q1 q2 q3 q4 q5
          exact fin _ r1 (r2 k ⟨hk, hn.1, hn.2, fun q => hb.1 (mem_wo.1 q).1, hb.2⟩) q2 q1 (by omega) (by omega) (by omega)
        · rename_i f2
          have hl := wo_head_len i.nd.n1 (by omega)
          exact fin { s with t1 := wo s.t1 (s.t1.headD []) } (i.nd.sub (wo_sub _ _) (List.Sublist.refl _) (List.Sublist.refl _) (List.Sublist.refl _)) ⟨hk, fun q => hn.1 (mem_wo.1 q).1, hn.2, hb.1, hb.2⟩ rfl rfl (by simp only; omega) (by simp only; omega) (by simp only; omega)
      · rename_i f1
        split
        · rename_i f2
          split
          · rename_i f3
            have hs : ND { s with b2 := wo s.b2 (s.b2.headD []) } := i.nd.sub (List.Sublist.refl _) (List.Sublist.refl _) (List.Sublist.refl _) (wo_sub _ _)
            have hl := wo_head_len i.nd.n4 (by omega)
            obtain ⟨r1, r2⟩ := room_nd hs false
            obtain ⟨q1, q2, q3, q4, q5⟩ := room_len hs false
            simp only at q1 q2 q3 q4 q5
            exact fin _ r1 (r2 k ⟨hk, hn.1, hn.2, hb.1, fun q => hb.2 (mem_wo.1 q).1⟩) q2 q1 (by omega) (by omega) (by omega)
          · rename_i f3
            obtain ⟨r1, r2⟩ := room_nd i.nd false
            obtain ⟨q1, q2, q3, q4, q5⟩ := room_len i.nd false
            exact fin _ r1 (r2 k no) q2 q1 (by omega) (by omega) (by omega)
        · rename_i f2
          exact fin s i.nd no rfl rfl (by omega) (by omega) (by omega)

/-- Two caches, the program's and the document's, both made since h. -/
structure TW (h h' : Heap) (a b : Nat) (s t : AS) (F G : List Nat) : Prop where
  grow : Grow h h'
  fst : ArcAt h' a s F
  snd : ArcAt h' b t G
  dj : Dj F G
  cf : Comes h [] F
  cg : Comes h [] G
theorem TW.up {h h1 h2 : Heap} {a b : Nat} {s t : AS} {F G : List Nat} (w : TW h h1 a b s t F G) (g : Grow h1 h2) : TW h h2 a b s t F G :=
  ⟨w.grow.trans g, w.fst.grow g, w.snd.grow g, w.dj, w.cf, w.cg⟩
theorem TW.stepA {h h1 h2 : Heap} (hw : Wf h) {a b : Nat} {s s' t : AS} {F G : List Nat} (w : TW h h1 a b s t F G) (p : APost h1 h2 a F s') : ∃ F', TW h h2 a b s' t F' G := by
  obtain ⟨F', q1, q2, q3⟩ := p
  refine ⟨F', (((w.grow.chg []).trans q2 hw w.cf).grow), q1, w.snd.keep q2 w.dj.symm, q3.dj (w.snd.lows w.grow.wf) w.dj, w.cf.trans q3 w.grow.size, w.cg⟩
theorem TW.stepB {h h1 h2 : Heap} (hw : Wf h) {a b : Nat} {s t t' : AS} {F G : List Nat} (w : TW h h1 a b s t F G) (p : APost h1 h2 b G t') : ∃ G', TW h h2 a b s t' F G' := by
  obtain ⟨G', q1, q2, q3⟩ := p
  refine ⟨G', (((w.grow.chg []).trans q2 hw w.cg).grow), w.fst.keep q2 w.dj, q1, (q3.dj (w.fst.lows w.grow.wf) w.dj.symm).symm, w.cf, w.cg.trans q3 w.grow.size⟩

variable {C : Cfg} (S : Std C)
include S

theorem same_arc {h : Heap} (hw : Wf h) {a b : Nat} {s : AS} {F G : List Nat} (A : ArcAt h a s F) (B : ArcAt h b s G) (hb : Bd s) : Ans C 16 [.ptr (some (a, 0)), .ptr (some (b, 0))] h fun v h' => v = .bool true ∧ Grow h h' := by
  have hF : C.F 16 = some a16 := S.f rfl
  unfold a16 at hF
  refine Ans.val (fun _ _ => S.s _ _ _ (by decide)) hF rfl rfl hw fun h2 g0 => ?_
  clear hF
  have b0 : s.t1.length ≤ 100000 := hb 0
  have b1 : s.t2.length ≤ 100000 := hb 1
  have b2 : s.b1.length ≤ 100000 := hb 2
  have b3 : s.b2.length ≤ 100000 := hb 3
  refine WC.seqO ?_
  (repeat (first | refine WO.ops (StepK.mv rfl) ?_ | refine WO.ops (StepK.lenSl rfl (by first | with_reducible assumption | rfl)) ?_ | refine WO.ops (StepK.fieldAddr rfl) ?_ | refine WO.ops (StepK.add rfl rfl (by omega)) ?_ | refine WO.ops (StepK.sub rfl rfl (by omega)) ?_ | refine WO.ops (StepK.bin rfl rfl rfl) ?_ | refine WO.ops (StepK.pickT rfl rfl) ?_ | refine WO.ops (StepK.pickF rfl rfl) ?_ | refine WO.ops (StepK.not rfl) ?_ | refine WO.ops (StepK.eq rfl rfl rfl) ?_ | refine WO.ops (StepK.extract rfl rfl) ?_ | refine WO.ops (StepK.build rfl rfl) ?_ | refine WO.ops (StepK.mkFn rfl rfl) ?_ | refine WO.ops (StepK.field rfl rfl) ?_ | refine WO.ops (StepK.lenStr rfl) ?_ | refine WO.ops (StepK.nilck rfl) ?_ | refine WO.ops (StepK.min2 rfl rfl) ?_ | refine WO.ops (StepK.max2 rfl rfl) ?_ | refine WO.ops (StepK.load1 rfl (by first | with_reducible assumption | rfl)) ?_ | refine WO.run rfl ?_ | refine WO.skip rfl rfl ?_ | refine WO.skipu rfl ?_))
  refine WO.nil (WC.seqO ?_)
  (repeat (first | refine WO.ops (StepK.mv rfl) ?_ | refine WO.ops (StepK.lenSl rfl (by first | with_reducible assumption | rfl)) ?_ | refine WO.ops (StepK.fieldAddr rfl) ?_ | refine WO.ops (StepK.add rfl rfl (by omega)) ?_ | refine WO.ops (StepK.sub rfl rfl (by omega)) ?_ | refine WO.ops (StepK.bin rfl rfl rfl) ?_ | refine WO.ops (StepK.pickT rfl rfl) ?_ | refine WO.ops (StepK.pickF rfl rfl) ?_ | refine WO.ops (StepK.not rfl) ?_ | refine WO.ops (StepK.eq rfl rfl rfl) ?_ | refine WO.ops (StepK.extract rfl rfl) ?_ | refine WO.ops (StepK.build rfl rfl) ?_ | refine WO.ops (StepK.mkFn rfl rfl) ?_ | refine WO.ops (StepK.field rfl rfl) ?_ | refine WO.ops (StepK.lenStr rfl) ?_ | refine WO.ops (StepK.nilck rfl) ?_ | refine WO.ops (StepK.min2 rfl rfl) ?_ | refine WO.ops (StepK.max2 rfl rfl) ?_ | refine WO.ops (StepK.load1 rfl (by first | with_reducible assumption | rfl)) ?_ | refine WO.run rfl ?_ | refine WO.skip rfl rfl ?_ | refine WO.skipu rfl ?_))
  refine WO.call rfl rfl (lists_ans S g0.wf (A.grow g0) hb) ?_
  rintro v h3 ⟨u1, u2, u3, u4, rfl, ⟨s1, s2, s3, s4⟩, g3⟩
  have g3 := g0.trans g3
  (repeat (first | refine WO.ops (StepK.mv rfl) ?_ | refine WO.ops (StepK.lenSl rfl (by first | with_reducible assumption | rfl)) ?_ | refine WO.ops (StepK.fieldAddr rfl) ?_ | refine WO.ops (StepK.add rfl rfl (by omega)) ?_ | refine WO.ops (StepK.sub rfl rfl (by omega)) ?_ | refine WO.ops (StepK.bin rfl rfl rfl) ?_ | refine WO.ops (StepK.pickT rfl rfl) ?_ | refine WO.ops (StepK.pickF rfl rfl) ?_ | refine WO.ops (StepK.not rfl) ?_ | refine WO.ops (StepK.eq rfl rfl rfl) ?_ | refine WO.ops (StepK.extract rfl rfl) ?_ | refine WO.ops (StepK.build rfl rfl) ?_ | refine WO.ops (StepK.mkFn rfl rfl) ?_ | refine WO.ops (StepK.field rfl rfl) ?_ | refine WO.ops (StepK.lenStr rfl) ?_ | refine WO.ops (StepK.nilck rfl) ?_ | refine WO.ops (StepK.min2 rfl rfl) ?_ | refine WO.ops (StepK.max2 rfl rfl) ?_ | refine WO.ops (StepK.load1 rfl (by first | with_reducible assumption | rfl)) ?_ | refine WO.run rfl ?_ | refine WO.skip rfl rfl ?_ | refine WO.skipu rfl ?_))
  refine WO.nil (WC.seqD ?_)
  have B3 := B.grow g3
  obtain ⟨_, y1, _, m1, _⟩ := B3.op g3.wf 0 (by decide)
  obtain ⟨_, y2, _, m2, _⟩ := B3.op g3.wf 1 (by decide)
  obtain ⟨_, y3, _, m3, _⟩ := B3.op g3.wf 2 (by decide)
  obtain ⟨_, y4, _, m4, _⟩ := B3.op g3.wf 3 (by decide)
  have t1 : h3.rd b (0 + 0) = some y1 := m1.rd
  have t2 : h3.rd b (0 + 1) = some y2 := m2.rd
  have t3 : h3.rd b (0 + 2) = some y3 := m3.rd
  have t4 : h3.rd b (0 + 3) = some y4 := m4.rd
  have k1 : Sl h3 1 y1 (ki s.t1) := m1.sl
  have k2 : Sl h3 1 y2 (ki s.t2) := m2.sl
  have k3 : Sl h3 1 y3 (ki s.b1) := m3.sl
  have k4 : Sl h3 1 y4 (ki s.b2) := m4.sl
  have rp := B3.rdp
  have hy : ∀ l : List (List Nat), decide (l = l) = true := fun l => decide_eq_true rfl
  (repeat (first | refine WD.pure (StepK.mv rfl) rfl ?_ | refine WD.pure (StepK.lenSl rfl (by first | with_reducible assumption | rfl)) rfl ?_ | refine WD.pure (StepK.fieldAddr rfl) rfl ?_ | refine WD.pure (StepK.add rfl rfl (by omega)) rfl ?_ | refine WD.pure (StepK.sub rfl rfl (by omega)) rfl ?_ | refine WD.pure (StepK.bin rfl rfl rfl) rfl ?_ | refine WD.pure (StepK.pickT rfl rfl) rfl ?_ | refine WD.pure (StepK.pickF rfl rfl) rfl ?_ | refine WD.pure (StepK.not rfl) rfl ?_ | refine WD.pure (StepK.eq rfl rfl rfl) rfl ?_ | refine WD.pure (StepK.extract rfl rfl) rfl ?_ | refine WD.pure (StepK.build rfl rfl) rfl ?_ | refine WD.pure (StepK.mkFn rfl rfl) rfl ?_ | refine WD.pure (StepK.field rfl rfl) rfl ?_ | refine WD.pure (StepK.lenStr rfl) rfl ?_ | refine WD.pure (StepK.nilck rfl) rfl ?_ | refine WD.pure (StepK.min2 rfl rfl) rfl ?_ | refine WD.pure (StepK.max2 rfl rfl) rfl ?_ | refine WD.load1 rfl (by first | with_reducible assumption | rfl) ?_ | refine WD.run rfl ?_ | refine WD.skipn rfl rfl rfl ?_ | refine WD.skipun rfl rfl ?_))
  refine WD.call ⟨t1, trivial⟩ rfl rfl (same_ans S h3 g3.wf u1 y1 s.t1 s.t1 s1 k1 (by omega) (by omega)) ?_
  rintro v h4 ⟨rfl, g4⟩
  rw [hy]
  have t2 := g4.rd t2
  have t3 := g4.rd t3
  have t4 := g4.rd t4
  have rp := g4.rd rp
  (repeat (first | refine WD.pure (StepK.mv rfl) rfl ?_ | refine WD.pure (StepK.lenSl rfl (by first | with_reducible assumption | rfl)) rfl ?_ | refine WD.pure (StepK.fieldAddr rfl) rfl ?_ | refine WD.pure (StepK.add rfl rfl (by omega)) rfl ?_ | refine WD.pure (StepK.sub rfl rfl (by omega)) rfl ?_ | refine WD.pure (StepK.bin rfl rfl rfl) rfl ?_ | refine WD.pure (StepK.pickT rfl rfl) rfl ?_ | refine WD.pure (StepK.pickF rfl rfl) rfl ?_ | refine WD.pure (StepK.not rfl) rfl ?_ | refine WD.pure (StepK.eq rfl rfl rfl) rfl ?_ | refine WD.pure (StepK.extract rfl rfl) rfl ?_ | refine WD.pure (StepK.build rfl rfl) rfl ?_ | refine WD.pure (StepK.mkFn rfl rfl) rfl ?_ | refine WD.pure (StepK.field rfl rfl) rfl ?_ | refine WD.pure (StepK.lenStr rfl) rfl ?_ | refine WD.pure (StepK.nilck rfl) rfl ?_ | refine WD.pure (StepK.min2 rfl rfl) rfl ?_ | refine WD.pure (StepK.max2 rfl rfl) rfl ?_ | refine WD.load1 rfl (by first | with_reducible assumption | rfl) ?_ | refine WD.run rfl ?_ | refine WD.skipn rfl rfl rfl ?_ | refine WD.skipun rfl rfl ?_))
  refine WD.call ⟨t2, trivial⟩ rfl rfl (same_ans S h4 g4.wf u2 y2 s.t2 s.t2 (s2.grow g4) (k2.grow g4) (by omega) (by omega)) ?_
  rintro v h5 ⟨rfl, g5⟩
  rw [hy]
  have t3 := g5.rd t3
  have t4 := g5.rd t4
  have rp := g5.rd rp
  have g45 := g4.trans g5
  (repeat (first | refine WD.pure (StepK.mv rfl) rfl ?_ | refine WD.pure (StepK.lenSl rfl (by first | with_reducible assumption | rfl)) rfl ?_ | refine WD.pure (StepK.fieldAddr rfl) rfl ?_ | refine WD.pure (StepK.add rfl rfl (by omega)) rfl ?_ | refine WD.pure (StepK.sub rfl rfl (by omega)) rfl ?_ | refine WD.pure (StepK.bin rfl rfl rfl) rfl ?_ | refine WD.pure (StepK.pickT rfl rfl) rfl ?_ | refine WD.pure (StepK.pickF rfl rfl) rfl ?_ | refine WD.pure (StepK.not rfl) rfl ?_ | refine WD.pure (StepK.eq rfl rfl rfl) rfl ?_ | refine WD.pure (StepK.extract rfl rfl) rfl ?_ | refine WD.pure (StepK.build rfl rfl) rfl ?_ | refine WD.pure (StepK.mkFn rfl rfl) rfl ?_ | refine WD.pure (StepK.field rfl rfl) rfl ?_ | refine WD.pure (StepK.lenStr rfl) rfl ?_ | refine WD.pure (StepK.nilck rfl) rfl ?_ | refine WD.pure (StepK.min2 rfl rfl) rfl ?_ | refine WD.pure (StepK.max2 rfl rfl) rfl ?_ | refine WD.load1 rfl (by first | with_reducible assumption | rfl) ?_ | refine WD.run rfl ?_ | refine WD.skipn rfl rfl rfl ?_ | refine WD.skipun rfl rfl ?_))
  refine WD.call ⟨t3, trivial⟩ rfl rfl (same_ans S h5 g5.wf u3 y3 s.b1 s.b1 (s3.grow g45) (k3.grow g45) (by omega) (by omega)) ?_
  rintro v h6 ⟨rfl, g6⟩
  rw [hy]
  have t4 := g6.rd t4
  have rp := g6.rd rp
  have g46 := g45.trans g6
  (repeat (first | refine WD.pure (StepK.mv rfl) rfl ?_ | refine WD.pure (StepK.lenSl rfl (by first | with_reducible assumption | rfl)) rfl ?_ | refine WD.pure (StepK.fieldAddr rfl) rfl ?_ | refine WD.pure (StepK.add rfl rfl (by omega)) rfl ?_ | refine WD.pure (StepK.sub rfl rfl (by omega)) rfl ?_ | refine WD.pure (StepK.bin rfl rfl rfl) rfl ?_ | refine WD.pure (StepK.pickT rfl rfl) rfl ?_ | refine WD.pure (StepK.pickF rfl rfl) rfl ?_ | refine WD.pure (StepK.not rfl) rfl ?_ | refine WD.pure (StepK.eq rfl rfl rfl) rfl ?_ | refine WD.pure (StepK.extract rfl rfl) rfl ?_ | refine WD.pure (StepK.build rfl rfl) rfl ?_ | refine WD.pure (StepK.mkFn rfl rfl) rfl ?_ | refine WD.pure (StepK.field rfl rfl) rfl ?_ | refine WD.pure (StepK.lenStr rfl) rfl ?_ | refine WD.pure (StepK.nilck rfl) rfl ?_ | refine WD.pure (StepK.min2 rfl rfl) rfl ?_ | refine WD.pure (StepK.max2 rfl rfl) rfl ?_ | refine WD.load1 rfl (by first | with_reducible assumption | rfl) ?_ | refine WD.run rfl ?_ | refine WD.skipn rfl rfl rfl ?_ | refine WD.skipun rfl rfl ?_))
  refine WD.call ⟨t4, trivial⟩ rfl rfl (same_ans S h6 g6.wf u4 y4 s.b2 s.b2 (s4.grow g46) (k4.grow g46) (by omega) (by omega)) ?_
  rintro v h7 ⟨rfl, g7⟩
  rw [hy]
  have rp := g7.rd rp
  have g37 := g46.trans g7
  have g7' := g3.trans g37
  (repeat (first | refine WD.pure (StepK.mv rfl) rfl ?_ | refine WD.pure (StepK.lenSl rfl (by first | with_reducible assumption | rfl)) rfl ?_ | refine WD.pure (StepK.fieldAddr rfl) rfl ?_ | refine WD.pure (StepK.add rfl rfl (by omega)) rfl ?_ | refine WD.pure (StepK.sub rfl rfl (by omega)) rfl ?_ | refine WD.pure (StepK.bin rfl rfl rfl) rfl ?_ | refine WD.pure (StepK.pickT rfl rfl) rfl ?_ | refine WD.pure (StepK.pickF rfl rfl) rfl ?_ | refine WD.pure (StepK.not rfl) rfl ?_ | refine WD.pure (StepK.eq rfl rfl rfl) rfl ?_ | refine WD.pure (StepK.extract rfl rfl) rfl ?_ | refine WD.pure (StepK.build rfl rfl) rfl ?_ | refine WD.pure (StepK.mkFn rfl rfl) rfl ?_ | refine WD.pure (StepK.field rfl rfl) rfl ?_ | refine WD.pure (StepK.lenStr rfl) rfl ?_ | refine WD.pure (StepK.nilck rfl) rfl ?_ | refine WD.pure (StepK.min2 rfl rfl) rfl ?_ | refine WD.pure (StepK.max2 rfl rfl) rfl ?_ | refine WD.load1 rfl (by first | with_reducible assumption | rfl) ?_ | refine WD.run rfl ?_ | refine WD.skipn rfl rfl rfl ?_ | refine WD.skipun rfl rfl ?_))
  refine WD.call ⟨rp, trivial⟩ rfl rfl (target_ans S g7'.wf (A.grow g7')) ?_
  rintro v h8 ⟨rfl, g8⟩
  have e1 : binA .eql (iv s.p) (iv s.p) = some (.bool true) := by simp [binA]
  refine WD.run rfl (WD.pure (StepK.bin rfl rfl e1) rfl ?_)
  (repeat (first | refine WD.pure (StepK.mv rfl) rfl ?_ | refine WD.pure (StepK.lenSl rfl (by first | with_reducible assumption | rfl)) rfl ?_ | refine WD.pure (StepK.fieldAddr rfl) rfl ?_ | refine WD.pure (StepK.add rfl rfl (by omega)) rfl ?_ | refine WD.pure (StepK.sub rfl rfl (by omega)) rfl ?_ | refine WD.pure (StepK.bin rfl rfl rfl) rfl ?_ | refine WD.pure (StepK.pickT rfl rfl) rfl ?_ | refine WD.pure (StepK.pickF rfl rfl) rfl ?_ | refine WD.pure (StepK.not rfl) rfl ?_ | refine WD.pure (StepK.eq rfl rfl rfl) rfl ?_ | refine WD.pure (StepK.extract rfl rfl) rfl ?_ | refine WD.pure (StepK.build rfl rfl) rfl ?_ | refine WD.pure (StepK.mkFn rfl rfl) rfl ?_ | refine WD.pure (StepK.field rfl rfl) rfl ?_ | refine WD.pure (StepK.lenStr rfl) rfl ?_ | refine WD.pure (StepK.nilck rfl) rfl ?_ | refine WD.pure (StepK.min2 rfl rfl) rfl ?_ | refine WD.pure (StepK.max2 rfl rfl) rfl ?_ | refine WD.load1 rfl (by first | with_reducible assumption | rfl) ?_ | refine WD.run rfl ?_ | refine WD.skipn rfl rfl rfl ?_ | refine WD.skipun rfl rfl ?_))
  exact WD.nil ⟨g8.rd rp, trivial⟩ (WC.ret ⟨trivial, g7'.trans g8, rfl⟩)
end Abs
end Go.Proofs.Ytnbljblnikdeiaa
