/- Layer 11: a cache in memory; what any does. -/
import Derived.Test.YtnbljblnikdeiaaD1
namespace Go.Proofs.Ytnbljblnikdeiaa
namespace Abs
set_option linter.unusedVariables false
set_option linter.unusedSimpArgs false
set_option maxHeartbeats 1600000
open Go.RowKit
attribute [local irreducible] WO WC WD StepK Ans Does Runs DoesD

/-- A cache: its lists, its target, its size. -/
structure AS where
  t1 : List (List Nat)
  t2 : List (List Nat)
  b1 : List (List Nat)
  b2 : List (List Nat)
  p : Int
  c : Int
def AS.get (s : AS) : Nat → List (List Nat)
  | 0 => s.t1
  | 1 => s.t2
  | 2 => s.b1
  | _ => s.b2
def AS.put (s : AS) : Nat → List (List Nat) → AS
  | 0, l => { s with t1 := l }
  | 1, l => { s with t2 := l }
  | 2, l => { s with b1 := l }
  | _, l => { s with b2 := l }

theorem put_p (s : AS) (i : Nat) (l : List (List Nat)) : (s.put i l).p = s.p := by
  match i with
  | 0 => rfl
  | 1 => rfl
  | 2 => rfl
  | _ + 3 => rfl
theorem put_c (s : AS) (i : Nat) (l : List (List Nat)) : (s.put i l).c = s.c := by
  match i with
  | 0 => rfl
  | 1 => rfl
  | 2 => rfl
  | _ + 3 => rfl

structure AA (h : Heap) (a : Nat) (L : List (V × List (List Nat) × List Nat)) (p c : Int) : Prop where
  cel : h.get a = some (.cells (L.map (·.1) ++ [iv p, iv c]) (.tip [] 0))
  kl : ∀ t ∈ L, KL h t.1 (sv t.2.1) t.2.2 ∧ a ∉ t.2.2
  dj : ∀ (i j : Nat) t u, i ≠ j → L[i]? = some t → L[j]? = some u → Dj t.2.2 u.2.2
def fpA (a : Nat) (L : List (V × List (List Nat) × List Nat)) : List Nat := a :: L.flatMap (·.2.2)
/-- A cache lies at a, in the blocks F. -/
def ArcAt (h : Heap) (a : Nat) (s : AS) (F : List Nat) : Prop := ∃ L, AA h a L s.p s.c ∧ L.map (·.2.1) = [s.t1, s.t2, s.b1, s.b2] ∧ F = fpA a L
def APost (h h' : Heap) (a : Nat) (F : List Nat) (s : AS) : Prop := ∃ F', ArcAt h' a s F' ∧ Chg F h h' ∧ Comes h F F'

theorem mem_fpA {a : Nat} {L : List (V × List (List Nat) × List Nat)} {b : Nat} : b ∈ fpA a L ↔ b = a ∨ ∃ t ∈ L, b ∈ t.2.2 := by
  simp only [fpA, List.mem_cons, List.mem_flatMap]

theorem ArcAt.lows {h : Heap} {a : Nat} {s : AS} {F : List Nat} (hw : Wf h) (A : ArcAt h a s F) : Lows h F := by
  obtain ⟨L, q, _, rfl⟩ := A
  intro b hb
  rcases mem_fpA.1 hb with e | ⟨t, ht, e⟩
  · subst e; exact Wf.lt hw q.cel
  · exact (q.kl t ht).1.lows b e
theorem ArcAt.at_lt {h : Heap} {a : Nat} {s : AS} {F : List Nat} (hw : Wf h) (A : ArcAt h a s F) : a < h.size := by
  obtain ⟨L, q, _, rfl⟩ := A
  exact Wf.lt hw q.cel
theorem ArcAt.mem {h : Heap} {a : Nat} {s : AS} {F : List Nat} (A : ArcAt h a s F) : a ∈ F := by
  obtain ⟨L, q, _, rfl⟩ := A
  exact List.mem_cons_self
theorem ArcAt.keep {h h' : Heap} {a : Nat} {s : AS} {F G : List Nat} (A : ArcAt h a s F) (c : Chg G h h') (hd : Dj F G) : ArcAt h' a s F := by
  obtain ⟨L, q, q2, rfl⟩ := A
  refine ⟨L, ⟨c.keep a _ (hd a List.mem_cons_self) q.cel, fun t ht => ⟨(q.kl t ht).1.keep c fun b hb => hd b (mem_fpA.2 (.inr ⟨t, ht, hb⟩)), (q.kl t ht).2⟩, q.dj⟩, q2, rfl⟩
theorem ArcAt.grow {h h' : Heap} {a : Nat} {s : AS} {F : List Nat} (A : ArcAt h a s F) (c : Grow h h') : ArcAt h' a s F := A.keep (c.chg []) (by intro b _; simp)
theorem ArcAt.same {h h' : Heap} {a : Nat} {s : AS} {F : List Nat} (A : ArcAt h a s F) (hg : ∀ b, h'.get b = h.get b) (hs : h'.size = h.size) : ArcAt h' a s F := by
  obtain ⟨L, q, q2, rfl⟩ := A
  exact ⟨L, ⟨by rw [hg]; exact q.cel, fun t ht => ⟨(q.kl t ht).1.same hg hs, (q.kl t ht).2⟩, q.dj⟩, q2, rfl⟩
theorem APost.low {h h' : Heap} {a : Nat} {s : AS} {F : List Nat} (p : APost h h' a F s) (n : Nat) : APost h { h' with low := n } a F s := by
  obtain ⟨F', q1, q2, q3⟩ := p
  exact ⟨F', q1.same (fun _ => rfl) rfl, q2.same (fun _ => rfl) rfl, q3⟩
theorem ArcAt.post {h h' : Heap} {a : Nat} {s : AS} {F : List Nat} (A : ArcAt h a s F) (g : Grow h h') : APost h h' a F s := ⟨F, A.grow g, g.chg _, Comes.refl _ _⟩
theorem APost.wf {h h' : Heap} {a : Nat} {s : AS} {F : List Nat} (p : APost h h' a F s) : Wf h' := by
  obtain ⟨F', q1, q2, q3⟩ := p; exact q2.wf
theorem APost.size {h h' : Heap} {a : Nat} {s : AS} {F : List Nat} (p : APost h h' a F s) : h.size ≤ h'.size := by
  obtain ⟨F', q1, q2, q3⟩ := p; exact q2.size
theorem APost.grow {h h' h2 : Heap} {a : Nat} {s : AS} {F : List Nat} (p : APost h h' a F s) (g : Grow h' h2) : APost h h2 a F s := by
  obtain ⟨F', q1, q2, q3⟩ := p
  exact ⟨F', q1.grow g, q2.growr g, q3⟩
theorem APost.growl {h h1 h' : Heap} {a : Nat} {s : AS} {F : List Nat} (g : Grow h h1) (p : APost h1 h' a F s) : APost h h' a F s := by
  obtain ⟨F', q1, q2, q3⟩ := p
  exact ⟨F', q1, Chg.growl g q2, fun b hb => by
    rcases q3 b hb with e | e
    · exact .inl e
    · exact .inr (Nat.le_trans g.size e)⟩
/-- One step more. -/
theorem APost.step {h h1 h2 : Heap} {a : Nat} {s s' : AS} {F : List Nat} (hw : Wf h) (p : APost h h1 a F s) (hs : ∀ G, ArcAt h1 a s G → APost h1 h2 a G s') : APost h h2 a F s' := by
  obtain ⟨F', q1, q2, q3⟩ := p
  obtain ⟨F2, w1, w2, w3⟩ := hs F' q1
  exact ⟨F2, w1, q2.trans w2 hw q3, q3.trans w3 q2.size⟩

theorem ArcAt.op {h : Heap} {a : Nat} {s : AS} {F : List Nat} (hw : Wf h) (A : ArcAt h a s F) (i : Nat) (hi : i < 4) : ∃ cs x G, LP h a i cs x (s.get i) G ∧ ∀ h' ks, LPost h h' a i cs G ks → APost h h' a F (s.put i ks) := by
  obtain ⟨L, q, q2, rfl⟩ := A
  have hn : L.length = 4 := by have := congrArg List.length q2; simpa using this
  have hiL : i < L.length := by omega
  have hget : L[i]? = some L[i] := List.getElem?_eq_getElem hiL
  have hks : L[i].2.1 = s.get i := by
    have h1 : (L.map (·.2.1))[i]? = some L[i].2.1 := by rw [List.getElem?_map, hget]; rfl
    rw [q2] at h1
    match i, hi with
    | 0, _ => simpa [AS.get] using h1.symm
    | 1, _ => simpa [AS.get] using h1.symm
    | 2, _ => simpa [AS.get] using h1.symm
    | 3, _ => simpa [AS.get] using h1.symm
  have hm : L[i] ∈ L := List.getElem_mem hiL
  refine ⟨_, L[i].1, L[i].2.2, ⟨q.cel, ?_, by rw [← hks]; exact (q.kl _ hm).1, (q.kl _ hm).2⟩, ?_⟩
  · rw [List.getElem?_append_left (by rw [List.length_map]; exact hiL), List.getElem?_map, hget]; rfl
  · rintro h' ks ⟨x', F', w1, w2, w3⟩
    have hmf : ∀ b ∈ a :: L[i].2.2, b ∈ fpA a L := by
      intro b hb
      rcases List.mem_cons.1 hb with e | e
      · exact mem_fpA.2 (.inl e)
      · exact mem_fpA.2 (.inr ⟨_, hm, e⟩)
    have other : ∀ (j : Nat) t, j ≠ i → L[j]? = some t → Dj t.2.2 (a :: L[i].2.2) := by
      intro j t hj ht b hb hc
      have htm := List.mem_of_getElem? ht
      rcases List.mem_cons.1 hc with e | e
      · subst e; exact (q.kl t htm).2 hb
      · exact q.dj j i t _ hj ht hget b hb e
    have hjd : ∀ (j : Nat) t, j ≠ i → L[j]? = some t → Dj F' t.2.2 := by
      intro j t hj ht
      have htm := List.mem_of_getElem? ht
      exact w3.dj (q.kl t htm).1.lows (fun b hb hc => q.dj i j _ t (Ne.symm hj) hget ht b hb hc)
    refine ⟨fpA a (L.set i (x', ks, F')), ⟨L.set i (x', ks, F'), ⟨?_, ?_, ?_⟩, ?_, rfl⟩, w2.mono hmf, ?_⟩
    · have := w1.cel
      have hms : (L.map (·.1)).set i x' = (L.set i (x', ks, F')).map (·.1) := by rw [List.map_set]
      rw [List.set_append_left _ _ (by rw [List.length_map]; exact hiL), hms] at this
      rw [put_p, put_c]; exact this
    · intro t ht
      obtain ⟨j, hj⟩ := List.getElem?_of_mem ht
      by_cases e : j = i
      · subst e
        rw [List.getElem?_set_self hiL] at hj; cases hj
        exact ⟨w1.kl, w1.na⟩
      · rw [List.getElem?_set_ne (fun h => e h.symm)] at hj
        have htm := List.mem_of_getElem? hj
        exact ⟨(q.kl t htm).1.keep w2 (other j t e hj), (q.kl t htm).2⟩
    · intro j k t u hjk hj hk
      by_cases e1 : j = i
      · subst e1
        rw [List.getElem?_set_self hiL] at hj; cases hj
        rw [List.getElem?_set_ne hjk] at hk
        exact hjd k u (Ne.symm hjk) hk
      · rw [List.getElem?_set_ne (fun h => e1 h.symm)] at hj
        by_cases e2 : k = i
        · subst e2
          rw [List.getElem?_set_self hiL] at hk; cases hk
          exact (hjd j t e1 hj).symm
        · rw [List.getElem?_set_ne (fun h => e2 h.symm)] at hk
          exact q.dj j k t u hjk hj hk
    · rw [List.map_set, q2]
      match i, hi with
      | 0, _ => rfl
      | 1, _ => rfl
      | 2, _ => rfl
      | 3, _ => rfl
    · intro b hb
      rcases mem_fpA.1 hb with e | ⟨t, ht, e⟩
      · exact .inl (mem_fpA.2 (.inl e))
      · obtain ⟨j, hj⟩ := List.getElem?_of_mem ht
        by_cases ej : j = i
        · subst ej
          rw [List.getElem?_set_self hiL] at hj; cases hj
          rcases w3 b e with e2 | e2
          · exact .inl (mem_fpA.2 (.inr ⟨_, hm, e2⟩))
          · exact .inr e2
        · rw [List.getElem?_set_ne (fun h => ej h.symm)] at hj
          exact .inl (mem_fpA.2 (.inr ⟨t, List.mem_of_getElem? hj, e⟩))

theorem ArcAt.four {h : Heap} {a : Nat} {s : AS} {F : List Nat} (A : ArcAt h a s F) : ∃ x1 x2 x3 x4, h.get a = some (.cells [x1, x2, x3, x4, iv s.p, iv s.c] (.tip [] 0)) := by
  obtain ⟨L, q, q2, rfl⟩ := A
  have hn : L.length = 4 := by have := congrArg List.length q2; simpa using this
  match L, hn, q with
  | [u1, u2, u3, u4], _, q => exact ⟨u1.1, u2.1, u3.1, u4.1, q.cel⟩
theorem ArcAt.rdp {h : Heap} {a : Nat} {s : AS} {F : List Nat} (A : ArcAt h a s F) : h.rd a (0 + 4) = some (iv s.p) := by
  obtain ⟨x1, x2, x3, x4, q⟩ := A.four
  exact rd_get q rfl
theorem ArcAt.rdc {h : Heap} {a : Nat} {s : AS} {F : List Nat} (A : ArcAt h a s F) : h.rd a (0 + 5) = some (iv s.c) := by
  obtain ⟨x1, x2, x3, x4, q⟩ := A.four
  exact rd_get q rfl
theorem ArcAt.setp {h : Heap} {a : Nat} {s : AS} {F : List Nat} (hw : Wf h) (A : ArcAt h a s F) (n : Int) : ∃ h', h.wr a (0 + 4) (iv n).cellsOf = some h' ∧ APost h h' a F { s with p := n } ∧ h'.low ≤ a := by
  obtain ⟨L, q, q2, rfl⟩ := A
  have hn : L.length = 4 := by have := congrArg List.length q2; simpa using this
  match L, hn, q, q2 with
  | [u1, u2, u3, u4], _, q, q2 =>
    obtain ⟨h', w1, w2, w3, w4, w5⟩ := KL.wr hw q.cel (S := []) (by simp) (o := 4) (vs := [iv n]) (by simp) (by simp [V.one])
    refine ⟨h', w1, ⟨_, ⟨[u1, u2, u3, u4], ⟨by rw [w4]; rfl, fun t ht => ⟨(q.kl t ht).1.keep w2 fun b hb hc => ?_, (q.kl t ht).2⟩, q.dj⟩, q2, rfl⟩, w2.mono ?_, Comes.refl _ _⟩, w5⟩
    · simp at hc; subst hc; exact (q.kl t ht).2 hb
    · intro b hb; simp at hb; subst hb; exact mem_fpA.2 (.inl rfl)

variable {C : Cfg} (S : Std C)
include S
section
variable {h : Heap} (hw : Wf h) {a : Nat} {s : AS} {F : List Nat} (A : ArcAt h a s F)
include hw A
theorem lenA (i : Nat) (hi : i < 4) : Ans C 23 [.ptr (some (a, i))] h fun v h' => v = iv (s.get i).length ∧ Grow h h' := by
  obtain ⟨cs, x, G, q, _⟩ := A.op hw i hi
  exact len_ans S h hw q
theorem hasA (i : Nat) (hi : i < 4) (k : List Nat) (hl : (s.get i).length ≤ 100000) : Ans C 33 [.ptr (some (a, i)), .str k] h fun v h' => v = .bool (decide (k ∈ s.get i)) ∧ Grow h h' := by
  obtain ⟨cs, x, G, q, _⟩ := A.op hw i hi
  exact has_ans S h hw q k (by omega)
theorem addA (i : Nat) (hi : i < 4) (k : List Nat) (hl : (s.get i).length ≤ 100000) : Ans C 24 [.ptr (some (a, i)), .str k] h fun v h' => v = .tuple [] ∧ APost h h' a F (s.put i (s.get i ++ [k])) ∧ h'.low ≤ a := by
  obtain ⟨cs, x, G, q, p⟩ := A.op hw i hi
  exact (add_ans S h hw q k hl).mono fun v h' ⟨q1, q2, q3⟩ => ⟨q1, p _ _ q2, q3⟩
theorem takeA (i : Nat) (hi : i < 4) (k : List Nat) (hl : (s.get i).length ≤ 100000) : Ans C 32 [.ptr (some (a, i)), .str k] h fun v h' => v = .bool (decide (k ∈ s.get i)) ∧ APost h h' a F (s.put i ((s.get i).erase k)) ∧ (h'.low ≤ a ∨ k ∉ s.get i) := by
  obtain ⟨cs, x, G, q, p⟩ := A.op hw i hi
  exact (take_ans S h hw q k hl).mono fun v h' ⟨q1, q2, q3⟩ => ⟨q1, p _ _ q2, q3⟩
theorem oldestA (i : Nat) (hi : i < 4) (hl : (s.get i).length ≤ 100000) : Ans C 35 [.ptr (some (a, i))] h fun v h' => v = .str ((s.get i).headD []) ∧ APost h h' a F (s.put i (s.get i).tail) ∧ (h'.low ≤ a ∨ s.get i = []) := by
  obtain ⟨cs, x, G, q, p⟩ := A.op hw i hi
  exact (oldest_ans S h hw q hl).mono fun v h' ⟨q1, q2, q3⟩ => ⟨q1, p _ _ q2, q3⟩
end

/-- Things asked one by one, till one says yes. -/
def idxS {σ : Type} (f : V → σ → Bool × σ) : Int → σ → List V → Int × σ
  | _, s, [] => (-1, s)
  | i, s, p :: l => if (f p s).1 then (i, (f p s).2) else idxS f (i + 1) (f p s).2 l
omit S in
theorem idxS_any {σ : Type} (f : V → σ → Bool × σ) : ∀ (l : List V) (i : Int) (s : σ), 0 ≤ i → (idxS f i s l).1 = -1 ∨ 0 ≤ (idxS f i s l).1
  | [], i, s, h => .inl rfl
  | p :: l, i, s, h => by
    simp only [idxS]
    split
    · exact .inr h
    · exact idxS_any f l (i + 1) _ (by omega)

/-- What is asked of the state that is changed one by one. -/
structure Walk {σ : Type} (C : Cfg) (h : Heap) (x : V) (ps : List V) (g : Nat) (caps : List V) (a : Nat) (P : σ → Heap → Prop) (f : V → σ → Bool × σ) (s0 : σ) : Prop where
  len : ps.length < 1000
  below : a < h.size
  start : P s0 h
  wf : ∀ s h1, P s h1 → Wf h1
  same : ∀ s h1 h2, P s h1 → (∀ b, h2.get b = h1.get b) → h2.size = h1.size → P s h2
  sl : ∀ s h1, P s h1 → Sl h1 1 x (ps.map fun v => [v])
  call : ∀ p ∈ ps, ∀ s h1, P s h1 → (h1.low ≤ a ∨ s = s0) → Ans C g ([] ++ [p] ++ caps) h1 fun v h' => v = .bool (f p s).1 ∧ P (f p s).2 h' ∧ (h'.low ≤ a ∨ (f p s).2 = s0)

theorem indexP_ans {σ : Type} {h : Heap} {x : V} {ps : List V} {g : Nat} {caps : List V} {a : Nat} {P : σ → Heap → Prop} {f : V → σ → Bool × σ} {s0 : σ} (W : Walk C h x ps g caps a P f s0) :
    Ans C 41 [x, .func (.func g) [] caps] h fun v h' => v = iv (idxS f 0 s0 ps).1 ∧ P (idxS f 0 s0 ps).2 h' ∧ (h'.low ≤ a ∨ (idxS f 0 s0 ps).2 = s0) := by
  have hF : C.F 41 = some a41 := S.f rfl
  unfold a41 at hF
  refine Ans.fnM (fun _ _ => S.s _ _ _ (by decide)) hF rfl rfl (W.wf _ _ W.start) fun h2 g0 hsz hge => ?_
  clear hF
  have hlen := W.len
  have ha := W.below
  have hsl0 : slLen x = some ps.length := by rw [(W.sl _ _ W.start).len, List.length_map]
  have st2 : P s0 h2 := W.same _ _ _ W.start hge hsz
  have gc : ∀ s (h1 : Heap), P s h1 → (h1.low ≤ a ∨ s = s0) → h.size ≤ h1.low → P s h ∧ (h.low ≤ a ∨ s = s0) := by
    intro s h1 hp hl hg
    rcases hl with q | q
    · omega
    · subst q; exact ⟨W.start, .inr rfl⟩
  have low : ∀ s (h1 : Heap) n, (h1.low ≤ a ∨ s = s0) → n ≤ h1.low → ({ h1 with low := n } : Heap).low ≤ a ∨ s = s0 := by
    intro s h1 n hl hn
    rcases hl with q | q
    · exact .inl (Nat.le_trans hn q)
    · exact .inr q
  refine WC.seqO ?_
  (repeat (first | refine WO.ops (StepK.mv rfl) ?_ | refine WO.ops (StepK.lenSl rfl (by first | with_reducible assumption | rfl)) ?_ | refine WO.ops (StepK.fieldAddr rfl) ?_ | refine WO.ops (StepK.add rfl rfl (by omega)) ?_ | refine WO.ops (StepK.sub rfl rfl (by omega)) ?_ | refine WO.ops (StepK.bin rfl rfl rfl) ?_ | refine WO.ops (StepK.pickT rfl rfl) ?_ | refine WO.ops (StepK.pickF rfl rfl) ?_ | refine WO.ops (StepK.not rfl) ?_ | refine WO.ops (StepK.eq rfl rfl rfl) ?_ | refine WO.ops (StepK.extract rfl rfl) ?_ | refine WO.ops (StepK.build rfl rfl) ?_ | refine WO.ops (StepK.mkFn rfl rfl) ?_ | refine WO.ops (StepK.field rfl rfl) ?_ | refine WO.ops (StepK.lenStr rfl) ?_ | refine WO.ops (StepK.nilck rfl) ?_ | refine WO.ops (StepK.min2 rfl rfl) ?_ | refine WO.ops (StepK.max2 rfl rfl) ?_ | refine WO.ops (StepK.load1 rfl (by first | with_reducible assumption | rfl)) ?_ | refine WO.run rfl ?_ | refine WO.skip rfl rfl ?_ | refine WO.skipu rfl ?_))
  refine WO.nil (WC.seq (WC.seqO ?_))
  refine WO.ops (StepK.mv rfl) ?_
  refine WO.ops (StepK.lenSl rfl hsl0) ?_
  (repeat (first | refine WO.ops (StepK.mv rfl) ?_ | refine WO.ops (StepK.lenSl rfl (by first | with_reducible assumption | rfl)) ?_ | refine WO.ops (StepK.fieldAddr rfl) ?_ | refine WO.ops (StepK.add rfl rfl (by omega)) ?_ | refine WO.ops (StepK.sub rfl rfl (by omega)) ?_ | refine WO.ops (StepK.bin rfl rfl rfl) ?_ | refine WO.ops (StepK.pickT rfl rfl) ?_ | refine WO.ops (StepK.pickF rfl rfl) ?_ | refine WO.ops (StepK.not rfl) ?_ | refine WO.ops (StepK.eq rfl rfl rfl) ?_ | refine WO.ops (StepK.extract rfl rfl) ?_ | refine WO.ops (StepK.build rfl rfl) ?_ | refine WO.ops (StepK.mkFn rfl rfl) ?_ | refine WO.ops (StepK.field rfl rfl) ?_ | refine WO.ops (StepK.lenStr rfl) ?_ | refine WO.ops (StepK.nilck rfl) ?_ | refine WO.ops (StepK.min2 rfl rfl) ?_ | refine WO.ops (StepK.max2 rfl rfl) ?_ | refine WO.ops (StepK.load1 rfl (by first | with_reducible assumption | rfl)) ?_ | refine WO.run rfl ?_ | refine WO.skip rfl rfl ?_ | refine WO.skipu rfl ?_))
  refine WO.nil (WC.block ?_)
  refine WC.loop (σ := Nat × σ) (fun s => [(0, x), (1, .func (.func g) [] caps), (7, iv ps.length), (8, iv s.1)])
    (fun s h' => (P s.2 h' ∧ (h'.low ≤ a ∨ s.2 = s0)) ∧ s.1 ≤ ps.length ∧ idxS f 0 s0 ps = idxS f s.1 s.2 (ps.drop s.1)) (fun s => ps.length - s.1) (0, s0) ?_ ⟨⟨st2, .inr rfl⟩, by omega, rfl⟩ ?_
  · exact Cov.cons rfl (Cov.cons rfl (Cov.cons rfl (Cov.cons rfl (Cov.nil _))))
  rintro ⟨i, s⟩ h3 ⟨⟨st3, lo3⟩, hi, hm⟩
  simp only at st3 lo3 hi hm
  refine WC.seqO ?_
  (repeat (first | refine WO.ops (StepK.mv rfl) ?_ | refine WO.ops (StepK.lenSl rfl (by first | with_reducible assumption | rfl)) ?_ | refine WO.ops (StepK.fieldAddr rfl) ?_ | refine WO.ops (StepK.add rfl rfl (by omega)) ?_ | refine WO.ops (StepK.sub rfl rfl (by omega)) ?_ | refine WO.ops (StepK.bin rfl rfl rfl) ?_ | refine WO.ops (StepK.pickT rfl rfl) ?_ | refine WO.ops (StepK.pickF rfl rfl) ?_ | refine WO.ops (StepK.not rfl) ?_ | refine WO.ops (StepK.eq rfl rfl rfl) ?_ | refine WO.ops (StepK.extract rfl rfl) ?_ | refine WO.ops (StepK.build rfl rfl) ?_ | refine WO.ops (StepK.mkFn rfl rfl) ?_ | refine WO.ops (StepK.field rfl rfl) ?_ | refine WO.ops (StepK.lenStr rfl) ?_ | refine WO.ops (StepK.nilck rfl) ?_ | refine WO.ops (StepK.min2 rfl rfl) ?_ | refine WO.ops (StepK.max2 rfl rfl) ?_ | refine WO.ops (StepK.load1 rfl (by first | with_reducible assumption | rfl)) ?_ | refine WO.run rfl ?_ | refine WO.skip rfl rfl ?_ | refine WO.skipu rfl ?_))
  refine WO.nil (WC.seq ?_)
  refine WC.cond rfl (fun hc => WC.skip ?_) (fun hc => WC.exit ?_)
  rotate_left
  · have hc := of_decide_eq_false hc
    have : i = ps.length := by omega
    subst this
    rw [List.drop_length] at hm
    simp only [idxS] at hm
    refine WC.seqO ?_
    (repeat (first | refine WO.ops (StepK.mv rfl) ?_ | refine WO.ops (StepK.lenSl rfl (by first | with_reducible assumption | rfl)) ?_ | refine WO.ops (StepK.fieldAddr rfl) ?_ | refine WO.ops (StepK.add rfl rfl (by omega)) ?_ | refine WO.ops (StepK.sub rfl rfl (by omega)) ?_ | refine WO.ops (StepK.bin rfl rfl rfl) ?_ | refine WO.ops (StepK.pickT rfl rfl) ?_ | refine WO.ops (StepK.pickF rfl rfl) ?_ | refine WO.ops (StepK.not rfl) ?_ | refine WO.ops (StepK.eq rfl rfl rfl) ?_ | refine WO.ops (StepK.extract rfl rfl) ?_ | refine WO.ops (StepK.build rfl rfl) ?_ | refine WO.ops (StepK.mkFn rfl rfl) ?_ | refine WO.ops (StepK.field rfl rfl) ?_ | refine WO.ops (StepK.lenStr rfl) ?_ | refine WO.ops (StepK.nilck rfl) ?_ | refine WO.ops (StepK.min2 rfl rfl) ?_ | refine WO.ops (StepK.max2 rfl rfl) ?_ | refine WO.ops (StepK.load1 rfl (by first | with_reducible assumption | rfl)) ?_ | refine WO.run rfl ?_ | refine WO.skip rfl rfl ?_ | refine WO.skipu rfl ?_))
    refine WO.nil (WC.ret ⟨trivial, _, rfl, fun n hn => ?_, fun hc1 _ => ?_⟩)
    · rw [hm]; exact ⟨rfl, W.same _ _ _ st3 (fun _ => rfl) rfl, low _ _ _ lo3 hn⟩
    · rw [hm]; exact ⟨rfl, gc _ _ st3 lo3 hc1⟩
  have hc := of_decide_eq_true hc
  have hi : i < ps.length := by omega
  obtain ⟨b, o, k1, k2⟩ := (W.sl _ _ st3).at (i := i) (by rw [List.length_map]; exact hi)
  rw [List.getElem_map] at k2
  have hd : ps.drop i = ps[i] :: ps.drop (i + 1) := List.drop_eq_getElem_cons hi
  have hmem : ps[i] ∈ ps := List.getElem_mem hi
  rw [hd] at hm
  generalize ps[i] = r at *
  simp only [idxS] at hm
  have q0 : h3.rd b o = some r := rds_rd k2 (j := 0) rfl
  refine WC.seq (WC.block (WC.seqO ?_))
  (repeat (first | refine WO.ops (StepK.mv rfl) ?_ | refine WO.ops (StepK.lenSl rfl (by first | with_reducible assumption | rfl)) ?_ | refine WO.ops (StepK.fieldAddr rfl) ?_ | refine WO.ops (StepK.add rfl rfl (by omega)) ?_ | refine WO.ops (StepK.sub rfl rfl (by omega)) ?_ | refine WO.ops (StepK.bin rfl rfl rfl) ?_ | refine WO.ops (StepK.pickT rfl rfl) ?_ | refine WO.ops (StepK.pickF rfl rfl) ?_ | refine WO.ops (StepK.not rfl) ?_ | refine WO.ops (StepK.eq rfl rfl rfl) ?_ | refine WO.ops (StepK.extract rfl rfl) ?_ | refine WO.ops (StepK.build rfl rfl) ?_ | refine WO.ops (StepK.mkFn rfl rfl) ?_ | refine WO.ops (StepK.field rfl rfl) ?_ | refine WO.ops (StepK.lenStr rfl) ?_ | refine WO.ops (StepK.nilck rfl) ?_ | refine WO.ops (StepK.min2 rfl rfl) ?_ | refine WO.ops (StepK.max2 rfl rfl) ?_ | refine WO.ops (StepK.load1 rfl (by first | with_reducible assumption | rfl)) ?_ | refine WO.run rfl ?_ | refine WO.skip rfl rfl ?_ | refine WO.skipu rfl ?_))
  refine WO.nil (WC.seqO ?_)
  refine WO.ops (StepK.mv rfl) ?_
  refine WO.ops (StepK.mv rfl) ?_
  refine WO.ops (StepK.mv rfl) ?_
  refine WO.ops (StepK.idxSl rfl rfl k1) ?_
  refine WO.ops (StepK.load1 rfl q0) ?_
  refine WO.call rfl rfl (W.call r hmem s h3 st3 lo3) ?_
  rintro v h4 ⟨rfl, st4, lo4⟩
  refine WO.nil (WC.cond rfl (fun hc1 => WC.seqO ?_) (fun hc1 => WC.skip (WC.ops ?_)))
  · rw [if_pos hc1] at hm
    (repeat (first | refine WO.ops (StepK.mv rfl) ?_ | refine WO.ops (StepK.lenSl rfl (by first | with_reducible assumption | rfl)) ?_ | refine WO.ops (StepK.fieldAddr rfl) ?_ | refine WO.ops (StepK.add rfl rfl (by omega)) ?_ | refine WO.ops (StepK.sub rfl rfl (by omega)) ?_ | refine WO.ops (StepK.bin rfl rfl rfl) ?_ | refine WO.ops (StepK.pickT rfl rfl) ?_ | refine WO.ops (StepK.pickF rfl rfl) ?_ | refine WO.ops (StepK.not rfl) ?_ | refine WO.ops (StepK.eq rfl rfl rfl) ?_ | refine WO.ops (StepK.extract rfl rfl) ?_ | refine WO.ops (StepK.build rfl rfl) ?_ | refine WO.ops (StepK.mkFn rfl rfl) ?_ | refine WO.ops (StepK.field rfl rfl) ?_ | refine WO.ops (StepK.lenStr rfl) ?_ | refine WO.ops (StepK.nilck rfl) ?_ | refine WO.ops (StepK.min2 rfl rfl) ?_ | refine WO.ops (StepK.max2 rfl rfl) ?_ | refine WO.ops (StepK.load1 rfl (by first | with_reducible assumption | rfl)) ?_ | refine WO.run rfl ?_ | refine WO.skip rfl rfl ?_ | refine WO.skipu rfl ?_))
    refine WO.nil (WC.ret ⟨trivial, _, rfl, fun n hn => ?_, fun hc2 _ => ?_⟩)
    · rw [hm]; exact ⟨rfl, W.same _ _ _ st4 (fun _ => rfl) rfl, low _ _ _ lo4 hn⟩
    · rw [hm]; exact ⟨rfl, gc _ _ st4 lo4 hc2⟩
  rw [if_neg (by rw [hc1]; decide)] at hm
  (repeat (first | refine WO.ops (StepK.mv rfl) ?_ | refine WO.ops (StepK.lenSl rfl (by first | with_reducible assumption | rfl)) ?_ | refine WO.ops (StepK.fieldAddr rfl) ?_ | refine WO.ops (StepK.add rfl rfl (by omega)) ?_ | refine WO.ops (StepK.sub rfl rfl (by omega)) ?_ | refine WO.ops (StepK.bin rfl rfl rfl) ?_ | refine WO.ops (StepK.pickT rfl rfl) ?_ | refine WO.ops (StepK.pickF rfl rfl) ?_ | refine WO.ops (StepK.not rfl) ?_ | refine WO.ops (StepK.eq rfl rfl rfl) ?_ | refine WO.ops (StepK.extract rfl rfl) ?_ | refine WO.ops (StepK.build rfl rfl) ?_ | refine WO.ops (StepK.mkFn rfl rfl) ?_ | refine WO.ops (StepK.field rfl rfl) ?_ | refine WO.ops (StepK.lenStr rfl) ?_ | refine WO.ops (StepK.nilck rfl) ?_ | refine WO.ops (StepK.min2 rfl rfl) ?_ | refine WO.ops (StepK.max2 rfl rfl) ?_ | refine WO.ops (StepK.load1 rfl (by first | with_reducible assumption | rfl)) ?_ | refine WO.run rfl ?_ | refine WO.skip rfl rfl ?_ | refine WO.skipu rfl ?_))
  refine WO.nil ⟨(i + 1, (f r s).2), ?_, ⟨⟨st4, lo4⟩, hi, hm⟩, by simp only; omega⟩
  exact Cov.cons rfl (Cov.cons rfl (Cov.cons rfl (Cov.cons rfl (Cov.nil _))))

theorem containsP_ans {σ : Type} {h : Heap} {x : V} {ps : List V} {g : Nat} {caps : List V} {a : Nat} {P : σ → Heap → Prop} {f : V → σ → Bool × σ} {s0 : σ} (W : Walk C h x ps g caps a P f s0) :
    Ans C 36 [x, .func (.func g) [] caps] h fun v h' => v = .bool (decide ((idxS f 0 s0 ps).1 ≥ 0)) ∧ P (idxS f 0 s0 ps).2 h' ∧ (h'.low ≤ a ∨ (idxS f 0 s0 ps).2 = s0) := by
  have hF : C.F 36 = some a36 := S.f rfl
  unfold a36 at hF
  refine Ans.fnM (fun _ _ => S.s _ _ _ (by decide)) hF rfl rfl (W.wf _ _ W.start) fun h2 g0 hsz hge => ?_
  clear hF
  have ha := W.below
  have W2 : Walk C h2 x ps g caps a P f s0 := ⟨W.len, by omega, W.same _ _ _ W.start hge hsz, W.wf, W.same, W.sl, W.call⟩
  refine WC.seqO ?_
  (repeat (first | refine WO.ops (StepK.mv rfl) ?_ | refine WO.ops (StepK.lenSl rfl (by first | with_reducible assumption | rfl)) ?_ | refine WO.ops (StepK.fieldAddr rfl) ?_ | refine WO.ops (StepK.add rfl rfl (by omega)) ?_ | refine WO.ops (StepK.sub rfl rfl (by omega)) ?_ | refine WO.ops (StepK.bin rfl rfl rfl) ?_ | refine WO.ops (StepK.pickT rfl rfl) ?_ | refine WO.ops (StepK.pickF rfl rfl) ?_ | refine WO.ops (StepK.not rfl) ?_ | refine WO.ops (StepK.eq rfl rfl rfl) ?_ | refine WO.ops (StepK.extract rfl rfl) ?_ | refine WO.ops (StepK.build rfl rfl) ?_ | refine WO.ops (StepK.mkFn rfl rfl) ?_ | refine WO.ops (StepK.field rfl rfl) ?_ | refine WO.ops (StepK.lenStr rfl) ?_ | refine WO.ops (StepK.nilck rfl) ?_ | refine WO.ops (StepK.min2 rfl rfl) ?_ | refine WO.ops (StepK.max2 rfl rfl) ?_ | refine WO.ops (StepK.load1 rfl (by first | with_reducible assumption | rfl)) ?_ | refine WO.run rfl ?_ | refine WO.skip rfl rfl ?_ | refine WO.skipu rfl ?_))
  refine WO.nil (WC.seqO ?_)
  (repeat (first | refine WO.ops (StepK.mv rfl) ?_ | refine WO.ops (StepK.lenSl rfl (by first | with_reducible assumption | rfl)) ?_ | refine WO.ops (StepK.fieldAddr rfl) ?_ | refine WO.ops (StepK.add rfl rfl (by omega)) ?_ | refine WO.ops (StepK.sub rfl rfl (by omega)) ?_ | refine WO.ops (StepK.bin rfl rfl rfl) ?_ | refine WO.ops (StepK.pickT rfl rfl) ?_ | refine WO.ops (StepK.pickF rfl rfl) ?_ | refine WO.ops (StepK.not rfl) ?_ | refine WO.ops (StepK.eq rfl rfl rfl) ?_ | refine WO.ops (StepK.extract rfl rfl) ?_ | refine WO.ops (StepK.build rfl rfl) ?_ | refine WO.ops (StepK.mkFn rfl rfl) ?_ | refine WO.ops (StepK.field rfl rfl) ?_ | refine WO.ops (StepK.lenStr rfl) ?_ | refine WO.ops (StepK.nilck rfl) ?_ | refine WO.ops (StepK.min2 rfl rfl) ?_ | refine WO.ops (StepK.max2 rfl rfl) ?_ | refine WO.ops (StepK.load1 rfl (by first | with_reducible assumption | rfl)) ?_ | refine WO.run rfl ?_ | refine WO.skip rfl rfl ?_ | refine WO.skipu rfl ?_))
  refine WO.call rfl rfl (indexP_ans S W2) ?_
  rintro v h3 ⟨rfl, st3, lo3⟩
  (repeat (first | refine WO.ops (StepK.mv rfl) ?_ | refine WO.ops (StepK.lenSl rfl (by first | with_reducible assumption | rfl)) ?_ | refine WO.ops (StepK.fieldAddr rfl) ?_ | refine WO.ops (StepK.add rfl rfl (by omega)) ?_ | refine WO.ops (StepK.sub rfl rfl (by omega)) ?_ | refine WO.ops (StepK.bin rfl rfl rfl) ?_ | refine WO.ops (StepK.pickT rfl rfl) ?_ | refine WO.ops (StepK.pickF rfl rfl) ?_ | refine WO.ops (StepK.not rfl) ?_ | refine WO.ops (StepK.eq rfl rfl rfl) ?_ | refine WO.ops (StepK.extract rfl rfl) ?_ | refine WO.ops (StepK.build rfl rfl) ?_ | refine WO.ops (StepK.mkFn rfl rfl) ?_ | refine WO.ops (StepK.field rfl rfl) ?_ | refine WO.ops (StepK.lenStr rfl) ?_ | refine WO.ops (StepK.nilck rfl) ?_ | refine WO.ops (StepK.min2 rfl rfl) ?_ | refine WO.ops (StepK.max2 rfl rfl) ?_ | refine WO.ops (StepK.load1 rfl (by first | with_reducible assumption | rfl)) ?_ | refine WO.run rfl ?_ | refine WO.skip rfl rfl ?_ | refine WO.skipu rfl ?_))
  refine WO.nil (WC.ret ⟨trivial, _, rfl, fun n hn => ⟨rfl, W.same _ _ _ st3 (fun _ => rfl) rfl, ?_⟩, fun hc1 _ => ⟨rfl, ?_⟩⟩)
  · rcases lo3 with q | q
    · exact .inl (Nat.le_trans hn q)
    · exact .inr q
  · rcases lo3 with q | q
    · omega
    · rw [q]; exact ⟨W.start, .inr rfl⟩

def Bd (s : AS) : Prop := ∀ i, (s.get i).length ≤ 100000
/-- What a call of g on a pointer does to a cache, for a key. -/
def Does1 (C : Cfg) (g : Nat) (k : List Nat) (a : Nat) (f : V → AS → Bool × AS) (ps : List V) : Prop :=
  ∀ p ∈ ps, ∀ (s : AS) (h : Heap) (F : List Nat), Wf h → ArcAt h a s F → Bd s → Ans C g [p, .str k] h fun v h' => v = .bool (f p s).1 ∧ APost h h' a F (f p s).2 ∧ (h'.low ≤ a ∨ (f p s).2 = s)

theorem any1_ans {g : Nat} {k : List Nat} {a : Nat} {f : V → AS → Bool × AS} {ps : List V} (D : Does1 C g k a f ps) {p : V} (hp : p ∈ ps) {h : Heap} (hw : Wf h) {s : AS} {F : List Nat} (A : ArcAt h a s F) (hb : Bd s) {c1 c2 : Nat}
    (h1 : h.rd c1 0 = some (.func (.func g) [] [])) (h2 : h.rd c2 0 = some (.str k)) : Ans C 37 ([] ++ [p] ++ [.ptr (some (c1, 0)), .ptr (some (c2, 0))]) h fun v h' => v = .bool (f p s).1 ∧ APost h h' a F (f p s).2 ∧ (h'.low ≤ a ∨ (f p s).2 = s) := by
  have hF : C.F 37 = some a37 := S.f rfl
  unfold a37 at hF
  refine Ans.fnM (fun _ _ => S.s _ _ _ (by decide)) hF rfl rfl hw fun h3 g0 hsz hge => ?_
  clear hF
  have ha := A.at_lt hw
  have q1 := g0.rd h1
  have q2 := g0.rd h2
  refine WC.seqO ?_
  (repeat (first | refine WO.ops (StepK.mv rfl) ?_ | refine WO.ops (StepK.lenSl rfl (by first | with_reducible assumption | rfl)) ?_ | refine WO.ops (StepK.fieldAddr rfl) ?_ | refine WO.ops (StepK.add rfl rfl (by omega)) ?_ | refine WO.ops (StepK.sub rfl rfl (by omega)) ?_ | refine WO.ops (StepK.bin rfl rfl rfl) ?_ | refine WO.ops (StepK.pickT rfl rfl) ?_ | refine WO.ops (StepK.pickF rfl rfl) ?_ | refine WO.ops (StepK.not rfl) ?_ | refine WO.ops (StepK.eq rfl rfl rfl) ?_ | refine WO.ops (StepK.extract rfl rfl) ?_ | refine WO.ops (StepK.build rfl rfl) ?_ | refine WO.ops (StepK.mkFn rfl rfl) ?_ | refine WO.ops (StepK.field rfl rfl) ?_ | refine WO.ops (StepK.lenStr rfl) ?_ | refine WO.ops (StepK.nilck rfl) ?_ | refine WO.ops (StepK.min2 rfl rfl) ?_ | refine WO.ops (StepK.max2 rfl rfl) ?_ | refine WO.ops (StepK.load1 rfl (by first | with_reducible assumption | rfl)) ?_ | refine WO.run rfl ?_ | refine WO.skip rfl rfl ?_ | refine WO.skipu rfl ?_))
  refine WO.nil (WC.seqO ?_)
  (repeat (first | refine WO.ops (StepK.mv rfl) ?_ | refine WO.ops (StepK.lenSl rfl (by first | with_reducible assumption | rfl)) ?_ | refine WO.ops (StepK.fieldAddr rfl) ?_ | refine WO.ops (StepK.add rfl rfl (by omega)) ?_ | refine WO.ops (StepK.sub rfl rfl (by omega)) ?_ | refine WO.ops (StepK.bin rfl rfl rfl) ?_ | refine WO.ops (StepK.pickT rfl rfl) ?_ | refine WO.ops (StepK.pickF rfl rfl) ?_ | refine WO.ops (StepK.not rfl) ?_ | refine WO.ops (StepK.eq rfl rfl rfl) ?_ | refine WO.ops (StepK.extract rfl rfl) ?_ | refine WO.ops (StepK.build rfl rfl) ?_ | refine WO.ops (StepK.mkFn rfl rfl) ?_ | refine WO.ops (StepK.field rfl rfl) ?_ | refine WO.ops (StepK.lenStr rfl) ?_ | refine WO.ops (StepK.nilck rfl) ?_ | refine WO.ops (StepK.min2 rfl rfl) ?_ | refine WO.ops (StepK.max2 rfl rfl) ?_ | refine WO.ops (StepK.load1 rfl (by first | with_reducible assumption | rfl)) ?_ | refine WO.run rfl ?_ | refine WO.skip rfl rfl ?_ | refine WO.skipu rfl ?_))
  refine WO.call rfl rfl (D p hp s h3 F g0.wf (A.grow g0) hb) ?_
  rintro v h4 ⟨rfl, p1, p2⟩
  (repeat (first | refine WO.ops (StepK.mv rfl) ?_ | refine WO.ops (StepK.lenSl rfl (by first | with_reducible assumption | rfl)) ?_ | refine WO.ops (StepK.fieldAddr rfl) ?_ | refine WO.ops (StepK.add rfl rfl (by omega)) ?_ | refine WO.ops (StepK.sub rfl rfl (by omega)) ?_ | refine WO.ops (StepK.bin rfl rfl rfl) ?_ | refine WO.ops (StepK.pickT rfl rfl) ?_ | refine WO.ops (StepK.pickF rfl rfl) ?_ | refine WO.ops (StepK.not rfl) ?_ | refine WO.ops (StepK.eq rfl rfl rfl) ?_ | refine WO.ops (StepK.extract rfl rfl) ?_ | refine WO.ops (StepK.build rfl rfl) ?_ | refine WO.ops (StepK.mkFn rfl rfl) ?_ | refine WO.ops (StepK.field rfl rfl) ?_ | refine WO.ops (StepK.lenStr rfl) ?_ | refine WO.ops (StepK.nilck rfl) ?_ | refine WO.ops (StepK.min2 rfl rfl) ?_ | refine WO.ops (StepK.max2 rfl rfl) ?_ | refine WO.ops (StepK.load1 rfl (by first | with_reducible assumption | rfl)) ?_ | refine WO.run rfl ?_ | refine WO.skip rfl rfl ?_ | refine WO.skipu rfl ?_))
  have p1 := p1.growl g0
  refine WO.nil (WC.ret ⟨trivial, _, rfl, fun n hn => ⟨rfl, p1.low n, ?_⟩, fun hc1 _ => ⟨rfl, ?_⟩⟩)
  · rcases p2 with q | q
    · exact .inl (Nat.le_trans hn q)
    · exact .inr q
  · rcases p2 with q | q
    · omega
    · rw [q]; exact ⟨A.post (Grow.refl hw), .inr rfl⟩

theorem any_ans {g : Nat} {k : List Nat} {a : Nat} {f : V → AS → Bool × AS} {ps : List V} (D : Does1 C g k a f ps) (hbd : ∀ p s, Bd s → Bd (f p s).2) {h : Heap} (hw : Wf h) {s : AS} {F : List Nat} (A : ArcAt h a s F) (hb : Bd s) {xb : Nat} {st : St}
    (hx : h.get xb = some (.cells ps st)) (hxF : xb ∉ F) (hlen : ps.length < 1000) : Ans C 31 [.func (.func g) [] [], .str k, .slice (some (xb, 0)) ps.length ps.length] h fun v h' => v = .bool (decide ((idxS f 0 s ps).1 ≥ 0)) ∧ APost h h' a F (idxS f 0 s ps).2 ∧ (h'.low ≤ a ∨ (idxS f 0 s ps).2 = s) := by
  have hF : C.F 31 = some a31 := S.f rfl
  unfold a31 at hF
  refine Ans.fnM (fun _ _ => S.s _ _ _ (by decide)) hF rfl rfl hw fun h2 g0 hsz hge => ?_
  clear hF
  have ha := A.at_lt hw
  have hF2 := A.lows hw
  have hxs := Wf.lt hw hx
  refine WC.seqO ?_
  refine WO.ops (StepK.box rfl) ?_
  have gp : Grow h2 (h2.push (.cells [.func (.func g) [] []] (.tip [] 0))) := (Grow.refl g0.wf).push _
  have b1 : (h2.push (.cells [.func (.func g) [] []] (.tip [] 0))).get h2.size = some (.cells [.func (.func g) [] []] (.tip [] 0)) := get_push_self _ _
  have s1 : h2.size < (h2.push (.cells [.func (.func g) [] []] (.tip [] 0))).size := Nat.lt_succ_self _
  have g3 := g0.trans gp
  show WO C _ _ (h2.push (.cells [.func (.func g) [] []] (.tip [] 0))) _
  generalize h2.push (.cells [.func (.func g) [] []] (.tip [] 0)) = h3 at *
  have hc1 : h2.size ∉ F := fun hm => by have := hF2 _ hm; omega
  generalize h2.size = c1 at *
  refine WO.ops (StepK.box rfl) ?_
  have gp2 : Grow h3 (h3.push (.cells [.str k] (.tip [] 0))) := (Grow.refl g3.wf).push _
  have b2 : (h3.push (.cells [.str k] (.tip [] 0))).get h3.size = some (.cells [.str k] (.tip [] 0)) := get_push_self _ _
  have s2 : h3.size < (h3.push (.cells [.str k] (.tip [] 0))).size := Nat.lt_succ_self _
  have b1 := gp2.ext _ _ b1
  have hc2 : h3.size ∉ F := fun hm => by have := hF2 _ hm; omega
  have g4 := g3.trans gp2
  show WO C _ _ (h3.push (.cells [.str k] (.tip [] 0))) _
  generalize h3.push (.cells [.str k] (.tip [] 0)) = h4 at *
  generalize h3.size = c2 at *
  have A4 := A.grow g4
  have hx4 := g4.ext _ _ hx
  (repeat (first | refine WO.ops (StepK.mv rfl) ?_ | refine WO.ops (StepK.lenSl rfl (by first | with_reducible assumption | rfl)) ?_ | refine WO.ops (StepK.fieldAddr rfl) ?_ | refine WO.ops (StepK.add rfl rfl (by omega)) ?_ | refine WO.ops (StepK.sub rfl rfl (by omega)) ?_ | refine WO.ops (StepK.bin rfl rfl rfl) ?_ | refine WO.ops (StepK.pickT rfl rfl) ?_ | refine WO.ops (StepK.pickF rfl rfl) ?_ | refine WO.ops (StepK.not rfl) ?_ | refine WO.ops (StepK.eq rfl rfl rfl) ?_ | refine WO.ops (StepK.extract rfl rfl) ?_ | refine WO.ops (StepK.build rfl rfl) ?_ | refine WO.ops (StepK.mkFn rfl rfl) ?_ | refine WO.ops (StepK.field rfl rfl) ?_ | refine WO.ops (StepK.lenStr rfl) ?_ | refine WO.ops (StepK.nilck rfl) ?_ | refine WO.ops (StepK.min2 rfl rfl) ?_ | refine WO.ops (StepK.max2 rfl rfl) ?_ | refine WO.ops (StepK.load1 rfl (by first | with_reducible assumption | rfl)) ?_ | refine WO.run rfl ?_ | refine WO.skip rfl rfl ?_ | refine WO.skipu rfl ?_))
  refine WO.nil (WC.seqO ?_)
  (repeat (first | refine WO.ops (StepK.mv rfl) ?_ | refine WO.ops (StepK.lenSl rfl (by first | with_reducible assumption | rfl)) ?_ | refine WO.ops (StepK.fieldAddr rfl) ?_ | refine WO.ops (StepK.add rfl rfl (by omega)) ?_ | refine WO.ops (StepK.sub rfl rfl (by omega)) ?_ | refine WO.ops (StepK.bin rfl rfl rfl) ?_ | refine WO.ops (StepK.pickT rfl rfl) ?_ | refine WO.ops (StepK.pickF rfl rfl) ?_ | refine WO.ops (StepK.not rfl) ?_ | refine WO.ops (StepK.eq rfl rfl rfl) ?_ | refine WO.ops (StepK.extract rfl rfl) ?_ | refine WO.ops (StepK.build rfl rfl) ?_ | refine WO.ops (StepK.mkFn rfl rfl) ?_ | refine WO.ops (StepK.field rfl rfl) ?_ | refine WO.ops (StepK.lenStr rfl) ?_ | refine WO.ops (StepK.nilck rfl) ?_ | refine WO.ops (StepK.min2 rfl rfl) ?_ | refine WO.ops (StepK.max2 rfl rfl) ?_ | refine WO.ops (StepK.load1 rfl (by first | with_reducible assumption | rfl)) ?_ | refine WO.run rfl ?_ | refine WO.skip rfl rfl ?_ | refine WO.skipu rfl ?_))
  have W : Walk C h4 (.slice (some (xb, 0)) ps.length ps.length) ps 37 [.ptr (some (c1, 0)), .ptr (some (c2, 0))] a (fun s h' => APost h4 h' a F s ∧ Bd s) f s := by
    refine ⟨hlen, Nat.lt_of_lt_of_le ha g4.size, ⟨A4.post (Grow.refl g4.wf), hb⟩, fun s h1 hp => hp.1.wf, ?_, ?_, ?_⟩
    · rintro s h1 h2 ⟨⟨F', q1, q2, q3⟩, q4⟩ e1 e2
      exact ⟨⟨F', q1.same e1 e2, q2.same e1 e2, q3⟩, q4⟩
    · rintro s h1 ⟨⟨F', q1, q2, q3⟩, q4⟩
      refine ⟨by simp, by simp, Nat.le_refl _, fun _ => ?_⟩
      rw [List.length_map, flat_one]
      exact rds_all (q2.keep xb _ hxF hx4) (by omega)
    · rintro p hp s' h1 ⟨⟨F', q1, q2, q3⟩, q4⟩ lo
      have k1 := q2.keep c1 _ hc1 b1
      have k2 := q2.keep c2 _ hc2 b2
      refine ((any1_ans S D hp q2.wf q1 q4 (rd_get k1 rfl) (rd_get k2 rfl)).hm S.hm).mono ?_
      rintro v h' ⟨⟨r1, r2, r3⟩, r4⟩
      refine ⟨r1, ⟨?_, hbd _ _ q4⟩, ?_⟩
      · obtain ⟨F2, w1, w2, w3⟩ := r2
        exact ⟨F2, w1, q2.trans w2 g4.wf q3, q3.trans w3 q2.size⟩
      · rcases r3 with e | e
        · exact .inl e
        · rcases lo with e2 | e2
          · exact .inl (Nat.le_trans r4 e2)
          · exact .inr (by rw [e, e2])
  refine WO.call rfl rfl (containsP_ans S W) ?_
  rintro v h5 ⟨rfl, ⟨p1, p3⟩, p2⟩
  (repeat (first | refine WO.ops (StepK.mv rfl) ?_ | refine WO.ops (StepK.lenSl rfl (by first | with_reducible assumption | rfl)) ?_ | refine WO.ops (StepK.fieldAddr rfl) ?_ | refine WO.ops (StepK.add rfl rfl (by omega)) ?_ | refine WO.ops (StepK.sub rfl rfl (by omega)) ?_ | refine WO.ops (StepK.bin rfl rfl rfl) ?_ | refine WO.ops (StepK.pickT rfl rfl) ?_ | refine WO.ops (StepK.pickF rfl rfl) ?_ | refine WO.ops (StepK.not rfl) ?_ | refine WO.ops (StepK.eq rfl rfl rfl) ?_ | refine WO.ops (StepK.extract rfl rfl) ?_ | refine WO.ops (StepK.build rfl rfl) ?_ | refine WO.ops (StepK.mkFn rfl rfl) ?_ | refine WO.ops (StepK.field rfl rfl) ?_ | refine WO.ops (StepK.lenStr rfl) ?_ | refine WO.ops (StepK.nilck rfl) ?_ | refine WO.ops (StepK.min2 rfl rfl) ?_ | refine WO.ops (StepK.max2 rfl rfl) ?_ | refine WO.ops (StepK.load1 rfl (by first | with_reducible assumption | rfl)) ?_ | refine WO.run rfl ?_ | refine WO.skip rfl rfl ?_ | refine WO.skipu rfl ?_))
  have p1 := p1.growl g4
  refine WO.nil (WC.ret ⟨trivial, _, rfl, fun n hn => ⟨rfl, p1.low n, ?_⟩, fun hc1 _ => ⟨rfl, ?_⟩⟩)
  · rcases p2 with q | q
    · exact .inl (Nat.le_trans hn q)
    · exact .inr q
  · rcases p2 with q | q
    · omega
    · rw [q]; exact ⟨A.post (Grow.refl hw), .inr rfl⟩
end Abs
end Go.Proofs.Ytnbljblnikdeiaa
