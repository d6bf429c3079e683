/- Layer 11: what an Ask does to what is kept. -/
import Derived.Test.YtnbljblnikdeiaaD12
namespace Go.Proofs.Ytnbljblnikdeiaa
namespace Abs
set_option linter.unusedVariables false
set_option linter.unusedSimpArgs false
open Go.RowKit

/-- What leaves, and just that, is kept no more. -/
def Leaves (s s' : AS) (o : List Nat) : Prop := (o = [] ∨ o ∈ s.t1 ∨ o ∈ s.t2) ∧ ∀ w, (w ∈ s.t1 ∨ w ∈ s.t2) → ((w ∈ s'.t1 ∨ w ∈ s'.t2) ↔ w ≠ o)
theorem head_leaves1 {s : AS} (h : ND s) {a : List Nat} {l : List (List Nat)} (ht : s.t1 = a :: l) : (a = [] ∨ a ∈ s.t1 ∨ a ∈ s.t2) ∧ ∀ w, (w ∈ s.t1 ∨ w ∈ s.t2) → ((w ∈ l ∨ w ∈ s.t2) ↔ w ≠ a) := by
  have hn := h.n1
  rw [ht] at hn
  have ha : a ∈ s.t1 := by rw [ht]; exact List.mem_cons_self
  refine ⟨.inr (.inl ha), fun w hw => ⟨?_, fun hne => ?_⟩⟩
  · rintro (q | q) e
    · subst e; exact (List.nodup_cons.1 hn).1 q
    · subst e; exact h.d12 _ ha q
  · rcases hw with q | q
    · rw [ht] at q
      rcases List.mem_cons.1 q with e | e
      · exact absurd e hne
      · exact .inl e
    · exact .inr q
theorem head_leaves2 {s : AS} (h : ND s) {a : List Nat} {l : List (List Nat)} (ht : s.t2 = a :: l) : (a = [] ∨ a ∈ s.t1 ∨ a ∈ s.t2) ∧ ∀ w, (w ∈ s.t1 ∨ w ∈ s.t2) → ((w ∈ s.t1 ∨ w ∈ l) ↔ w ≠ a) := by
  have hn := h.n2
  rw [ht] at hn
  have ha : a ∈ s.t2 := by rw [ht]; exact List.mem_cons_self
  refine ⟨.inr (.inr ha), fun w hw => ⟨?_, fun hne => ?_⟩⟩
  · rintro (q | q) e
    · subst e; exact h.d12 _ q ha
    · subst e; exact (List.nodup_cons.1 hn).1 q
  · rcases hw with q | q
    · exact .inl q
    · rw [ht] at q
      rcases List.mem_cons.1 q with e | e
      · exact absurd e hne
      · exact .inr e
theorem none_leaves {s : AS} (h : ND s) : Leaves s s [] := ⟨.inl rfl, fun w hw => ⟨fun _ => by
  rcases hw with q | q
  · exact h.e1 w q
  · exact h.e2 w q, fun _ => hw⟩⟩
theorem room_leaves {s : AS} (h : ND s) (b : Bool) : Leaves s (roomR s b).2 (roomR s b).1 := by
  unfold roomR
  split
  · rename_i hc
    have hpos := (of_decide_eq_true hc).1
    cases ht : s.t1 with
    | nil => rw [ht] at hpos; simp at hpos
    | cons a l =>
      have hn := h.n1
      rw [ht] at hn
      simp only [List.headD_cons]
      rw [wo_head hn]
      have := head_leaves1 h ht
      rw [ht] at this
      exact ⟨by simp only [ht]; exact this.1, by intro w hw; simp only [ht] at hw ⊢; exact this.2 w hw⟩
  · split
    · rename_i hpos
      cases ht : s.t2 with
      | nil => rw [ht] at hpos; simp at hpos
      | cons a l =>
        have hn := h.n2
        rw [ht] at hn
        simp only [List.headD_cons]
        rw [wo_head hn]
        have := head_leaves2 h ht
        rw [ht] at this
        exact ⟨by simp only [ht]; exact this.1, by intro w hw; simp only [ht] at hw ⊢; exact this.2 w hw⟩
    · exact none_leaves h
theorem fresh_leaves {s : AS} (i : AInv s) : Leaves s (freshR s).2 (freshR s).1 := by
  have hc := i.c
  unfold freshR
  split
  · rename_i f1
    split
    · exact room_leaves (s := { s with b1 := wo s.b1 (s.b1.headD []) }) (i.nd.sub (List.Sublist.refl _) (List.Sublist.refl _) (wo_sub _ _) (List.Sublist.refl _)) false
    · rename_i f2
      cases ht : s.t1 with
      | nil => rw [ht] at f2; simp at f2; omega
      | cons a l =>
        have hn := i.nd.n1
        rw [ht] at hn
        simp only [List.headD_cons]
        rw [wo_head hn]
        have := head_leaves1 i.nd ht
        rw [ht] at this
        exact ⟨by simp only [ht]; exact this.1, by intro w hw; simp only [ht] at hw ⊢; exact this.2 w hw⟩
  · split
    · split
      · exact room_leaves (s := { s with b2 := wo s.b2 (s.b2.headD []) }) (i.nd.sub (List.Sublist.refl _) (List.Sublist.refl _) (List.Sublist.refl _) (wo_sub _ _)) false
      · exact room_leaves i.nd false
    · exact none_leaves i.nd

theorem ask_hit {s : AS} {k : List Nat} (hk : k ≠ []) : (askR s k).1 = hasS s k := by
  unfold askR
  rw [if_neg hk]
  by_cases e : hasS s k = true
  · rw [if_pos e, e]
  · rw [if_neg e]
    have e : hasS s k = false := by simpa using e
    rw [e]
    split <;> rfl
theorem ask_kept {s : AS} {k : List Nat} (hk : k ≠ []) : hasS (askR s k).2.2 k = true := by
  unfold askR
  rw [if_neg hk, hasS_iff]
  split
  · exact .inr (by simp)
  · split
    · exact .inr (by simp [againR])
    · exact .inl (by simp)
theorem ask_twice {s : AS} {k : List Nat} (hk : k ≠ []) (h : hasS s k = true) : askR s k = (true, [], { dropR s k with t2 := (dropR s k).t2 ++ [k] }) := by
  rw [askR, if_neg hk, if_pos h]
theorem ask_leaves {s : AS} (i : AInv s) {k : List Nat} (hk : k ≠ []) : Leaves s (askR s k).2.2 (askR s k).2.1 ∧ (askR s k).2.1 ≠ k := by
  have key : ∀ (s' : AS) (o : List Nat), hasS s k = false → Leaves s s' o → o ≠ k ∧ ∀ w, (w ∈ s.t1 ∨ w ∈ s.t2) → w ≠ k := by
    intro s' o hn hl
    have hn' : ¬ (k ∈ s.t1 ∨ k ∈ s.t2) := by rw [← hasS_iff, hn]; simp
    refine ⟨fun e => ?_, fun w hw e => hn' (e ▸ hw)⟩
    rcases hl.1 with q | q
    · exact hk (e ▸ q)
    · exact hn' (e ▸ q)
  unfold askR
  rw [if_neg hk]
  by_cases e : hasS s k = true
  · rw [if_pos e]
    refine ⟨⟨.inl rfl, fun w hw => ⟨fun _ => ?_, fun _ => ?_⟩⟩, fun q => hk q.symm⟩
    · rcases hw with q | q
      · exact i.nd.e1 w q
      · exact i.nd.e2 w q
    · by_cases ew : w = k
      · exact .inr (by simp [ew])
      · rcases hw with q | q
        · exact .inl (mem_wo.2 ⟨q, ew⟩)
        · exact .inr (by simp only [dropR, List.mem_append]; exact .inl (mem_wo.2 ⟨q, ew⟩))
  · rw [if_neg e]
    have e : hasS s k = false := by simpa using e
    split
    · unfold againR
      simp only
      have go : ∀ (u : AS) (b : Bool), u.t1 = s.t1 → u.t2 = s.t2 → ND u → Leaves s { dropR (roomR u b).2 k with t2 := (dropR (roomR u b).2 k).t2 ++ [k] } (roomR u b).1 ∧ (roomR u b).1 ≠ k := by
        intro u b e1 e2 nd
        have hl := room_leaves nd b
        simp only [Leaves, e1, e2] at hl
        obtain ⟨q1, q2⟩ := key (roomR u b).2 _ e hl
        refine ⟨⟨hl.1, fun w hw => ?_⟩, q1⟩
        rw [← hl.2 w hw]
        have hwk := q2 w hw
        simp only [dropR, List.mem_append, mem_wo, List.mem_singleton]
        constructor
        · rintro (q | q | q)
          · exact .inl q.1
          · exact .inr q.1
          · exact absurd q hwk
        · rintro (q | q)
          · exact .inl ⟨q, hwk⟩
          · exact .inr (.inl ⟨q, hwk⟩)
      split
      · exact go (upS s _ _) false rfl rfl (i.nd.sub (List.Sublist.refl _) (List.Sublist.refl _) (List.Sublist.refl _) (List.Sublist.refl _))
      · exact go (downS s _ _) true rfl rfl (i.nd.sub (List.Sublist.refl _) (List.Sublist.refl _) (List.Sublist.refl _) (List.Sublist.refl _))
    · have hl := fresh_leaves i
      obtain ⟨q1, q2⟩ := key (freshR s).2 _ e hl
      refine ⟨⟨hl.1, fun w hw => ?_⟩, q1⟩
      rw [← hl.2 w hw]
      have hwk := q2 w hw
      simp only [List.mem_append, List.mem_singleton]
      constructor
      · rintro ((q | q) | q)
        · exact .inl q
        · exact absurd q hwk
        · exact .inr q
      · rintro (q | q)
        · exact .inl (.inl q)
        · exact .inr q

/-- One cache, made since h. -/
structure OW (h h' : Heap) (a : Nat) (s : AS) (F : List Nat) : Prop where
  grow : Grow h h'
  fst : ArcAt h' a s F
  cf : Comes h [] F
theorem OW.up {h h1 h2 : Heap} {a : Nat} {s : AS} {F : List Nat} (w : OW h h1 a s F) (g : Grow h1 h2) : OW h h2 a s F := ⟨w.grow.trans g, w.fst.grow g, w.cf⟩
theorem OW.step {h h1 h2 : Heap} (hw : Wf h) {a : Nat} {s s' : AS} {F : List Nat} (w : OW h h1 a s F) (p : APost h1 h2 a F s') : ∃ F', OW h h2 a s' F' := by
  obtain ⟨F', q1, q2, q3⟩ := p
  exact ⟨F', (((w.grow.chg []).trans q2 hw w.cf).grow), q1, w.cf.trans q3 w.grow.size⟩
/-- What a list that the law holds is, behind a call on the cache: its blocks are not the cache's. -/
structure HW (h h' : Heap) (a : Nat) (s : AS) (F : List Nat) (x : V) (ks : List (List Nat)) (K : List Nat) : Prop where
  ow : OW h h' a s F
  kl : KL h' x (sv ks) K
  dj : Dj K F
theorem HW.step {h h1 h2 : Heap} (hw : Wf h) {a : Nat} {s s' : AS} {F : List Nat} {x : V} {ks : List (List Nat)} {K : List Nat} (w : HW h h1 a s F x ks K) (p : APost h1 h2 a F s') : ∃ F', HW h h2 a s' F' x ks K := by
  obtain ⟨F', ow⟩ := w.ow.step hw p
  obtain ⟨F2, q1, q2, q3⟩ := p
  have ow2 : OW h h2 a s' F2 := ⟨(((w.ow.grow.chg []).trans q2 hw w.ow.cf).grow), q1, w.ow.cf.trans q3 w.ow.grow.size⟩
  exact ⟨F2, ow2, w.kl.keep q2 w.dj, (q3.dj w.kl.lows w.dj.symm).symm⟩
end Abs
end Go.Proofs.Ytnbljblnikdeiaa
