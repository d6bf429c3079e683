/- Layer 11: the plain law: the cache and the document's are the same; what is always so of it. -/
import Derived.Test.YtnbljblnikdeiaaD9
namespace Go.Proofs.Ytnbljblnikdeiaa
namespace Abs
set_option linter.unusedVariables false
set_option linter.unusedSimpArgs false
open Go.RowKit

theorem mem_wo {l : List (List Nat)} {a k : List Nat} : a ∈ wo l k ↔ a ∈ l ∧ a ≠ k := by simp [wo]
theorem wo_sub (l : List (List Nat)) (k : List Nat) : (wo l k).Sublist l := List.filter_sublist
theorem wo_not {l : List (List Nat)} {k : List Nat} (h : k ∉ l) : wo l k = l := by
  unfold wo
  rw [List.filter_eq_self]
  intro a ha
  simp only [Bool.not_eq_true', decide_eq_false_iff_not]
  intro e; subst e; exact h ha
theorem wo_app (l m : List (List Nat)) (k : List Nat) : wo (l ++ m) k = wo l k ++ wo m k := List.filter_append ..
theorem wo_one {a k : List Nat} (h : a ≠ k) : wo [a] k = [a] := by simp [wo, h]
theorem wo_head {a : List Nat} {l : List (List Nat)} (h : (a :: l).Nodup) : wo (a :: l) a = l := by
  have h1 : a ∉ l := (List.nodup_cons.1 h).1
  have : wo (a :: l) a = wo l a := by simp [wo]
  rw [this, wo_not h1]
theorem wo_tail {l : List (List Nat)} (h : l.Nodup) : wo l (l.headD []) = l.tail ∨ l = [] := by
  cases l with
  | nil => exact .inr rfl
  | cons a l => exact .inl (wo_head h)
theorem erase_wo {l : List (List Nat)} {k : List Nat} (h : l.Nodup) : l.erase k = wo l k := by
  induction l with
  | nil => rfl
  | cons a l ih =>
    have h1 := List.nodup_cons.1 h
    by_cases e : a = k
    · subst e
      rw [wo_head h, List.erase_cons_head]
    · rw [List.erase_cons_tail (by simpa using e), ih h1.2]
      simp [wo, e]
theorem wo_mem_len {l : List (List Nat)} {k : List Nat} (h : l.Nodup) (hk : k ∈ l) : (wo l k).length + 1 = l.length := by
  rw [← erase_wo h, List.length_erase_of_mem hk]
  have : 0 < l.length := List.length_pos_of_mem hk
  omega

/-- No key is in two lists, or twice in one; none is empty. -/
structure ND (s : AS) : Prop where
  n1 : s.t1.Nodup
  n2 : s.t2.Nodup
  n3 : s.b1.Nodup
  n4 : s.b2.Nodup
  d12 : ∀ k ∈ s.t1, k ∉ s.t2
  d13 : ∀ k ∈ s.t1, k ∉ s.b1
  d14 : ∀ k ∈ s.t1, k ∉ s.b2
  d23 : ∀ k ∈ s.t2, k ∉ s.b1
  d24 : ∀ k ∈ s.t2, k ∉ s.b2
  d34 : ∀ k ∈ s.b1, k ∉ s.b2
  e1 : ∀ k ∈ s.t1, k ≠ []
  e2 : ∀ k ∈ s.t2, k ≠ []
  e3 : ∀ k ∈ s.b1, k ≠ []
  e4 : ∀ k ∈ s.b2, k ≠ []
theorem ND.sub {s s' : AS} (h : ND s) (a1 : s'.t1.Sublist s.t1) (a2 : s'.t2.Sublist s.t2) (a3 : s'.b1.Sublist s.b1) (a4 : s'.b2.Sublist s.b2) : ND s' :=
  ⟨a1.nodup h.n1, a2.nodup h.n2, a3.nodup h.n3, a4.nodup h.n4,
   fun k x y => h.d12 k (a1.subset x) (a2.subset y), fun k x y => h.d13 k (a1.subset x) (a3.subset y), fun k x y => h.d14 k (a1.subset x) (a4.subset y),
   fun k x y => h.d23 k (a2.subset x) (a3.subset y), fun k x y => h.d24 k (a2.subset x) (a4.subset y), fun k x y => h.d34 k (a3.subset x) (a4.subset y),
   fun k x => h.e1 k (a1.subset x), fun k x => h.e2 k (a2.subset x), fun k x => h.e3 k (a3.subset x), fun k x => h.e4 k (a4.subset x)⟩
def NoKey (s : AS) (k : List Nat) : Prop := k ≠ [] ∧ k ∉ s.t1 ∧ k ∉ s.t2 ∧ k ∉ s.b1 ∧ k ∉ s.b2
theorem nodup_snoc {l : List (List Nat)} {k : List Nat} (h : l.Nodup) (hk : k ∉ l) : (l ++ [k]).Nodup := by
  rw [List.nodup_append]
  refine ⟨h, by simp, ?_⟩
  intro a ha b hb e
  simp at hb; subst hb; subst e; exact hk ha
theorem mem_snoc {l : List (List Nat)} {a k : List Nat} (h : a ∈ l ++ [k]) : a ∈ l ∨ a = k := by simpa using h
theorem ND.app1 {s : AS} (h : ND s) {k : List Nat} (n : NoKey s k) : ND { s with t1 := s.t1 ++ [k] } := by
  obtain ⟨n0, n1, n2, n3, n4⟩ := n
  refine ⟨nodup_snoc h.n1 n1, h.n2, h.n3, h.n4, ?_, ?_, ?_, h.d23, h.d24, h.d34, ?_, h.e2, h.e3, h.e4⟩
  · intro a ha; rcases mem_snoc ha with e | e
    · exact h.d12 a e
    · subst e; exact n2
  · intro a ha; rcases mem_snoc ha with e | e
    · exact h.d13 a e
    · subst e; exact n3
  · intro a ha; rcases mem_snoc ha with e | e
    · exact h.d14 a e
    · subst e; exact n4
  · intro a ha; rcases mem_snoc ha with e | e
    · exact h.e1 a e
    · subst e; exact n0
theorem ND.app2 {s : AS} (h : ND s) {k : List Nat} (n : NoKey s k) : ND { s with t2 := s.t2 ++ [k] } := by
  obtain ⟨n0, n1, n2, n3, n4⟩ := n
  refine ⟨h.n1, nodup_snoc h.n2 n2, h.n3, h.n4, ?_, h.d13, h.d14, ?_, ?_, h.d34, h.e1, ?_, h.e3, h.e4⟩
  · intro a ha hb; rcases mem_snoc hb with e | e
    · exact h.d12 a ha e
    · subst e; exact n1 ha
  · intro a ha; rcases mem_snoc ha with e | e
    · exact h.d23 a e
    · subst e; exact n3
  · intro a ha; rcases mem_snoc ha with e | e
    · exact h.d24 a e
    · subst e; exact n4
  · intro a ha; rcases mem_snoc ha with e | e
    · exact h.e2 a e
    · subst e; exact n0
theorem ND.app3 {s : AS} (h : ND s) {k : List Nat} (n : NoKey s k) : ND { s with b1 := s.b1 ++ [k] } := by
  obtain ⟨n0, n1, n2, n3, n4⟩ := n
  refine ⟨h.n1, h.n2, nodup_snoc h.n3 n3, h.n4, h.d12, ?_, h.d14, ?_, h.d24, ?_, h.e1, h.e2, ?_, h.e4⟩
  · intro a ha hb; rcases mem_snoc hb with e | e
    · exact h.d13 a ha e
    · subst e; exact n1 ha
  · intro a ha hb; rcases mem_snoc hb with e | e
    · exact h.d23 a ha e
    · subst e; exact n2 ha
  · intro a ha; rcases mem_snoc ha with e | e
    · exact h.d34 a e
    · subst e; exact n4
  · intro a ha; rcases mem_snoc ha with e | e
    · exact h.e3 a e
    · subst e; exact n0
theorem ND.app4 {s : AS} (h : ND s) {k : List Nat} (n : NoKey s k) : ND { s with b2 := s.b2 ++ [k] } := by
  obtain ⟨n0, n1, n2, n3, n4⟩ := n
  refine ⟨h.n1, h.n2, h.n3, nodup_snoc h.n4 n4, h.d12, h.d13, ?_, h.d23, ?_, ?_, h.e1, h.e2, h.e3, ?_⟩
  · intro a ha hb; rcases mem_snoc hb with e | e
    · exact h.d14 a ha e
    · subst e; exact n1 ha
  · intro a ha hb; rcases mem_snoc hb with e | e
    · exact h.d24 a ha e
    · subst e; exact n2 ha
  · intro a ha hb; rcases mem_snoc hb with e | e
    · exact h.d34 a ha e
    · subst e; exact n3 ha
  · intro a ha; rcases mem_snoc ha with e | e
    · exact h.e4 a e
    · subst e; exact n0

theorem drop_eq {s : AS} (h : ND s) (k : List Nat) : dropS s k = dropR s k := by
  unfold dropS dropR
  split
  · rename_i q
    rw [erase_wo h.n1, wo_not (h.d12 k q), wo_not (h.d13 k q), wo_not (h.d14 k q)]
  · rename_i q1
    rw [wo_not q1]
    split
    · rename_i q
      rw [erase_wo h.n2, wo_not (h.d23 k q), wo_not (h.d24 k q)]
    · rename_i q2
      rw [wo_not q2]
      split
      · rename_i q
        rw [erase_wo h.n3, wo_not (h.d34 k q)]
      · rename_i q3
        rw [wo_not q3]
        split
        · rw [erase_wo h.n4]
        · rename_i q4
          rw [wo_not q4]
theorem dropR_nd {s : AS} (h : ND s) (k : List Nat) : ND (dropR s k) := h.sub (wo_sub _ _) (wo_sub _ _) (wo_sub _ _) (wo_sub _ _)
theorem dropR_no {s : AS} {k : List Nat} (hk : k ≠ []) : NoKey (dropR s k) k := ⟨hk, fun q => (mem_wo.1 q).2 rfl, fun q => (mem_wo.1 q).2 rfl, fun q => (mem_wo.1 q).2 rfl, fun q => (mem_wo.1 q).2 rfl⟩

theorem room_eq {s : AS} (h : ND s) (b : Bool) : roomS s b = roomR s b := by
  unfold roomS roomR
  split
  · rename_i hc
    have hpos := (of_decide_eq_true hc).1
    rcases wo_tail h.n1 with q | q
    · rw [q]
    · rw [q] at hpos; simp at hpos
  · by_cases hz : s.t2 = []
    · have h0 : s.t2.headD [] = [] := by rw [hz]; rfl
      rw [if_pos h0, if_neg (by rw [hz]; simp), h0, as_tail2 hz]
    · obtain ⟨k, l, ht⟩ : ∃ k l, s.t2 = k :: l := by
        cases ht : s.t2 with
        | nil => exact absurd ht hz
        | cons k l => exact ⟨k, l, rfl⟩
      have hk : s.t2.headD [] ≠ [] := by rw [ht]; exact h.e2 k (by rw [ht]; exact List.mem_cons_self)
      rw [if_neg hk, if_pos (by rw [ht]; simp)]
      rcases wo_tail h.n2 with q | q
      · rw [q]
      · exact absurd q hz
/-- What making room does to what is always so. -/
theorem room_nd {s : AS} (h : ND s) (b : Bool) : ND (roomR s b).2 ∧ (∀ k, NoKey s k → NoKey (roomR s b).2 k) := by
  unfold roomR
  split
  · rename_i hc
    have hpos := (of_decide_eq_true hc).1
    cases ht : s.t1 with
    | nil => rw [ht] at hpos; simp at hpos
    | cons a l =>
      have hn := h.n1
      rw [ht] at hn
      have ha : a ∈ s.t1 := by rw [ht]; exact List.mem_cons_self
      simp only [List.headD_cons]
      rw [wo_head hn]
      have hs : ND { s with t1 := l } := h.sub (by simp only; rw [ht]; exact List.sublist_cons_self _ _) (List.Sublist.refl _) (List.Sublist.refl _) (List.Sublist.refl _)
      refine ⟨hs.app3 (s := { s with t1 := l }) ⟨h.e1 a ha, (List.nodup_cons.1 hn).1, h.d12 a ha, h.d13 a ha, h.d14 a ha⟩, ?_⟩
      rintro k ⟨k0, k1, k2, k3, k4⟩
      rw [ht] at k1
      simp only [List.mem_cons, not_or] at k1
      exact ⟨k0, k1.2, k2, by simp [k3, k1.1], k4⟩
  · split
    · rename_i hpos
      cases ht : s.t2 with
      | nil => rw [ht] at hpos; simp at hpos
      | cons a l =>
        have hn := h.n2
        rw [ht] at hn
        have ha : a ∈ s.t2 := by rw [ht]; exact List.mem_cons_self
        simp only [List.headD_cons]
        rw [wo_head hn]
        have hs : ND { s with t2 := l } := h.sub (List.Sublist.refl _) (by simp only; rw [ht]; exact List.sublist_cons_self _ _) (List.Sublist.refl _) (List.Sublist.refl _)
        refine ⟨hs.app4 (s := { s with t2 := l }) ⟨h.e2 a ha, fun q => h.d12 a q ha, (List.nodup_cons.1 hn).1, h.d23 a ha, h.d24 a ha⟩, ?_⟩
        rintro k ⟨k0, k1, k2, k3, k4⟩
        rw [ht] at k2
        simp only [List.mem_cons, not_or] at k2
        exact ⟨k0, k1, k2.2, k3, by simp [k4, k2.1]⟩
    · exact ⟨h, fun k q => q⟩
/-- How many keys there are behind room that is made. -/
theorem room_len {s : AS} (h : ND s) (b : Bool) : (roomR s b).2.p = s.p ∧ (roomR s b).2.c = s.c ∧ (roomR s b).2.t1.length + (roomR s b).2.b1.length = s.t1.length + s.b1.length ∧
    (roomR s b).2.t2.length + (roomR s b).2.b2.length = s.t2.length + s.b2.length ∧
    ((roomR s b).2.t1.length + (roomR s b).2.t2.length + 1 = s.t1.length + s.t2.length ∨ (s.t1.length = 0 ∧ s.t2.length = 0 ∧ (roomR s b).2.t1.length = 0 ∧ (roomR s b).2.t2.length = 0)) := by
  unfold roomR
  split
  · rename_i hc
    have hpos := (of_decide_eq_true hc).1
    cases ht : s.t1 with
    | nil => rw [ht] at hpos; simp at hpos
    | cons a l =>
      have hn := h.n1
      rw [ht] at hn
      simp only [List.headD_cons]
      rw [wo_head hn]
      simp
      omega
  · rename_i hc
    split
    · rename_i hpos
      cases ht : s.t2 with
      | nil => rw [ht] at hpos; simp at hpos
      | cons a l =>
        have hn := h.n2
        rw [ht] at hn
        simp only [List.headD_cons]
        rw [wo_head hn]
        simp
        omega
    · rename_i hpos
      refine ⟨rfl, rfl, rfl, rfl, .inr ?_⟩
      have h2 : s.t2.length = 0 := by omega
      have h1 : s.t1.length = 0 := by
        have hc' : ¬ (0 < s.t1.length ∧ ((s.t1.length : Int) > s.p ∨ (b = true ∧ (s.t1.length : Int) = s.p) ∨ s.t2.length = 0)) := fun q => hc (decide_eq_true q)
        omega
      exact ⟨h1, h2, h1, h2⟩

structure AInv (s : AS) : Prop where
  nd : ND s
  c : 1 ≤ s.c ∧ s.c ≤ 64
  p : 0 ≤ s.p ∧ s.p ≤ s.c
  h1 : (s.t1.length : Int) + s.b1.length ≤ s.c
  h2 : (s.t1.length : Int) + s.t2.length ≤ s.c
  h3 : (s.t1.length : Int) + s.t2.length + s.b1.length + s.b2.length ≤ 2 * s.c
theorem AInv.ok {s : AS} (i : AInv s) : OkS s := by
  have := i.c; have := i.p; have := i.h1; have := i.h2; have := i.h3
  refine ⟨fun j => ?_, ⟨by omega, by omega⟩, ⟨by omega, by omega⟩⟩
  match j with
  | 0 => simp only [AS.get]; omega
  | 1 => simp only [AS.get]; omega
  | 2 => simp only [AS.get]; omega
  | _ + 3 => simp only [AS.get]; omega
theorem AInv.new {n : Int} (h : 1 ≤ n ∧ n ≤ 64) : AInv (newS n) :=
  ⟨⟨by simp [newS], by simp [newS], by simp [newS], by simp [newS], by simp [newS], by simp [newS], by simp [newS], by simp [newS], by simp [newS], by simp [newS], by simp [newS], by simp [newS], by simp [newS], by simp [newS]⟩, h, ⟨by simp [newS], by simp [newS]; omega⟩, by simp [newS]; omega, by simp [newS]; omega, by simp [newS]; omega⟩
theorem wo_le (l : List (List Nat)) (k : List Nat) : (wo l k).length ≤ l.length := wo_len l k
theorem AInv.drop {s : AS} (i : AInv s) (k : List Nat) : AInv (dropR s k) := by
  have h1 := wo_le s.t1 k; have h2 := wo_le s.t2 k; have h3 := wo_le s.b1 k; have h4 := wo_le s.b2 k
  have := i.h1; have := i.h2; have := i.h3
  exact ⟨dropR_nd i.nd k, i.c, i.p, by simp only [dropR]; omega, by simp only [dropR]; omega, by simp only [dropR]; omega⟩

theorem fresh_eq {s : AS} (i : AInv s) : freshS s = freshR s := by
  have hc := i.c
  unfold freshS freshR
  by_cases e1 : (s.t1.length : Int) = s.c ∧ s.b1.length = 0
  · rw [if_pos e1, if_pos (by omega), if_neg (by omega)]
    rcases wo_tail i.nd.n1 with q | q
    · rw [q]
    · rw [q] at e1; simp at e1; omega
  · rw [if_neg e1]
    by_cases e2 : (s.t1.length : Int) + s.b1.length = s.c
    · rw [if_pos e2, if_pos e2, if_pos (by omega)]
      have hw : wo s.b1 (s.b1.headD []) = s.b1.tail := by
        rcases wo_tail i.nd.n3 with q | q
        · exact q
        · rw [q]; rfl
      rw [hw]
      exact room_eq (s := { s with b1 := s.b1.tail }) (i.nd.sub (List.Sublist.refl _) (List.Sublist.refl _) (List.tail_sublist _) (List.Sublist.refl _)) false
    · rw [if_neg e2, if_neg e2]
      by_cases e3 : (s.t1.length : Int) + s.b1.length + s.t2.length + s.b2.length < s.c
      · rw [if_pos e3, if_neg (show ¬ (s.t1.length : Int) + s.t2.length + s.b1.length + s.b2.length ≥ s.c by omega)]
      · rw [if_neg e3, if_pos (show (s.t1.length : Int) + s.t2.length + s.b1.length + s.b2.length ≥ s.c by omega)]
        by_cases e4 : (s.t1.length : Int) + s.b1.length + s.t2.length + s.b2.length = 2 * s.c
        · rw [if_pos e4, if_pos (show (s.t1.length : Int) + s.t2.length + s.b1.length + s.b2.length = 2 * s.c by omega)]
          have hw : wo s.b2 (s.b2.headD []) = s.b2.tail := by
            rcases wo_tail i.nd.n4 with q | q
            · exact q
            · rw [q]; rfl
          rw [hw]
          exact room_eq (s := { s with b2 := s.b2.tail }) (i.nd.sub (List.Sublist.refl _) (List.Sublist.refl _) (List.Sublist.refl _) (List.tail_sublist _)) false
        · rw [if_neg e4, if_neg (show ¬ (s.t1.length : Int) + s.t2.length + s.b1.length + s.b2.length = 2 * s.c by omega)]
          exact room_eq i.nd false

/-- Room made for a key that is in B1 or B2 commutes with taking it out. -/
theorem room_drop {s : AS} (h : ND s) {k : List Nat} (h1 : k ∉ s.t1) (h2 : k ∉ s.t2) (b : Bool) : roomR (dropR s k) b = ((roomR s b).1, dropR (roomR s b).2 k) := by
  have e1 : wo s.t1 k = s.t1 := wo_not h1
  have e2 : wo s.t2 k = s.t2 := wo_not h2
  have hc : condS (dropR s k) b = condS s b := by simp only [condS, dropR, e1, e2]
  unfold roomR
  rw [hc]
  by_cases q : condS s b = true
  · rw [if_pos q, if_pos q]
    have hpos := (of_decide_eq_true q).1
    have hne : s.t1.headD [] ≠ k := by
      cases ht : s.t1 with
      | nil => rw [ht] at hpos; simp at hpos
      | cons a l => intro e; rw [ht] at h1; simp at e; subst e; simp at h1
    have e3 : wo (wo s.t1 (s.t1.headD [])) k = wo s.t1 (s.t1.headD []) := wo_not fun q => h1 (mem_wo.1 q).1
    simp only [dropR, e1, e2, e3, wo_app, wo_one hne]
  · rw [if_neg q, if_neg q]
    by_cases q2 : 0 < s.t2.length
    · rw [if_pos (by simp only [dropR, e2]; exact q2), if_pos q2]
      have hne : s.t2.headD [] ≠ k := by
        cases ht : s.t2 with
        | nil => rw [ht] at q2; simp at q2
        | cons a l => intro e; rw [ht] at h2; simp at e; subst e; simp at h2
      have e3 : wo (wo s.t2 (s.t2.headD [])) k = wo s.t2 (s.t2.headD []) := wo_not fun q => h2 (mem_wo.1 q).1
      simp only [dropR, e1, e2, e3, wo_app, wo_one hne]
    · rw [if_neg (by simp only [dropR, e2]; exact q2), if_neg q2]

theorem hasS_iff (s : AS) (k : List Nat) : hasS s k = true ↔ k ∈ s.t1 ∨ k ∈ s.t2 := by simp [hasS]
/-- THE CACHE IS THE DOCUMENT'S. -/
theorem ask_eq {s : AS} (i : AInv s) (k : List Nat) : askF s k = askR s k := by
  unfold askF askR
  by_cases e0 : k = []
  · rw [if_pos e0, if_pos e0]
  rw [if_neg e0, if_neg e0]
  unfold askS
  rw [drop_eq i.nd k]
  by_cases e1 : hasS s k = true
  · rw [if_pos e1, if_pos e1]
  · rw [if_neg e1, if_neg e1]
    have hn : k ∉ s.t1 ∧ k ∉ s.t2 := by rw [hasS_iff] at e1; exact not_or.1 e1
    by_cases e2 : k ∈ s.b1
    · have hl := wo_mem_len i.nd.n3 e2
      rw [if_pos (by simp only [dropR]; omega), if_pos (.inl e2)]
      unfold againR
      rw [if_pos e2]
      have hu : upS (dropR s k) s.b1.length s.b2.length = dropR (upS s s.b1.length s.b2.length) k := rfl
      have hnd : ND (upS s s.b1.length s.b2.length) := i.nd.sub (List.Sublist.refl _) (List.Sublist.refl _) (List.Sublist.refl _) (List.Sublist.refl _)
      rw [hu, room_eq (dropR_nd hnd k), room_drop (s := upS s s.b1.length s.b2.length) hnd hn.1 hn.2 false]
    · have hnl : wo s.b1 k = s.b1 := wo_not e2
      rw [if_neg (by simp only [dropR, hnl]; omega)]
      by_cases e3 : k ∈ s.b2
      · have hl := wo_mem_len i.nd.n4 e3
        rw [if_pos (by simp only [dropR]; omega), if_pos (.inr e3)]
        unfold againR
        rw [if_neg e2]
        have hu : downS (dropR s k) s.b1.length s.b2.length = dropR (downS s s.b1.length s.b2.length) k := rfl
        have hnd : ND (downS s s.b1.length s.b2.length) := i.nd.sub (List.Sublist.refl _) (List.Sublist.refl _) (List.Sublist.refl _) (List.Sublist.refl _)
        rw [hu, room_eq (dropR_nd hnd k), room_drop (s := downS s s.b1.length s.b2.length) hnd hn.1 hn.2 true]
      · have hnl2 : wo s.b2 k = s.b2 := wo_not e3
        rw [if_neg (by simp only [dropR, hnl2]; omega), if_neg (by intro q; exact q.elim e2 e3)]
        have hd : dropR s k = s := by simp only [dropR, hnl, hnl2, wo_not hn.1, wo_not hn.2]
        rw [hd, fresh_eq i]
end Abs
end Go.Proofs.Ytnbljblnikdeiaa
