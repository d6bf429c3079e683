/- Layer 7: runs and their places: the plain law of SpaceAll. -/
import Derived.Test.YtkdoemlhjhmfhaaC18
namespace Go.Proofs.Ytkdoemlhjhmfhaa
namespace Abs
set_option linter.unusedVariables false
set_option linter.unusedSimpArgs false
open Go.RowKit

/-- A place that runs have. -/
def InR (R : List (Int × Int)) (p : Int) : Prop := ∃ s ∈ R, s.1 ≤ p ∧ p < s.1 + s.2
theorem inR_nil (p : Int) : ¬ InR [] p := by rintro ⟨s, hs, _⟩; cases hs
theorem inR_cons (s : Int × Int) (l : List (Int × Int)) (p : Int) : InR (s :: l) p ↔ (s.1 ≤ p ∧ p < s.1 + s.2) ∨ InR l p := by
  constructor
  · rintro ⟨t, ht, q⟩
    rcases List.mem_cons.1 ht with e | e
    · subst e; exact .inl q
    · exact .inr ⟨t, e, q⟩
  · rintro (q | ⟨t, ht, q⟩)
    · exact ⟨s, List.mem_cons_self, q⟩
    · exact ⟨t, List.mem_cons_of_mem _ ht, q⟩

def May : Int → List (Int × Int) → Prop
  | _, [] => True
  | last, r :: l => last < r.1 ∧ 1 ≤ r.2 ∧ r.2 ≤ 1073741824 ∧ r.1 + r.2 ≤ 1073741824 ∧ May (r.1 + r.2) l
theorem may_iff : ∀ (R : List (Int × Int)) (last : Int), mayF last R = true ↔ May last R
  | [], last => by simp [mayF, May]
  | r :: l, last => by
    simp only [mayF, May]
    split
    · rename_i h
      constructor
      · intro q; cases q
      · intro q; omega
    · rename_i h
      rw [may_iff l]
      exact ⟨fun q => ⟨by omega, by omega, by omega, by omega, q⟩, fun q => q.2.2.2.2⟩
theorem May.weak : ∀ {R : List (Int × Int)} {a b : Int}, b ≤ a → May a R → May b R
  | [], _, _, _, _ => trivial
  | r :: l, a, b, hab, h => ⟨by have := h.1; omega, h.2⟩
theorem May.sorted : ∀ {R : List (Int × Int)} {a : Int}, May a R → Sorted a R
  | [], _, _ => trivial
  | r :: l, a, h => ⟨h.1, h.2.1, h.2.2.2.2.sorted⟩
theorem May.above : ∀ {R : List (Int × Int)} {a p : Int}, May a R → InR R p → a < p
  | [], _, p, _, q => (inR_nil p q).elim
  | r :: l, a, p, h, q => by
    obtain ⟨h1, h2, h3, h4, h5⟩ := h
    rcases (inR_cons _ _ _).1 q with e | e
    · omega
    · have := h5.above e; omega

/-- A run put in its place. -/
def insF : List (Int × Int) → Int × Int → List (Int × Int)
  | [], r => [r]
  | s :: l, r =>
    if s.1 + s.2 < r.1 then s :: insF l r
    else if s.1 + s.2 = r.1 then match l with
      | [] => [(s.1, s.2 + r.2)]
      | q :: l' => if q.1 = r.1 + r.2 then (s.1, s.2 + r.2 + q.2) :: l' else (s.1, s.2 + r.2) :: q :: l'
    else if s.1 = r.1 + r.2 then (r.1, r.2 + s.2) :: l
    else r :: s :: l
def NoOv (R : List (Int × Int)) (r : Int × Int) : Prop := ∀ s ∈ R, s.1 + s.2 ≤ r.1 ∨ r.1 + r.2 ≤ s.1

theorem refG_ins : ∀ (R A : List (Int × Int)) (r : Int × Int) (last : Int), 1 ≤ r.2 → Sorted last R → NoOv R r → refG A r [] R = some (A ++ insF R r)
  | [], A, r, last, _, _, _ => by simp [refG, insF]
  | s :: l, A, r, last, h1, hs, hn => by
    obtain ⟨q1, q2, q3⟩ := hs
    have hns := hn s List.mem_cons_self
    have hnl : NoOv l r := fun t ht => hn t (List.mem_cons_of_mem _ ht)
    simp only [refG, insF]
    by_cases e1 : s.1 + s.2 < r.1
    · rw [if_pos e1, if_pos e1, refG_ins l (A ++ [s]) r _ h1 q3 hnl]; simp
    · rw [if_neg e1, if_neg e1]
      by_cases e2 : s.1 + s.2 = r.1
      · rw [if_pos e2, if_pos e2, refG_here l A (s.1, s.2 + r.2) s.1 (by simp only; omega) (Int.le_refl _) (q3.weak (by omega))]
        cases l with
        | nil => rfl
        | cons q l' =>
          have hq := hnl q List.mem_cons_self
          have hq1 := q3.1
          have hq2 := q3.2.1
          simp only
          by_cases e3 : q.1 = r.1 + r.2
          · rw [if_pos (show q.1 ≤ s.1 + (s.2 + r.2) by omega), if_neg (show ¬ q.1 < s.1 + (s.2 + r.2) by omega), if_pos e3]; simp
          · rw [if_neg (show ¬ q.1 ≤ s.1 + (s.2 + r.2) by omega), if_neg e3]; simp
      · rw [if_neg e2, if_neg e2]
        by_cases e3 : s.1 = r.1 + r.2
        · rw [if_pos e3, if_pos e3, refG_behind l A [] _ (by simp only; omega) (q3.weak (by simp only; omega))]; simp
        · rw [if_neg e3, if_neg e3, if_pos (show s.1 > r.1 + r.2 by omega), refG_behind l A ([] ++ [s]) r h1 (q3.weak (by omega))]; simp

theorem may_ins : ∀ (R : List (Int × Int)) (r : Int × Int) (last : Int), -1 ≤ last → May last R → last < r.1 → 1 ≤ r.2 → r.1 + r.2 ≤ 1073741824 → NoOv R r → May last (insF R r)
  | [], r, last, h0, _, h1, h2, h3, _ => ⟨h1, h2, by omega, h3, trivial⟩
  | s :: l, r, last, h0, hm, h1, h2, h3, hn => by
    obtain ⟨q1, q2, q3, q4, q5⟩ := hm
    have hns := hn s List.mem_cons_self
    have hnl : NoOv l r := fun t ht => hn t (List.mem_cons_of_mem _ ht)
    simp only [insF]
    split
    · rename_i e; exact ⟨q1, q2, q3, q4, may_ins l r _ (by omega) q5 e h2 h3 hnl⟩
    · split
      · rename_i e1 e2
        cases l with
        | nil => exact ⟨q1, by simp only; omega, by simp only; omega, by simp only; omega, trivial⟩
        | cons q l' =>
          obtain ⟨p1, p2, p3, p4, p5⟩ := q5
          have hq := hnl q List.mem_cons_self
          simp only
          split
          · rename_i e3
            exact ⟨q1, by simp only; omega, by simp only; omega, by simp only; omega, p5.weak (by simp only; omega)⟩
          · rename_i e3
            exact ⟨q1, by simp only; omega, by simp only; omega, by simp only; omega, by simp only; omega, p2, p3, p4, p5⟩
      · split
        · rename_i e1 e2 e3
          exact ⟨h1, by simp only; omega, by simp only; omega, by simp only; omega, q5.weak (by simp only; omega)⟩
        · rename_i e1 e2 e3
          exact ⟨h1, h2, by omega, h3, by omega, q2, q3, q4, q5⟩

theorem in_ins : ∀ (R : List (Int × Int)) (r : Int × Int) (p : Int), (∀ s ∈ R, 1 ≤ s.2) → 1 ≤ r.2 → (InR (insF R r) p ↔ InR R p ∨ (r.1 ≤ p ∧ p < r.1 + r.2))
  | [], r, p, _, _ => by simp only [insF, inR_cons]; constructor <;> rintro (q | q) <;> first | exact .inr q | exact .inl q | exact (inR_nil p q).elim
  | s :: l, r, p, hp, h2 => by
    have hs := hp s List.mem_cons_self
    have hl : ∀ s ∈ l, 1 ≤ s.2 := fun t ht => hp t (List.mem_cons_of_mem _ ht)
    simp only [insF]
    split
    · rw [inR_cons, inR_cons, in_ins l r p hl h2]
      constructor
      · rintro (q | q | q)
        · exact .inl (.inl q)
        · exact .inl (.inr q)
        · exact .inr q
      · rintro ((q | q) | q)
        · exact .inl q
        · exact .inr (.inl q)
        · exact .inr (.inr q)
    · split
      · rename_i e1 e2
        cases l with
        | nil =>
          simp only [inR_cons]
          constructor
          · rintro (q | q)
            · rcases Int.lt_or_le p r.1 with g | g
              · exact .inl (.inl (by omega))
              · exact .inr (by omega)
            · exact (inR_nil p q).elim
          · rintro ((q | q) | q)
            · exact .inl (by omega)
            · exact (inR_nil p q).elim
            · exact .inl (by omega)
        | cons q l' =>
          have hq := hl q List.mem_cons_self
          simp only
          split
          · rename_i e3
            simp only [inR_cons]
            constructor
            · rintro (g | g)
              · by_cases g1 : p < r.1
                · exact .inl (.inl (by omega))
                · by_cases g2 : p < r.1 + r.2
                  · exact .inr (by omega)
                  · exact .inl (.inr (.inl (by omega)))
              · exact .inl (.inr (.inr g))
            · rintro ((g | g | g) | g)
              · exact .inl (by omega)
              · exact .inl (by omega)
              · exact .inr g
              · exact .inl (by omega)
          · rename_i e3
            simp only [inR_cons]
            constructor
            · rintro (g | g | g)
              · by_cases g1 : p < r.1
                · exact .inl (.inl (by omega))
                · exact .inr (by omega)
              · exact .inl (.inr (.inl g))
              · exact .inl (.inr (.inr g))
            · rintro ((g | g | g) | g)
              · exact .inl (by omega)
              · exact .inr (.inl g)
              · exact .inr (.inr g)
              · exact .inl (by omega)
      · split
        · rename_i e1 e2 e3
          simp only [inR_cons]
          constructor
          · rintro (g | g)
            · by_cases g1 : p < r.1 + r.2
              · exact .inr (by omega)
              · exact .inl (.inl (by omega))
            · exact .inl (.inr g)
          · rintro ((g | g) | g)
            · exact .inl (by omega)
            · exact .inr g
            · exact .inl (by omega)
        · simp only [inR_cons]
          constructor
          · rintro (g | g | g)
            · exact .inr g
            · exact .inl (.inl g)
            · exact .inl (.inr g)
          · rintro ((g | g) | g)
            · exact .inr (.inl g)
            · exact .inr (.inr g)
            · exact .inl g

theorem May.pos : ∀ {R : List (Int × Int)} {a : Int}, May a R → ∀ s ∈ R, 1 ≤ s.2
  | [], _, _, _, h => by cases h
  | r :: l, a, h, s, hs => by
    rcases List.mem_cons.1 hs with e | e
    · subst e; exact h.2.1
    · exact h.2.2.2.2.pos s e

/-- Runs are told by their places. -/
theorem may_same : ∀ (R S : List (Int × Int)) (a b : Int), May a R → May b S → (∀ p, InR R p ↔ InR S p) → R = S
  | [], [], _, _, _, _, _ => rfl
  | [], s :: l, _, b, _, hs, h => by
    have := (h s.1).2 ((inR_cons _ _ _).2 (.inl ⟨Int.le_refl _, by have := hs.2.1; omega⟩))
    exact (inR_nil _ this).elim
  | r :: l, [], a, _, hr, _, h => by
    have := (h r.1).1 ((inR_cons _ _ _).2 (.inl ⟨Int.le_refl _, by have := hr.2.1; omega⟩))
    exact (inR_nil _ this).elim
  | r :: l, s :: m, a, b, hr, hs, h => by
    obtain ⟨r1, r2, r3, r4, r5⟩ := hr
    obtain ⟨s1, s2, s3, s4, s5⟩ := hs
    have lowR : ∀ p, InR (r :: l) p → r.1 ≤ p := by
      intro p q
      rcases (inR_cons _ _ _).1 q with e | e
      · exact e.1
      · have := r5.above e; omega
    have lowS : ∀ p, InR (s :: m) p → s.1 ≤ p := by
      intro p q
      rcases (inR_cons _ _ _).1 q with e | e
      · exact e.1
      · have := s5.above e; omega
    have e1 : r.1 = s.1 := by
      have h1 := lowS r.1 ((h r.1).1 ((inR_cons _ _ _).2 (.inl ⟨Int.le_refl _, by omega⟩)))
      have h2 := lowR s.1 ((h s.1).2 ((inR_cons _ _ _).2 (.inl ⟨Int.le_refl _, by omega⟩)))
      omega
    have e2 : r.2 = s.2 := by
      rcases Int.lt_trichotomy r.2 s.2 with q | q | q
      · have := (h (r.1 + r.2)).2 ((inR_cons _ _ _).2 (.inl ⟨by omega, by omega⟩))
        rcases (inR_cons _ _ _).1 this with e | e
        · omega
        · have := r5.above e; omega
      · exact q
      · have := (h (s.1 + s.2)).1 ((inR_cons _ _ _).2 (.inl ⟨by omega, by omega⟩))
        rcases (inR_cons _ _ _).1 this with e | e
        · omega
        · have := s5.above e; omega
    obtain rfl : r = s := Prod.ext e1 e2
    rw [may_same l m _ _ r5 s5 fun p => ?_]
    have hp := h p
    rw [inR_cons, inR_cons] at hp
    constructor
    · intro q
      have := r5.above q
      rcases hp.1 (.inr q) with e | e
      · omega
      · exact e
    · intro q
      have := s5.above q
      rcases hp.2 (.inr q) with e | e
      · omega
      · exact e

theorem add_ins : ∀ (R : List (Int × Int)) (last i : Int), May last R → (∀ s ∈ R, s.1 + s.2 ≤ i) → addF R i = insF R (i, 1)
  | [], _, _, _, _ => rfl
  | [s], _, i, h, hb => by
    have := hb s (by simp)
    simp only [addF, insF, List.getLast?_singleton]
    by_cases e : s.1 + s.2 = i
    · rw [if_pos e, if_neg (by omega), if_pos e]; simp
    · rw [if_neg e, if_pos (by omega)]; simp
  | s :: t :: l, last, i, h, hb => by
    obtain ⟨h1, h2, h3, h4, h5⟩ := h
    have ht := h5.1
    have ht2 := h5.2.1
    have hti := hb t (by simp)
    have ih := add_ins (t :: l) _ i h5 (fun r hr => hb r (List.mem_cons_of_mem _ hr))
    simp only [insF]
    rw [if_pos (by omega)]
    simp only [insF] at ih
    rw [← ih]
    simp only [addF, List.getLast?_cons_cons]
    cases hg : (t :: l).getLast? with
    | none => simp at hg
    | some r =>
      simp only
      split
      · simp
      · simp

theorem of_places : ∀ (U : List Bool) (i : Nat) (R : List (Int × Int)), i + U.length ≤ 1073741824 → May (-1) R → (∀ s ∈ R, s.1 + s.2 ≤ i) → May (-1) (ofF i R U) ∧ ∀ p, InR (ofF i R U) p ↔ InR R p ∨ ∃ k : Nat, p = i + k ∧ U[k]? = some false
  | [], i, R, _, hm, _ => ⟨hm, fun p => by simp [ofF]⟩
  | u :: l, i, R, hi, hm, hb => by
    simp only [List.length_cons] at hi
    simp only [ofF]
    have hcast : ((i : Int) + 1) = ((i + 1 : Nat) : Int) := by omega
    cases u with
    | true =>
      rw [if_pos rfl, hcast]
      obtain ⟨h1, h2⟩ := of_places l (i + 1) R (by omega) hm (fun s hs => by have := hb s hs; omega)
      refine ⟨h1, fun p => ?_⟩
      rw [h2]
      constructor
      · rintro (q | ⟨k, q1, q2⟩)
        · exact .inl q
        · exact .inr ⟨k + 1, by omega, by simpa using q2⟩
      · rintro (q | ⟨k, q1, q2⟩)
        · exact .inl q
        · cases k with
          | zero => simp at q2
          | succ k => exact .inr ⟨k, by omega, by simpa using q2⟩
    | false =>
      rw [if_neg (by simp), hcast, add_ins R (-1) i hm hb]
      have hno : NoOv R ((i : Int), 1) := fun s hs => .inl (hb s hs)
      have hmi := may_ins R ((i : Int), 1) (-1) (by omega) hm (by simp only; omega) (by simp) (by simp only; omega) hno
      have hin := fun p => in_ins R ((i : Int), 1) p hm.pos (by simp)
      have hbi : ∀ s ∈ insF R ((i : Int), 1), s.1 + s.2 ≤ (i + 1 : Nat) := by
        intro s hs
        have h1 := hmi.pos s hs
        have : InR (insF R ((i : Int), 1)) (s.1 + s.2 - 1) := ⟨s, hs, by omega, by omega⟩
        rcases (hin _).1 this with ⟨t, ht, q⟩ | q
        · have := hb t ht; omega
        · simp only at q; omega
      obtain ⟨h1, h2⟩ := of_places l (i + 1) _ (by omega) hmi hbi
      refine ⟨h1, fun p => ?_⟩
      rw [h2, hin]
      constructor
      · rintro ((q | q) | ⟨k, q1, q2⟩)
        · exact .inl q
        · exact .inr ⟨0, by simp only at q; omega, rfl⟩
        · exact .inr ⟨k + 1, by omega, by simpa using q2⟩
      · rintro (q | ⟨k, q1, q2⟩)
        · exact .inl (.inl q)
        · cases k with
          | zero => exact .inl (.inr (by simp only; omega))
          | succ k => exact .inr ⟨k, by omega, by simpa using q2⟩

/-- A place that is not there is given. -/
theorem give_new {R : List (Int × Int)} {p : Int} (hm : May (-1) R) (h0 : 0 ≤ p) (h1 : p + 1 ≤ 1073741824) (hn : ¬ InR R p) : giveF R (p, 1) = (insF R (p, 1), true) := by
  have hno : NoOv R (p, 1) := by
    intro s hs
    have := hm.pos s hs
    simp only
    rcases Int.lt_or_le p (s.1 + s.2) with q | q
    · rcases Int.lt_or_le p s.1 with q2 | q2
      · exact .inr (by omega)
      · exact absurd ⟨s, hs, q2, q⟩ hn
    · exact .inl q
  have hmi := may_ins R (p, 1) (-1) (by omega) hm (by simp only; omega) (by simp) (by simp only; omega) hno
  have hone : mayF (-1) [(p, 1)] = true := (may_iff _ _).2 ⟨by simp only; omega, by simp, by simp, by simp only; omega, trivial⟩
  rw [giveF, if_neg (by rw [(may_iff R (-1)).2 hm, hone]; simp), refG_ins R [] (p, 1) (-1) (by simp) hm.sorted hno]
  simp only [List.nil_append]
  rw [if_pos ((may_iff _ _).2 hmi)]

theorem mod_two {a n : Nat} (h : a < 2 * n) : a % n = if a < n then a else a - n := by
  split
  · rename_i q; exact Nat.mod_eq_of_lt q
  · rename_i q; rw [Nat.mod_eq_sub_mod (by omega), Nat.mod_eq_of_lt (by omega)]
end Abs
end Go.Proofs.Ytkdoemlhjhmfhaa
