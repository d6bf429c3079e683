/- Layer 7: a run given to runs: the plain law that both ways of the text come to. -/
import Derived.Test.YtkdoemlhjhmfhaaC12
namespace Go.Proofs.Ytkdoemlhjhmfhaa
namespace Abs
set_option linter.unusedVariables false
set_option linter.unusedSimpArgs false
open Go.RowKit

/-- The run joined to those it touches, at a place. -/
def joinF (R : List (Int × Int)) (i : Nat) (r : Int × Int) : Option (List (Int × Int)) :=
  let one : Option (Nat × (Int × Int)) := match (if 0 < i then R[i - 1]? else none) with
    | some p => if p.1 + p.2 ≥ r.1 then (if p.1 + p.2 > r.1 then none else some (i - 1, (p.1, p.2 + r.2))) else some (i, r)
    | none => some (i, r)
  match one with
  | none => none
  | some (frm, r1) => match R[i]? with
    | some q => if q.1 ≤ r1.1 + r1.2 then (if q.1 < r1.1 + r1.2 then none else some (R.take frm ++ [(r1.1, r1.2 + q.2)] ++ R.drop (i + 1))) else some (R.take frm ++ [r1] ++ R.drop i)
    | none => some (R.take frm ++ [r1] ++ R.drop i)
/-- As the document goes: one by one. -/
def refG : List (Int × Int) → Int × Int → List (Int × Int) → List (Int × Int) → Option (List (Int × Int))
  | A, r, B, [] => some (A ++ [r] ++ B)
  | A, r, B, s :: l =>
    if s.1 + s.2 < r.1 then refG (A ++ [s]) r B l
    else if s.1 + s.2 = r.1 then refG A (s.1, s.2 + r.2) B l
    else if s.1 = r.1 + r.2 then refG A (r.1, r.2 + s.2) B l
    else if s.1 > r.1 + r.2 then refG A r (B ++ [s]) l
    else none

/-- Runs that lie behind one another, with room between. -/
def Sorted : Int → List (Int × Int) → Prop
  | _, [] => True
  | last, r :: l => last < r.1 ∧ 1 ≤ r.2 ∧ Sorted (r.1 + r.2) l
theorem Sorted.of_may : ∀ (R : List (Int × Int)) (last : Int), mayF last R = true → Sorted last R
  | [], _, _ => trivial
  | r :: l, last, h => by
    simp only [mayF] at h
    split at h
    · cases h
    · exact ⟨by omega, by omega, Sorted.of_may l _ h⟩
theorem Sorted.weak : ∀ {R : List (Int × Int)} {a b : Int}, b ≤ a → Sorted a R → Sorted b R
  | [], _, _, _, _ => trivial
  | r :: l, a, b, hab, h => ⟨by have := h.1; omega, h.2.1, h.2.2⟩

/-- All behind. -/
theorem refG_behind : ∀ (R : List (Int × Int)) (A B : List (Int × Int)) (r : Int × Int), 1 ≤ r.2 → Sorted (r.1 + r.2) R → refG A r B R = some (A ++ [r] ++ B ++ R)
  | [], A, B, r, _, _ => by simp [refG]
  | s :: l, A, B, r, h1, h => by
    obtain ⟨q1, q2, q3⟩ := h
    simp only [refG]
    rw [if_neg (by omega), if_neg (by omega), if_neg (by omega), if_pos (by omega)]
    rw [refG_behind l A (B ++ [s]) r h1 (q3.weak (by omega))]
    simp
/-- The runs from the place on, behind what is ahead. -/
theorem refG_here (R : List (Int × Int)) (A : List (Int × Int)) (r : Int × Int) (a : Int) (h1 : 1 ≤ r.2) (hr : r.1 ≤ a) (hs : Sorted (a - 1) R) :
    refG A r [] R = match R with
      | [] => some (A ++ [r])
      | q :: l => if q.1 ≤ r.1 + r.2 then (if q.1 < r.1 + r.2 then none else some (A ++ [(r.1, r.2 + q.2)] ++ l)) else some (A ++ [r] ++ q :: l) := by
  cases R with
  | nil => simp [refG]
  | cons q l =>
    obtain ⟨q1, q2, q3⟩ := hs
    simp only [refG]
    rw [if_neg (by omega), if_neg (by omega)]
    by_cases e1 : q.1 = r.1 + r.2
    · rw [if_pos e1, if_pos (by omega), if_neg (by omega), refG_behind l A [] _ (by simp only; omega) (q3.weak (by simp only; omega))]
      simp
    · rw [if_neg e1]
      by_cases e2 : q.1 > r.1 + r.2
      · rw [if_pos e2, if_neg (by omega), refG_behind l A ([] ++ [q]) r h1 (q3.weak (by omega))]
        simp
      · rw [if_neg e2, if_pos (by omega), if_pos (by omega)]

theorem joinF_cons (s : Int × Int) (l : List (Int × Int)) (i : Nat) (r : Int × Int) : joinF (s :: l) (i + 2) r = (joinF l (i + 1) r).map (s :: ·) := by
  simp only [joinF, Nat.add_sub_cancel, Nat.zero_lt_succ, if_true, List.getElem?_cons_succ, show i + 2 - 1 = i + 1 from rfl]
  cases h1 : l[i]? with
  | none =>
    simp only [List.getElem?_cons_succ]
    cases h2 : l[i + 1]? with
    | none => simp
    | some q => simp only; split <;> (try split) <;> simp
  | some p =>
    simp only
    by_cases e1 : p.1 + p.2 ≥ r.1
    · rw [if_pos e1, if_pos e1]
      by_cases e2 : p.1 + p.2 > r.1
      · rw [if_pos e2, if_pos e2]; rfl
      · rw [if_neg e2, if_neg e2]
        simp only
        cases h2 : l[i + 1]? with
        | none => simp
        | some q => simp only; split <;> (try split) <;> simp
    · rw [if_neg e1, if_neg e1]
      simp only
      cases h2 : l[i + 1]? with
      | none => simp
      | some q => simp only; split <;> (try split) <;> simp

theorem refG_join : ∀ (R : List (Int × Int)) (A : List (Int × Int)) (r : Int × Int) (i : Nat) (last : Int), 1 ≤ r.2 → Sorted last R → Cut R r.1 i → refG A r [] R = (joinF R i r).map (A ++ ·)
  | R, A, r, 0, last, h1, hs, hc => by
    have hs2 : Sorted (r.1 - 1) R := by
      cases R with
      | nil => trivial
      | cons q l => exact ⟨by have := hc.2.2 0 q (Nat.le_refl _) rfl; omega, hs.2⟩
    rw [refG_here R A r r.1 h1 (Int.le_refl _) hs2]
    simp only [joinF, Nat.lt_irrefl, if_false]
    cases R with
    | nil => simp
    | cons q l =>
      simp only [List.getElem?_cons_zero]
      split <;> (try split) <;> simp
  | [], A, r, i + 1, last, h1, hs, hc => by have := hc.1; simp at this
  | s :: l, A, r, 1, last, h1, hs, hc => by
    obtain ⟨q1, q2, q3⟩ := hs
    have hsr := hc.2.1 0 s (by omega) rfl
    have hl2 : ∀ q ∈ l, r.1 ≤ q.1 := by
      intro q hq
      obtain ⟨j, hj⟩ := List.getElem?_of_mem hq
      exact hc.2.2 (j + 1) q (by omega) (by simpa using hj)
    have hs2 : Sorted (r.1 - 1) l := by
      cases l with
      | nil => trivial
      | cons q l => exact ⟨by have := hl2 q List.mem_cons_self; omega, q3.2⟩
    simp only [refG]
    simp only [joinF, Nat.zero_lt_succ, if_true, Nat.sub_self, List.getElem?_cons_zero]
    by_cases e1 : s.1 + s.2 < r.1
    · rw [if_pos e1, if_neg (show ¬ s.1 + s.2 ≥ r.1 by omega), refG_here l (A ++ [s]) r r.1 h1 (Int.le_refl _) hs2]
      cases l with
      | nil => simp
      | cons q l => simp only [List.getElem?_cons_succ, List.getElem?_cons_zero]; split <;> (try split) <;> simp
    · rw [if_neg e1, if_pos (show s.1 + s.2 ≥ r.1 by omega)]
      by_cases e2 : s.1 + s.2 = r.1
      · rw [if_pos e2, if_neg (show ¬ s.1 + s.2 > r.1 by omega), refG_here l A (s.1, s.2 + r.2) r.1 (by simp only; omega) (by simp only; omega) hs2]
        cases l with
        | nil => simp
        | cons q l => simp only [List.getElem?_cons_succ, List.getElem?_cons_zero]; split <;> (try split) <;> simp
      · rw [if_neg e2, if_neg (show ¬ s.1 = r.1 + r.2 by omega), if_neg (show ¬ s.1 > r.1 + r.2 by omega), if_pos (show s.1 + s.2 > r.1 by omega)]; rfl
  | s :: l, A, r, i + 2, last, h1, hs, hc => by
    obtain ⟨q1, q2, q3⟩ := hs
    have hlen : i + 1 < l.length + 1 := by have := hc.1; simp at this; omega
    have hcl : Cut l r.1 (i + 1) := ⟨by omega, fun j q hj hq => hc.2.1 (j + 1) q (by omega) (by simpa using hq), fun j q hj hq => hc.2.2 (j + 1) q (by omega) (by simpa using hq)⟩
    have hnext : s.1 + s.2 < r.1 := by
      cases l with
      | nil => simp at hlen
      | cons q l =>
        have a1 := q3.1
        have a2 := hc.2.1 1 q (by omega) rfl
        omega
    simp only [refG]
    rw [if_pos hnext, refG_join l (A ++ [s]) r (i + 1) _ h1 q3 hcl, joinF_cons]
    cases joinF l (i + 1) r <;> simp
end Abs
end Go.Proofs.Ytkdoemlhjhmfhaa
