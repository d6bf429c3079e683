/- The abstract machine: parts of slices, and appending to them. -/
import Derived.Test.YtmgbcaboljilnaaGreatDoorA21
namespace Go.Proofs.YtmgbcaboljilnaaGreatDoor
namespace Abs
noncomputable section
set_option linter.unusedVariables false
set_option linter.unusedSimpArgs false
open Go.RowKit

/-- A slice without room behind it. -/
def Fit (h : Heap) (sz : Nat) (x : V) (es : List (List V)) : Prop := Sl h sz x es ∧ ∃ a, x = .slice a es.length es.length

theorem rds_take {h : Heap} {b o sz i : Nat} {es : List (List V)} (hl : ∀ c ∈ es, c.length = sz) (hi : i ≤ es.length) (hr : h.rds b o (es.length * sz) = some es.flatten) : h.rds b (o + 0 * sz) ((es.take i).length * sz) = some (es.take i).flatten := by
  have hn : (es.take i).length = i := by rw [List.length_take]; omega
  have := rds_part hr 0 (i * sz) (by have := Nat.mul_le_mul_right sz hi; omega)
  rw [hn, Nat.zero_mul]
  rw [this, List.drop_zero, flat_take hl]
theorem rds_drop {h : Heap} {b o sz i : Nat} {es : List (List V)} (hl : ∀ c ∈ es, c.length = sz) (hi : i ≤ es.length) (hr : h.rds b o (es.length * sz) = some es.flatten) : h.rds b (o + i * sz) ((es.drop i).length * sz) = some (es.drop i).flatten := by
  have hn : (es.drop i).length = es.length - i := by rw [List.length_drop]
  have hm : i * sz + (es.length - i) * sz = es.length * sz := by rw [← Nat.add_mul]; congr 1; omega
  have := rds_part hr (i * sz) ((es.length - i) * sz) (by omega)
  rw [hn, this, flat_drop hl, List.take_of_length_le]
  rw [flat_len (fun c hc => hl c (List.mem_of_mem_drop hc)), hn]; exact Nat.le_refl _

theorem Sl.take3 {h : Heap} {sz : Nat} {x : V} {es : List (List V)} (s : Sl h sz x es) {i : Nat} (hi : i ≤ es.length) : ∃ v, sliceSlA sz x none (some (.int .i64 i)) (some (.int .i64 i)) = some v ∧ Fit h sz v (es.take i) := by
  have hn : (es.take i).length = i := by rw [List.length_take]; omega
  have hl : ∀ c ∈ es.take i, c.length = sz := fun c hc => s.1 c (List.mem_of_mem_take hc)
  have h2 := s.2
  split at h2
  · obtain ⟨rfl, rfl, rfl⟩ := h2
    have : i = 0 := by simpa using hi
    subst this
    exact ⟨.slice none 0 0, by simp [sliceSlA, intV, boundsA], by simpa using Sl.nil h sz, none, by simp⟩
  · rename_i b o l c
    obtain ⟨rfl, q1, q2⟩ := h2
    refine ⟨.slice (some (b, o + 0 * sz)) i i, ?_, ⟨hl, hn.symm, Nat.le_refl _, fun hne => ?_⟩, _, by rw [hn]⟩
    · simp only [sliceSlA, intV]
      rw [if_pos ⟨by omega, by omega, rfl⟩]
      simp only [boundsA, intV, Int.toNat_natCast]
      rw [if_pos ⟨by omega, by omega⟩]; simp
    · exact rds_take s.1 hi (q2 (by intro e; subst e; simp at hne))
  · rename_i b o l c z
    obtain ⟨rfl, q1, q3, q2⟩ := h2
    refine ⟨.slice (some (b, o + 0 * sz)) i i, ?_, ⟨hl, hn.symm, Nat.le_refl _, fun hne => ?_⟩, _, by rw [hn]⟩
    · simp only [sliceSlA, intV]
      rw [if_pos q3, if_pos ⟨by omega, by omega, rfl⟩]
      simp only [boundsA, intV, Int.toNat_natCast]
      rw [if_pos ⟨by omega, by omega⟩]; simp
    · exact rds_take s.1 hi (q2 (by intro e; subst e; simp at hne))
  · exact h2.elim
theorem Sl.take2 {h : Heap} {sz : Nat} {x : V} {es : List (List V)} (s : Sl h sz x es) {i : Nat} (hi : i ≤ es.length) : ∃ v, sliceSlA sz x none (some (.int .i64 i)) none = some v ∧ Sl h sz v (es.take i) := by
  have hn : (es.take i).length = i := by rw [List.length_take]; omega
  have hl : ∀ c ∈ es.take i, c.length = sz := fun c hc => s.1 c (List.mem_of_mem_take hc)
  have h2 := s.2
  split at h2
  · obtain ⟨rfl, rfl, rfl⟩ := h2
    have : i = 0 := by simpa using hi
    subst this
    exact ⟨.slice none 0 0, by simp [sliceSlA, intV, boundsA], by simpa using Sl.nil h sz⟩
  · rename_i b o l c
    obtain ⟨rfl, q1, q2⟩ := h2
    refine ⟨.slice (some (b, o + 0 * sz)) i c, ?_, ⟨hl, hn.symm, by omega, fun hne => ?_⟩⟩
    · simp only [sliceSlA, boundsA, intV]
      rw [if_pos ⟨by omega, by omega⟩]; simp
    · exact rds_take s.1 hi (q2 (by intro e; subst e; simp at hne))
  · rename_i b o l c z
    obtain ⟨rfl, q1, q3, q2⟩ := h2
    refine ⟨.oslice b (o + 0 * sz) i c z, ?_, ⟨hl, hn.symm, by omega, q3, fun hne => ?_⟩⟩
    · simp only [sliceSlA, boundsA, intV]
      rw [if_pos q3, if_pos ⟨by omega, by omega⟩]; simp
    · exact rds_take s.1 hi (q2 (by intro e; subst e; simp at hne))
  · exact h2.elim
theorem Sl.drop1 {h : Heap} {sz : Nat} {x : V} {es : List (List V)} (s : Sl h sz x es) {i : Nat} (hi : i ≤ es.length) : ∃ v, sliceSlA sz x (some (.int .i64 i)) none none = some v ∧ Sl h sz v (es.drop i) := by
  have hn : (es.drop i).length = es.length - i := by rw [List.length_drop]
  have hl : ∀ c ∈ es.drop i, c.length = sz := fun c hc => s.1 c (List.mem_of_mem_drop hc)
  have h2 := s.2
  split at h2
  · obtain ⟨rfl, rfl, rfl⟩ := h2
    have : i = 0 := by simpa using hi
    subst this
    exact ⟨.slice none 0 0, by simp [sliceSlA, intV, boundsA], by simpa using Sl.nil h sz⟩
  · rename_i b o l c
    obtain ⟨rfl, q1, q2⟩ := h2
    refine ⟨.slice (some (b, o + i * sz)) (es.length - i) (c - i), ?_, ⟨hl, hn.symm, by omega, fun hne => ?_⟩⟩
    · simp only [sliceSlA, boundsA, intV]
      rw [if_pos ⟨by omega, by omega⟩]; simp
    · exact rds_drop s.1 hi (q2 (by intro e; subst e; simp at hne))
  · rename_i b o l c z
    obtain ⟨rfl, q1, q3, q2⟩ := h2
    refine ⟨.oslice b (o + i * sz) (es.length - i) (c - i) z, ?_, ⟨hl, hn.symm, by omega, q3, fun hne => ?_⟩⟩
    · simp only [sliceSlA, boundsA, intV]
      rw [if_pos q3, if_pos ⟨by omega, by omega⟩]; simp
    · exact rds_drop s.1 hi (q2 (by intro e; subst e; simp at hne))
  · exact h2.elim

theorem Fit.append {h0 h : Heap} {sz bytes : Nat} {tyK : Option Nat} {x y : V} {es fs : List (List V)} (g : Grow h0 h) (s : Fit h sz x es) (t : Sl h sz y fs) (hsz : sz ≠ 0) (hb : bytes ≠ 0) (hr : roomy (es.length + fs.length) bytes = true) (h1 : ∀ c ∈ fs, ∀ v ∈ c, V.one v = true) :
    ∃ v h', appendA h sz bytes tyK x y = some (v, h') ∧ Grow h0 h' ∧ ((fs = [] ∧ v = x ∧ h' = h) ∨ Grown h' h0.size sz v (es ++ fs)) := by
  have hlen := flat_len t.1
  have hone : fs.flatten.all V.one = true := by
    rw [List.all_eq_true]; intro v hv
    obtain ⟨c, hc, hv⟩ := List.mem_flatten.1 hv
    exact h1 c hc v hv
  have hA : appendA h sz bytes tyK x y = appendCore h sz bytes tyK x fs.length fs.flatten := by
    simp only [appendA, t.len, t.cells]
    rw [if_pos ⟨hsz, hb, hlen, hone⟩]
  rw [hA]
  obtain ⟨s, a, rfl⟩ := s
  have hall : ∀ c ∈ es ++ fs, c.length = sz := by
    intro c hc
    rcases List.mem_append.1 hc with q | q
    · exact s.1 c q
    · exact t.1 c q
  have hcells := s.cells
  by_cases hf : fs = []
  · subst hf
    refine ⟨_, _, ?_, g, .inl ⟨rfl, rfl, rfl⟩⟩
    cases a with
    | none =>
      have := s.2
      simp only at this
      simp [appendCore, this.1]
    | some p => obtain ⟨b, o⟩ := p; simp [appendCore]
  have hn : fs.length ≠ 0 := by intro e; exact hf (List.length_eq_zero_iff.1 e)
  cases a with
  | none =>
    have h2 := s.2
    simp only at h2
    obtain ⟨_, _, rfl⟩ := h2
    simp only [List.length_nil, Nat.zero_add] at hr
    refine ⟨.oslice h.size 0 fs.length fs.length sz, h.push (.cells fs.flatten (.tip [] 0 tyK)), ?_, g.push _, .inr ⟨hall, .inr ⟨h.size, [], tyK, rfl, by simpa using hf, ⟨g.size, by simp⟩, ?_⟩⟩⟩
    · simp only [appendCore, if_neg hn, hr, if_true]
    · rw [get_push_self]; rfl
  | some p =>
    obtain ⟨b, o⟩ := p
    refine ⟨.oslice h.size 0 (es.length + fs.length) (es.length + fs.length) sz, h.push (.cells (es.flatten ++ fs.flatten) (.tip [] 0 tyK)), ?_, g.push _, .inr ⟨hall, .inr ⟨h.size, [], tyK, by rw [List.length_append], by simp [hf], ⟨g.size, by simp⟩, ?_⟩⟩⟩
    · simp only [appendCore]
      rw [if_neg (by omega), if_pos hr, hcells]
    · rw [get_push_self, List.flatten_append]
/-- Two lists are appended, one behind the other. -/
theorem two_append {h0 h : Heap} {sz bytes : Nat} {tyK : Option Nat} {x y z : V} {es fs gs : List (List V)} (hw0 : Wf h0) (g : Grow h0 h) (s : Fit h sz x es) (t : Sl h sz y fs) (u : Sl h sz z gs) (hsz : sz ≠ 0) (hb : bytes ≠ 0) (hr : roomy (es.length + fs.length + gs.length) bytes = true) (hr1 : roomy (es.length + fs.length) bytes = true) (h1 : ∀ c ∈ fs, ∀ v ∈ c, V.one v = true) (h2 : ∀ c ∈ gs, ∀ v ∈ c, V.one v = true) :
    ∃ v1 h1 v2 h2, appendA h sz bytes tyK x y = some (v1, h1) ∧ Grow h0 h1 ∧ appendA h1 sz bytes tyK v1 z = some (v2, h2) ∧ Grow h0 h2 ∧ Sl h2 sz v2 (es ++ fs ++ gs) := by
  have gh : Grow h h := Grow.refl g.wf
  obtain ⟨v1, h1', p1, p2, p3⟩ := s.append gh t hsz hb hr1 h1
  have u' := u.grow p2
  have g1 := g.trans p2
  rcases p3 with ⟨rfl, rfl, rfl⟩ | p3
  · simp only [List.length_nil, Nat.add_zero] at hr
    obtain ⟨v2, h2', q1, q2, q3⟩ := s.append g u hsz hb hr h2
    refine ⟨_, _, v2, h2', p1, g, q1, q2, ?_⟩
    rcases q3 with ⟨rfl, rfl, rfl⟩ | q3
    · simpa using s.1
    · simpa using q3.sl
  · have p3' : Grown h1' h0.size sz v1 (es ++ fs) := by
      obtain ⟨w1, w2 | ⟨b, S, ty, w3, w4, w5, w6⟩⟩ := p3
      · exact ⟨w1, .inl w2⟩
      · exact ⟨w1, .inr ⟨b, S, ty, w3, w4, ⟨Nat.le_trans g.size w5.1, fun s hs => Nat.le_trans g.size (w5.2 s hs)⟩, w6⟩⟩
    obtain ⟨v2, h2', q1, q2, q3⟩ := Grown.append hw0 g1 p3' u' hsz hb (by rw [List.length_append]; exact hr) h2
    exact ⟨v1, h1', v2, h2', p1, g1, q1, q3, q2.sl⟩
end
end Abs
end Go.Proofs.YtmgbcaboljilnaaGreatDoor
