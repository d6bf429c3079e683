/- The abstract machine: several lists that grow side by side. -/
import Derived.Test.YtmgbcaboljilnaaGreatDoorA23
namespace Go.Proofs.YtmgbcaboljilnaaGreatDoor
namespace Abs
noncomputable section
set_option linter.unusedVariables false
set_option linter.unusedSimpArgs false
open Go.RowKit

/-- A list lies in another block than c. -/
def Off (x : V) (c : Nat) : Prop := ∀ b o l k z, x = .oslice b o l k z → b ≠ c
theorem Off.nil (c : Nat) : Off (.slice none 0 0) c := by intro b o l k z h; cases h

/-- A list stays where its block stays. -/
theorem Grown.frame {h h' : Heap} {low sz : Nat} {x : V} {es : List (List V)} (g : Grown h low sz x es) (hf : ∀ b o, h.get b = some o → (∀ o2 l k z, x = .oslice b o2 l k z → h'.get b = some o)) : Grown h' low sz x es := by
  obtain ⟨g1, g2 | ⟨b, S, ty, q1, q2, q3, q4⟩⟩ := g
  · exact ⟨g1, .inl g2⟩
  · exact ⟨g1, .inr ⟨b, S, ty, q1, q2, q3, hf b _ q4 0 es.length es.length sz q1⟩⟩

/-- Appending changes the list's own block alone, and makes one. -/
theorem Grown.append2 {h0 h : Heap} {sz bytes : Nat} {tyK : Option Nat} {x y : V} {es fs : List (List V)} (hw0 : Wf h0) (g : Grow h0 h) (s : Grown h h0.size sz x es) (t : Sl h sz y fs) (hsz : sz ≠ 0) (hb : bytes ≠ 0) (hr : roomy (es.length + fs.length) bytes = true) (h1 : ∀ c ∈ fs, ∀ v ∈ c, V.one v = true) :
    ∃ v h', appendA h sz bytes tyK x y = some (v, h') ∧ Grown h' h0.size sz v (es ++ fs) ∧ Grow h0 h' ∧ (∀ b o, h.get b = some o → Off x b → h'.get b = some o) ∧ (∀ c, c < h.size → Off x c → Off v c) := by
  have hw := g.wf
  have hlen := flat_len t.1
  have hone : fs.flatten.all V.one = true := by
    rw [List.all_eq_true]; intro v hv
    obtain ⟨c, hc, hv⟩ := List.mem_flatten.1 hv
    exact h1 c hc v hv
  have hA : appendA h sz bytes tyK x y = appendCore h sz bytes tyK x fs.length fs.flatten := by
    simp only [appendA, t.len, t.cells]
    rw [if_pos ⟨hsz, hb, hlen, hone⟩]
  rw [hA]
  have hall : ∀ c ∈ es ++ fs, c.length = sz := by
    intro c hc
    rcases List.mem_append.1 hc with q | q
    · exact s.1 c q
    · exact t.1 c q
  have hpush : ∀ (h2 : Heap) o, h2.size = h.size → ∀ b o', b < h.size → h2.get b = some o' → (h2.push o).get b = some o' := by
    intro h2 o hs b o' hb' hg
    rw [get_push, if_neg (by omega)]; exact hg
  obtain ⟨s1, ⟨rfl, rfl⟩ | ⟨b, S, ty, rfl, q2, q3, q4⟩⟩ := s
  · by_cases hf : fs = []
    · subst hf
      exact ⟨_, _, rfl, ⟨by simp, .inl ⟨rfl, rfl⟩⟩, g, fun b o hg _ => hg, fun c _ ho => ho⟩
    · have hn : fs.length ≠ 0 := by intro e; exact hf (List.length_eq_zero_iff.1 e)
      simp only [List.length_nil, Nat.zero_add] at hr
      refine ⟨.oslice h.size 0 fs.length fs.length sz, h.push (.cells fs.flatten (.tip [] 0 tyK)), ?_, ⟨hall, .inr ⟨h.size, [], tyK, rfl, hf, ⟨g.size, by simp⟩, ?_⟩⟩, g.push _, fun b o hg _ => hpush h _ rfl b o (Wf.lt hw hg) hg, ?_⟩
      · simp only [appendCore, if_neg hn, hr, if_true]
      · rw [get_push, if_pos rfl]; rfl
      · intro c hc _ b o l k z e; cases e; omega
  · by_cases hf : fs = []
    · subst hf
      refine ⟨.oslice b 0 es.length es.length sz, h, ?_, ?_, g, fun b o hg _ => hg, fun c _ ho => ho⟩
      · simp [appendCore]
      · rw [List.append_nil]; exact ⟨s1, .inr ⟨b, S, ty, rfl, q2, q3, q4⟩⟩
    · have hn : fs.length ≠ 0 := by intro e; exact hf (List.length_eq_zero_iff.1 e)
      have hn2 : es.length ≠ 0 := by intro e; exact q2 (List.length_eq_zero_iff.1 e)
      have hbs : b < h.size := Wf.lt hw q4
      have hfl := flat_len s1
      refine ⟨.oslice h.size 0 (es.length + fs.length) (es.length + fs.length) sz, (h.put b (.cells es.flatten .sup)).push (.cells (es.flatten ++ fs.flatten) (.tip (b :: S) 0 (joinTy tyK ty 0))), ?_, ⟨hall, .inr ⟨h.size, b :: S, joinTy tyK ty 0, ?_, by simp [hf], ⟨g.size, ?_⟩, ?_⟩⟩, (g.put q3.1 hbs hw0 _).push _, ?_, ?_⟩
      · simp only [appendCore]
        rw [if_neg (by omega), if_pos ⟨trivial, hn2, hr⟩, q4]
        simp only
        rw [if_pos ⟨by omega, by omega⟩]
        simp
      · rw [List.length_append]
      · intro s hs; rcases List.mem_cons.1 hs with e | e
        · subst e; exact q3.1
        · exact q3.2 s e
      · rw [get_push, if_pos (by rfl), List.flatten_append]
      · intro b' o hg ho
        have hne : b' ≠ b := fun e => ho b 0 es.length es.length sz rfl e.symm
        exact hpush (h.put b (.cells es.flatten .sup)) _ rfl b' o (Wf.lt hw hg) (by rw [get_put, if_neg hne]; exact hg)
      · intro c hc _ b' o l k z e; cases e; omega
end
end Abs
end Go.Proofs.YtmgbcaboljilnaaGreatDoor
