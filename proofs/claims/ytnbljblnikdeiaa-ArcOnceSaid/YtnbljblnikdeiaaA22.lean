/- The abstract machine: slices that came in. -/
import Derived.Test.YtnbljblnikdeiaaA21
import Derived.ChangeArms
import Derived.ChangeSame
import Derived.WideShapes
namespace Go.Proofs.Ytnbljblnikdeiaa
namespace Abs
set_option linter.unusedVariables false
set_option linter.unusedSimpArgs false
open Go.RowKit

theorem VRs.at {ρ : Rho} : ∀ {x : List V} {a : List Value}, VRs ρ x a → ∀ {i : Nat} {v : V}, x[i]? = some v → ∃ u, a[i]? = some u ∧ VR ρ v u
  | _, _, .nil, i, v, h => by simp at h
  | _, _, .cons v0 u0 x a h0 t, 0, v, h => by simp at h; subst h; exact ⟨u0, by simp, h0⟩
  | _, _, .cons v0 u0 x a h0 t, i + 1, v, h => by simp at h; obtain ⟨u, q1, q2⟩ := VRs.at t h; exact ⟨u, by simpa using q1, q2⟩
theorem noRho_le (ρ : Rho) : RLe noRho ρ := by intro b e h; cases h

theorem Rel.addRo {w : World} {ρ : Rho} {h : Heap} (r : Rel w.heap.size w ρ h w) (e : Emb) (cs : List V) (hb : e.blk < w.heap.size) (hc : CellFacts ρ w e cs) :
    Rel w.heap.size w (fun b => if b = h.size then some e else ρ b) (h.push (.cells cs .ro)) w ∧ RLe ρ (fun b => if b = h.size then some e else ρ b) := by
  have hle : RLe ρ (fun b => if b = h.size then some e else ρ b) := by
    intro b f hf
    have := r.dom b f hf
    simp only
    rw [if_neg (by omega)]; exact hf
  refine ⟨⟨?_, ?_, ?_, ?_, ?_, r.below, r.base⟩, hle⟩
  · intro b f hf
    split at hf
    · simp only [Heap.push]; omega
    · have := r.dom b f hf; simp only [Heap.push]; omega
  · intro b f hf
    split at hf
    · rename_i q; cases hf; subst q
      exact ⟨_, get_push_self _ _, hb, hc.mono hle⟩
    · rename_i q
      obtain ⟨o, q1, q2⟩ := r.obj b f hf
      exact ⟨o, by rw [get_push, if_neg q]; exact q1, q2.mono hle⟩
  · intro b b' f f' o o' S h1 h2 hne h3 h4 h5 h6 h7
    rw [get_push] at h3 h5
    split at h1
    · rename_i q
      rw [if_pos q] at h3; cases h3; cases h4
    · rename_i q
      rw [if_neg q] at h3
      split at h2
      · rename_i q2
        rw [if_pos q2] at h5; cases h5; cases h2
        obtain ⟨o2, g1, g2⟩ := r.obj b f h1
        rw [h3] at g1; cases g1
        exfalso
        cases o with
        | cells cs1 st =>
          cases st with
          | ro => cases h4
          | sup => cases h4
          | tip S1 fz => have := g2.1; omega
        | map es => have := g2.1; omega
        | dead => cases h4
      · rename_i q2
        rw [if_neg q2] at h5
        exact r.sep b b' f f' o o' S h1 h2 hne h3 h4 h5 h6 h7
  · intro b f o h1 h2 h3
    rw [get_push] at h2
    split at h1
    · cases h1; exact hb
    · rename_i q
      rw [if_neg q] at h2
      exact r.live b f o h1 h2 h3
  · intro b hb'
    simp only [Heap.push] at hb'
    rw [get_push, if_neg (by omega)]
    exact r.fresh b (by omega)

section
variable {H : Type} {enc : TypeId × Value → H} {P : Program} {w : World} {spare : Nat → Bool} {held : Bool}

/-- A slice that came in, as the abstract machine sees it. -/
theorem open_sl {rc : Reach} {b0 : Nat} {t e : TypeId} {sz : Nat} {v : Value} {d : DataW H} {ps : List MemPlace} (ht : P.underlying t = some (.slice e)) (hc : P.cellsOf e = sz) (hval : Value.okWide P w rc b0 t v) (hd : DataW.Trod enc P w 0 spare held t v d ps)
    (φ : List V → Prop) (hel : ∀ n cs y, DataW.trod enc P w 0 spare held n e cs = some y → ∃ vs, VRs noRho vs cs ∧ vs.length = sz ∧ φ vs) {ρ : Rho} {h : Heap} (r : Rel w.heap.size w ρ h w) :
    ∃ ρ' h' x es, Rel w.heap.size w ρ' h' w ∧ RLe ρ ρ' ∧ Grow h h' ∧ VR ρ' x v ∧ Sl h' sz x es ∧ (∀ c ∈ es, φ c) ∧ es.length ≤ maxLen := by
  obtain ⟨a0, len, cap, rfl⟩ := Go.WideShapes.okWide_slice ht hval
  obtain ⟨fuel, hf⟩ := hd
  rcases DataW.trod_slice ht hf with ⟨h0, _⟩ | ⟨a, len', cap', elems, rest, n, _, h0, _, _, hl, hm, hlen, he, _, _⟩
  · simp [Value.cells] at h0
    obtain ⟨rfl, rfl, rfl⟩ := h0
    exact ⟨ρ, h, .slice none 0 0, [], r, fun _ _ q => q, Grow.refl r.fresh, .sliceNil, Sl.nil h sz, by simp, by simp [maxLen]⟩
  simp [Value.cells] at h0
  obtain ⟨rfl, rfl, rfl⟩ := h0
  have hhas : w.has P rc b0 a e cap := by
    simp only [Value.okWide, ht, Cell.okWide, Cell.ok] at hval
    exact hval.2.2
  obtain ⟨_, hspot, row, cells, hshape, _⟩ := hhas
  have hblk : a.block < w.heap.size := by
    unfold World.shape? at hshape
    split at hshape
    · rename_i q; exact (Array.getElem?_eq_some_iff.1 q).1
    · cases hshape
  have ha : a = at_ ⟨a.block, a.off, 0⟩ 0 := by
    cases a; simp only at hspot; subst hspot; rfl
  have key : ∀ m, m ≤ len → ∃ es : List (List V), es.length = m ∧ (∀ c ∈ es, c.length = sz ∧ φ c) ∧ ∀ j v, es.flatten[j]? = some v → ∃ u, w.cell? (at_ ⟨a.block, a.off, 0⟩ j) = some u ∧ VR noRho v u := by
    intro m
    induction m with
    | zero => intro _; exact ⟨[], rfl, by simp, by simp⟩
    | succ m ih =>
      intro hm'
      obtain ⟨es, q1, q2, q3⟩ := ih (by omega)
      have hi := he m (by omega)
      have hel' : elems[m]? = some elems[m] := List.getElem?_eq_getElem (by omega)
      rw [hel', Option.bind_eq_some_iff] at hi
      obtain ⟨cs, g1, g2⟩ := hi
      obtain ⟨vs, p1, p2, p3⟩ := hel _ _ _ g2
      rw [hc] at g1
      obtain ⟨_, g3, g4⟩ := World.cells?_some g1
      refine ⟨es ++ [vs], by simp [q1], ?_, ?_⟩
      · intro c hcm
        rcases List.mem_append.1 hcm with q | q
        · exact q2 c q
        · simp at q; subst q; exact ⟨p2, p3⟩
      · intro j v hj
        have hfl := flat_len (fun c hc => (q2 c hc).1)
        rw [List.flatten_append, List.flatten_cons, List.flatten_nil, List.append_nil] at hj
        by_cases hjl : j < es.flatten.length
        · rw [List.getElem?_append_left hjl] at hj; exact q3 j v hj
        · rw [List.getElem?_append_right (by omega)] at hj
          obtain ⟨u, s1, s2⟩ := VRs.at p1 hj
          refine ⟨u, ?_, s2⟩
          have hlt : j - es.flatten.length < sz := by
            have := (List.getElem?_eq_some_iff.1 hj).1; omega
          have := g4 _ hlt
          rw [s1] at this
          rw [ha, at_add, at_add] at this
          rw [← this, hfl, q1]
          congr 2; rw [hfl, q1] at hjl; omega
  obtain ⟨es, q1, q2, q3⟩ := key len (Nat.le_refl _)
  have hcf : CellFacts ρ w ⟨a.block, a.off, 0⟩ es.flatten := fun i v hv => by
    obtain ⟨u, g1, g2⟩ := q3 i v hv
    exact ⟨u, g1, g2.mono (noRho_le ρ)⟩
  obtain ⟨r', hle⟩ := r.addRo ⟨a.block, a.off, 0⟩ es.flatten hblk hcf
  refine ⟨_, _, .slice (some (h.size, 0)) len cap, es, r', hle, (Grow.refl r.fresh).push _, ?_, ⟨fun c hc => (q2 c hc).1, q1.symm, hl, fun _ => rds_all (get_push_self _ _) (flat_len fun c hc => (q2 c hc).1)⟩, fun c hc => (q2 c hc).2, by omega⟩
  exact .slice h.size 0 len cap ⟨a.block, a.off, 0⟩ a (by simp) (fun _ => ha) hl
end
end Abs
end Go.Proofs.Ytnbljblnikdeiaa
