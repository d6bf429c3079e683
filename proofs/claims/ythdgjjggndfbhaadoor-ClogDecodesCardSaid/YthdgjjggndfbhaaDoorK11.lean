/- Layer 13: the document's Decode is clog's. Plain: no program is in sight. -/
import Derived.Test.YthdgjjggndfbhaaDoorK10
import Derived.Test.YthdgjjggndfbhaaDoorB14
namespace Go.Proofs.YthdgjjggndfbhaaDoor
namespace Abs
set_option linter.unusedVariables false
set_option linter.unusedSimpArgs false

theorem leV_inj : ∀ (a b : List Nat), a.length = b.length → Byt a → Byt b → leV a = leV b → a = b
  | [], [], _, _, _, _ => rfl
  | [], _ :: _, h, _, _, _ => by simp at h
  | _ :: _, [], h, _, _, _ => by simp at h
  | x :: a, y :: b, h, ha, hb, hv => by
    simp only [leV] at hv
    have h1 := ha x List.mem_cons_self
    have h2 := hb y List.mem_cons_self
    have e1 : x = y := by omega
    have e2 : leV a = leV b := by omega
    rw [e1, leV_inj a b (by simpa using h) (fun z hz => ha z (List.mem_cons_of_mem _ hz)) (fun z hz => hb z (List.mem_cons_of_mem _ hz)) e2]
theorem leB_leV {a : List Nat} {w : Nat} (hl : a.length = w) (ha : Byt a) : leB w (leV a) = a := by
  refine leV_inj _ _ (by rw [leB_len, hl]) (leB_byt _ _) ha ?_
  rw [leV_leB]
  have := leV_lt ha
  rw [hl] at this
  exact Nat.mod_eq_of_lt this

theorem takeF_inv {s : List Nat} {e n e2 : Int} (h : (takeF s e n e2).2.2 = 0) : e = 0 ∧ e2 = 0 ∧ s = (takeF s e n e2).1 ++ (takeF s e n e2).2.1 ∧ (takeF s e n e2).1.length = n.toNat := by
  unfold takeF at h ⊢
  by_cases h1 : e ≠ 0
  · rw [if_pos h1] at h; exact absurd h h1
  rw [if_neg h1] at h ⊢
  by_cases h2 : e2 ≠ 0
  · rw [if_pos h2] at h; exact absurd h h2
  rw [if_neg h2] at h ⊢
  by_cases h3 : (s.length : Int) < n
  · rw [if_pos h3] at h; cases h
  rw [if_neg h3] at h ⊢
  refine ⟨by omega, by omega, (List.take_append_drop _ _).symm, ?_⟩
  rw [List.length_take]; omega
theorem bytesF_inv {s : List Nat} {e n : Int} (h : (bytesF s e n).2.2 = 0) : e = 0 ∧ s = (bytesF s e n).1 ++ (bytesF s e n).2.1 ∧ (bytesF s e n).1.length = n.toNat := by
  obtain ⟨h1, h2, h3, h4⟩ := takeF_inv h
  exact ⟨h1, h3, h4⟩
theorem numberF_inv {s : List Nat} {e w : Int} (hs : Byt s) (w1 : 1 ≤ w) (w7 : w ≤ 7) (h : (numberF s e w).2.2 = 0) : e = 0 ∧ s = putF (numberF s e w).1 w ++ (numberF s e w).2.1 := by
  obtain ⟨h1, h2, h3, h4⟩ := takeF_inv (s := s) (e := e) (n := w) (e2 := if mostF w < 0 then 1 else 0) h
  have hb := (takeF_byt (s := s) (e := e) (n := w) (e2 := if mostF w < 0 then 1 else 0) hs).1
  refine ⟨h1, ?_⟩
  unfold numberF
  simp only
  generalize takeF s e w (if mostF w < 0 then 1 else 0) = r at *
  have hlt := leV_lt hb
  rw [h4] at hlt
  have hm : mostF w = 2 ^ (8 * w.toNat) - 1 := by unfold mostF; rw [if_neg (by omega)]
  have hle : (leV r.1 : Int) ≤ mostF w := by
    rw [hm]
    rw [← pow256] at hlt
    have : ((leV r.1 : Nat) : Int) < ((2 ^ (8 * w.toNat) : Nat) : Int) := by exact_mod_cast hlt
    have e : ((2 ^ (8 * w.toNat) : Nat) : Int) = (2 : Int) ^ (8 * w.toNat) := by push_cast; rfl
    omega
  have hput : putF (leV r.1) w = r.1 := by
    unfold putF
    rw [if_neg (by omega), Int.toNat_natCast]
    exact leB_leV h4 hb
  rw [hput]
  exact h3
theorem rtextF_inv {s : List Nat} {e : Int} (hs : Byt s) (h : (rtextF s e 1).2.2 = 0) : e = 0 ∧ s = textF (rtextF s e 1).1 1 ++ (rtextF s e 1).2.1 := by
  have hb1 := number1_lt (e := e) hs
  unfold rtextF at h ⊢
  simp only at h ⊢
  obtain ⟨h1, h2, h3⟩ := bytesF_inv h
  obtain ⟨h4, h5⟩ := numberF_inv hs (by decide) (by decide) h1
  refine ⟨h4, ?_⟩
  have m1 : mostF 1 = 255 := rfl
  generalize hq : bytesF (numberF s e 1).2.1 (numberF s e 1).2.2 ((numberF s e 1).1 : Nat) = q at *
  unfold textF
  rw [Int.toNat_natCast] at h3
  rw [if_neg (by omega), h3, List.append_assoc, ← h2]
  exact h5
theorem rdEnt_inv {st : List Nat × Int} (hs : Byt st.1) (h : (rdEnt st).2.2 = 0) : st.2 = 0 ∧ st.1 = (rdEnt st).1.enc ++ (rdEnt st).2.1 := by
  unfold rdEnt at h ⊢
  simp only at h ⊢
  have b1 := (rtextF_byt (e := st.2) (w := 1) hs).2
  have t1 := rtextF_inv (e := st.2) hs
  generalize rtextF st.1 st.2 1 = a at *
  have b2 := (bytesF_byt (e := a.2.2) (n := 32) b1).2
  have t2 := bytesF_inv (s := a.2.1) (e := a.2.2) (n := 32)
  generalize bytesF a.2.1 a.2.2 32 = b at *
  have b3 := numberF_byt (e := b.2.2) (w := 2) b2
  have t3 := numberF_inv (e := b.2.2) (w := 2) b2 (by decide) (by decide)
  generalize numberF b.2.1 b.2.2 2 = c at *
  have t4 := numberF_inv (e := c.2.2) (w := 2) b3 (by decide) (by decide)
  generalize numberF c.2.1 c.2.2 2 = d at *
  obtain ⟨z3, e4⟩ := t4 h
  obtain ⟨z2, e3⟩ := t3 z3
  obtain ⟨z1, e2, _⟩ := t2 z2
  obtain ⟨z0, e1⟩ := t1 z1
  refine ⟨z0, ?_⟩
  unfold Ent.enc
  simp only [List.append_assoc]
  rw [← e4, ← e3, ← e2]
  exact e1
theorem rdEnts_inv : ∀ (k : Nat) {st : List Nat × Int}, Byt st.1 → (rdEnts k st).2.2 = 0 → st.2 = 0 ∧ st.1 = ((rdEnts k st).1.map Ent.enc).flatten ++ (rdEnts k st).2.1
  | 0, st, _, h => ⟨h, rfl⟩
  | k + 1, st, hs, h => by
    have hb := (rdEnts_byt k hs).2
    have ih := rdEnts_inv k hs
    unfold rdEnts at h ⊢
    simp only at h ⊢
    generalize rdEnts k st = r at *
    obtain ⟨z1, e1⟩ := rdEnt_inv hb h
    obtain ⟨z0, e0⟩ := ih z1
    refine ⟨z0, ?_⟩
    rw [List.map_append, List.flatten_append, List.append_assoc]
    simp only [List.map_cons, List.map_nil, List.flatten_cons, List.flatten_nil, List.append_nil]
    rw [← e1]
    exact e0
theorem endF_inv {s : List Nat} {e : Int} (h : endF s e = 0) : e = 0 ∧ s = [] := by
  unfold endF at h
  by_cases q : e = 0 ∧ s ≠ []
  · rw [if_pos q] at h; cases h
  · rw [if_neg q] at h
    refine ⟨h, ?_⟩
    by_cases q2 : s = []
    · exact q2
    · exact absurd ⟨h, q2⟩ q

theorem code_ok {seq : Int} {es : List Ent} : codeF seq es = 0 ↔ blkOk seq es := by
  unfold codeF
  by_cases h : blkOk seq es
  · simp [h]
  · simp [h]

/-- The document's Decode is clog's. -/
theorem rdec_eq {s : List Nat} (hb : Byt s) : rdecF s = decF s := by
  unfold rdecF decF
  by_cases h1 : s.length < 41
  · rw [if_pos h1, if_pos h1]
  rw [if_neg h1, if_neg h1]
  by_cases h2 : ofF (cutF s) ≠ digF s
  · rw [if_pos h2, if_pos h2]
  rw [if_neg h2, if_neg h2]
  have h2 : ofF (cutF s) = digF s := by simpa using h2
  have hcut : cutF s ++ digF s = s := List.take_append_drop _ _
  have hcl : 9 ≤ (cutF s).length := by unfold cutF; rw [List.length_take]; omega
  have hcb : Byt (cutF s) := hb.take _
  unfold rdbodyF dbodyF
  simp only
  have hm : bytesF (cutF s) 0 2 = ((cutF s).take 2, (cutF s).drop 2, 0) := by
    have := bytesF_app ((cutF s).take 2) ((cutF s).drop 2) (n := 2) (by rw [List.length_take]; omega)
    rwa [List.take_append_drop] at this
  rw [hm]
  simp only
  have td : (cutF s).take 2 ++ (cutF s).drop 2 = cutF s := List.take_append_drop _ _
  have db : Byt ((cutF s).drop 2) := hcb.drop _
  rw [← h2] at hcut
  generalize cutF s = T at *
  generalize T.drop 2 = D at *
  have b1 := numberF_byt (e := 0) (w := 6) db
  have t1 := numberF_inv (e := 0) (w := 6) db (by decide) (by decide)
  generalize numberF D 0 6 = q at *
  have b2 := numberF_byt (e := q.2.2) (w := 1) b1
  have t2 := numberF_inv (e := q.2.2) (w := 1) b1 (by decide) (by decide)
  generalize numberF q.2.1 q.2.2 1 = k at *
  have t3 := rdEnts_inv k.1 (st := k.2) b2
  have hlen := rdEnts_len k.1 k.2
  generalize rdEnts k.1 k.2 = r at *
  have key : endF r.2.1 r.2.2 = 0 → blkOk q.1 r.1 → (T.take 2 = [80, 76] ↔ encF q.1 r.1 = s) := by
    intro he hk
    obtain ⟨z3, e3⟩ := endF_inv he
    obtain ⟨z2, e2⟩ := t3 z3
    obtain ⟨z1, e1⟩ := t2 z2
    obtain ⟨z0, e0⟩ := t1 z1
    rw [e3, List.append_nil] at e2
    have hD : D = putF q.1 6 ++ putF r.1.length 1 ++ (r.1.map Ent.enc).flatten := by
      rw [e0, e1, e2, hlen, List.append_assoc]
    have hE : encT q.1 r.1 = [80, 76] ++ D := by
      unfold encT encH; rw [hD]; simp
    have hF : encF q.1 r.1 = encT q.1 r.1 ++ ofF (encT q.1 r.1) := if_pos hk
    rw [hF, hE]
    constructor
    · intro q
      rw [q] at td
      rw [td, hcut]
    · intro q
      rw [← hcut] at q
      have hl1 := congrArg List.length q
      simp only [List.length_append, ofF_len] at hl1
      have := (List.append_inj q (by simp only [List.length_append]; omega)).1
      rw [← td] at this
      have hl2 : (T.take 2).length = 2 := by rw [List.length_take]; omega
      exact (List.append_inj this (by rw [hl2]; rfl)).1.symm
  by_cases he : endF r.2.1 r.2.2 = 0
  · by_cases hk : blkOk q.1 r.1
    · have := key he hk
      by_cases ht : T.take 2 = [80, 76]
      · rw [if_pos ⟨he, code_ok.2 hk, this.1 ht⟩, if_pos ⟨ht, he, hk⟩]
      · rw [if_neg (fun x => ht (this.2 x.2.2)), if_neg (fun x => ht x.1)]
    · rw [if_neg (fun x => hk (code_ok.1 x.2.1)), if_neg (fun x => hk x.2.2)]
  · rw [if_neg (fun x => he x.1), if_neg (fun x => he x.2.1)]
end Abs
end Go.Proofs.YthdgjjggndfbhaaDoor
