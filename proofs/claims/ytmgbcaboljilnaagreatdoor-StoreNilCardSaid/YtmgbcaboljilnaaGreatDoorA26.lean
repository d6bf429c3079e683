/- The abstract machine: lists of one-cell items that are their owner's alone, with room behind them or none. -/
import Derived.Test.YtmgbcaboljilnaaGreatDoorA25
namespace Go.Proofs.YtmgbcaboljilnaaGreatDoor
namespace Abs
noncomputable section
set_option linter.unusedVariables false
set_option linter.unusedSimpArgs false
open Go.RowKit

/-- A list of one-cell items in blocks of its own (F). -/
def KL (h : Heap) (x : V) (es : List V) (F : List Nat) : Prop :=
  (x = .slice none 0 0 ∧ es = [] ∧ F = []) ∨ ∃ (b : Nat) (S : List Nat) (j : List V), x = .oslice b 0 es.length (es.length + j.length) 1 ∧ F = b :: S ∧ h.get b = some (.cells (es ++ j) (.tip S 0 none)) ∧ 0 < es.length + j.length ∧ b ∉ S ∧ Lows h F

theorem flat_one : ∀ es : List V, (es.map fun v => [v]).flatten = es
  | [] => rfl
  | v :: r => by simp [flat_one r]

theorem KL.sl {h : Heap} {x : V} {es : List V} {F : List Nat} (k : KL h x es F) : Sl h 1 x (es.map fun v => [v]) := by
  rcases k with ⟨rfl, rfl, rfl⟩ | ⟨b, S, j, rfl, rfl, h1, h2, h3, h4⟩
  · exact Sl.nil h 1
  · refine ⟨by simp, by simp, by simp, .inl rfl, fun _ => ?_⟩
    rw [flat_one, List.length_map]
    simp only [Heap.rds, h1]
    rw [if_pos (by simp)]
    simp
theorem KL.lows {h : Heap} {x : V} {es : List V} {F : List Nat} (k : KL h x es F) : Lows h F := by
  rcases k with ⟨rfl, rfl, rfl⟩ | ⟨b, S, j, rfl, rfl, h1, h2, h3, h4⟩
  · intro b hb; cases hb
  · exact h4
theorem KL.len {h : Heap} {x : V} {es : List V} {F : List Nat} (k : KL h x es F) : slLen x = some es.length := by
  rw [k.sl.len, List.length_map]
theorem KL.nil (h : Heap) : KL h (.slice none 0 0) [] [] := .inl ⟨rfl, rfl, rfl⟩
/-- A list stays where its blocks stay. -/
theorem KL.keep {h h' : Heap} {x : V} {es : List V} {F G : List Nat} (k : KL h x es F) (c : Chg G h h') (hd : Dj F G) : KL h' x es F := by
  rcases k with ⟨rfl, rfl, rfl⟩ | ⟨b, S, j, rfl, rfl, h1, h2, h3, h4⟩
  · exact .inl ⟨rfl, rfl, rfl⟩
  · exact .inr ⟨b, S, j, rfl, rfl, c.keep b _ (hd b List.mem_cons_self) h1, h2, h3, h4.up c.size⟩
theorem KL.grow {h h' : Heap} {x : V} {es : List V} {F : List Nat} (k : KL h x es F) (c : Grow h h') : KL h' x es F := k.keep (c.chg []) (by intro b _; simp)
theorem KL.same {h h' : Heap} {x : V} {es : List V} {F : List Nat} (k : KL h x es F) (hg : ∀ b, h'.get b = h.get b) (hs : h'.size = h.size) : KL h' x es F := by
  rcases k with ⟨rfl, rfl, rfl⟩ | ⟨b, S, j, rfl, rfl, h1, h2, h3, h4⟩
  · exact .inl ⟨rfl, rfl, rfl⟩
  · exact .inr ⟨b, S, j, rfl, rfl, by rw [hg]; exact h1, h2, h3, fun b hb => by rw [hs]; exact h4 b hb⟩

theorem kill_get {h : Heap} : ∀ (S : List Nat) {h : Heap} {b : Nat}, b ∉ S → (h.kill S).get b = h.get b
  | [], _, _, _ => rfl
  | s :: r, h, b, hb => by
    simp only [List.mem_cons, not_or] at hb
    simp only [Heap.kill]
    split
    · rw [kill_get (h := h) r hb.2, get_put, if_neg hb.1]
    · exact kill_get (h := h) r hb.2
theorem kill_wf : ∀ (S : List Nat) {h : Heap}, Wf h → Wf (h.kill S)
  | [], _, hw => hw
  | s :: r, h, hw => by
    simp only [Heap.kill]
    split
    · rename_i hs
      refine kill_wf r fun b hb => ?_
      rw [get_put, if_neg (by simp only [Heap.put] at hb; omega)]
      exact hw b hb
    · exact kill_wf r hw

/-- Writing in place. -/
theorem KL.wr {h : Heap} (hw : Wf h) {b : Nat} {S : List Nat} {cs vs : List V} {o : Nat} (hg : h.get b = some (.cells cs (.tip S 0 none))) (hS : b ∉ S) (hl : o + vs.length ≤ cs.length) (hv : ∀ v ∈ vs, V.one v = true) :
    ∃ h', h.wr b o vs = some h' ∧ Chg (b :: S) h h' ∧ h'.size = h.size ∧ h'.get b = some (.cells (cs.take o ++ vs ++ cs.drop (o + vs.length)) (.tip [] 0 none)) ∧ h'.low ≤ b := by
  have hb := Wf.lt hw hg
  refine ⟨(h.kill S).put b (.cells (splice cs o vs) (.tip [] 0 none)), ?_, ⟨fun c hc => ?_, ?_, fun c o' hc hgc => ?_⟩, ?_, ?_, ?_⟩
  · simp only [Heap.wr, hg]
    rw [if_pos ⟨Nat.zero_le _, hl, List.all_eq_true.2 hv⟩]
  · have hsz : ((h.kill S).put b (.cells (splice cs o vs) (.tip [] 0 none))).size = h.size := by simp only [Heap.put, kill_size]
    rw [hsz] at hc
    rw [get_put, if_neg (by omega)]
    exact kill_wf S hw c (by rw [kill_size]; exact hc)
  · simp only [Heap.put, kill_size]; exact Nat.le_refl _
  · simp only [List.mem_cons, not_or] at hc
    rw [get_put, if_neg hc.1, kill_get (h := h) S hc.2]; exact hgc
  · simp only [Heap.put, kill_size]
  · rw [get_put, if_pos rfl, splice_cat _ _ _ hl]
  · simp only [Heap.put]; exact Nat.min_le_right _ _

/-- One item more. -/
theorem KL.append {h : Heap} {x y : V} {es : List V} {F : List Nat} {bytes : Nat} (hw : Wf h) (k : KL h x es F) (v : V) (hv : V.one v = true) (hy : Sl h 1 y [[v]]) (hb : bytes ≠ 0) (hr : roomy (es.length + 1) bytes = true) :
    ∃ x' h' F', appendA h 1 bytes none x y = some (x', h') ∧ KL h' x' (es ++ [v]) F' ∧ Chg F h h' ∧ Comes h F F' := by
  have hA : appendA h 1 bytes none x y = appendCore h 1 bytes none x 1 [v] := by
    have h1 := hy.len
    have h2 := hy.cells
    simp only [List.length_singleton, List.flatten_cons, List.flatten_nil, List.append_nil] at h1 h2
    simp only [appendA, h1, h2]
    rw [if_pos ⟨by decide, hb, by simp, by simp [hv]⟩]
  rw [hA]
  rcases k with ⟨rfl, rfl, rfl⟩ | ⟨b, S, j, rfl, rfl, h1, h2, h3, h4⟩
  · simp only [List.length_nil, Nat.zero_add] at hr
    refine ⟨.oslice h.size 0 1 1 1, h.push (.cells [v] (.tip [] 0 none)), [h.size], ?_, .inr ⟨h.size, [], [], rfl, rfl, ?_, by simp, by simp, ?_⟩, ((Grow.refl hw).push _).chg _, fun b hb => .inr (by simp at hb; omega)⟩
    · simp only [appendCore]
      rw [if_neg (by decide), if_pos hr]
    · rw [get_push_self]; rfl
    · intro b hb; simp at hb; subst hb; exact Nat.lt_succ_self _
  · cases j with
    | nil =>
      simp only [List.length_nil, Nat.add_zero, List.append_nil] at h1 h2 ⊢
      have hbs := h4 b List.mem_cons_self
      refine ⟨.oslice h.size 0 (es.length + 1) (es.length + 1) 1, (h.put b (.cells es .sup)).push (.cells (es ++ [v]) (.tip (b :: S) 0 none)), h.size :: b :: S, ?_, .inr ⟨h.size, b :: S, [], by simp, rfl, ?_, by simp, ?_, ?_⟩, ?_, ?_⟩
      · simp only [appendCore]
        rw [if_neg (by omega), if_pos ⟨trivial, by omega, hr⟩, h1]
        simp only
        rw [if_pos ⟨by omega, by omega⟩]
        simp
        rfl
      · rw [get_push, if_pos (by rfl), List.append_nil]
      · intro hm; have := h4 _ hm; omega
      · intro c hc
        rcases List.mem_cons.1 hc with e | e
        · subst e; exact Nat.lt_succ_self _
        · exact Nat.lt_succ_of_lt (h4 c e)
      · have g := (Grow.refl (Chg.put hw hbs (.cells es .sup)).wf).push (.cells (es ++ [v]) (.tip (b :: S) 0 none))
        exact ((Chg.put hw hbs _).mono (by intro c hc; simp at hc; subst hc; exact List.mem_cons_self)).growr g
      · intro c hc
        rcases List.mem_cons.1 hc with e | e
        · subst e; exact .inr (Nat.le_refl _)
        · exact .inl e
    | cons w j =>
      obtain ⟨h', w1, w2, w3, w4, w5⟩ := KL.wr hw h1 h3 (o := es.length) (vs := [v]) (by simp) (by simp [hv])
      refine ⟨.oslice b 0 (es.length + 1) (es.length + (w :: j).length) 1, h', [b], ?_, .inr ⟨b, [], j, ?_, rfl, ?_, by rw [List.length_append]; simp only [List.length_singleton]; omega, by simp, ?_⟩, w2, fun c hc => .inl (by simp at hc; subst hc; exact List.mem_cons_self)⟩
      · simp only [appendCore]
        rw [if_pos (by simp), if_neg (by decide)]
        simp only [Nat.mul_one, Nat.zero_add, w1]
      · simp only [List.length_append, List.length_cons, List.length_nil]; congr 1; omega
      · rw [w4]; simp
      · intro c hc; simp at hc; subst hc; rw [w3]; exact h4 c List.mem_cons_self

/-- What a part behind a place is. -/
theorem KL.delete {h : Heap} {x : V} {es : List V} {F : List Nat} {bytes : Nat} (z : V) (hz : V.one z = true) (hw : Wf h) (k : KL h x es F) (hone : ∀ v ∈ es, V.one v = true) {i : Nat} (hi : i < es.length) (hb : bytes ≠ 0) :
    ∃ s0 s1 s2 s3 s4 h1 h2 F', sliceSlA 1 x (some (.int .i64 i)) (some (.int .i64 ((i : Int) + 1))) (some (.int .i64 es.length)) = some s0 ∧ sliceSlA 1 x none (some (.int .i64 i)) none = some s1 ∧ sliceSlA 1 x (some (.int .i64 ((i : Int) + 1))) none none = some s2 ∧
      appendA h 1 bytes none s1 s2 = some (s3, h1) ∧ slLen s3 = some (es.length - 1) ∧ sliceSlA 1 s3 (some (.int .i64 ((es.length - 1 : Nat) : Int))) (some (.int .i64 es.length)) none = some s4 ∧ clearA h1 1 [z] s4 = some (.tuple [], h2) ∧ KL h2 s3 (es.eraseIdx i) F' ∧ Chg F h h2 ∧ Comes h F F' ∧ h2.low < h.size := by
  rcases k with ⟨rfl, rfl, rfl⟩ | ⟨b, S, j, rfl, rfl, g1, g2, g3, g4⟩
  · simp at hi
  have hcs : (es ++ j).length = es.length + j.length := List.length_append
  have hbs := g4 b List.mem_cons_self
  refine ⟨.slice (some (b, 0 + i * 1)) (i + 1 - i) (es.length - i), .oslice b (0 + 0 * 1) (i - 0) (es.length + j.length - 0) 1, .oslice b (0 + (i + 1) * 1) (es.length - (i + 1)) (es.length + j.length - (i + 1)) 1, .oslice b 0 (es.length - 1) (es.length + j.length) 1, .oslice b (0 + (es.length - 1) * 1) (es.length - (es.length - 1)) (es.length + j.length - (es.length - 1)) 1, ?_⟩
  have hs0 : sliceSlA 1 (.oslice b 0 es.length (es.length + j.length) 1) (some (.int .i64 i)) (some (.int .i64 ((i : Int) + 1))) (some (.int .i64 es.length)) = some (.slice (some (b, 0 + i * 1)) (i + 1 - i) (es.length - i)) := by
    simp only [sliceSlA, intV]
    rw [if_pos (.inl trivial), if_pos ⟨by omega, by omega, rfl⟩]
    simp only [boundsA, intV, Int.toNat_natCast]
    rw [if_pos ⟨by omega, by omega⟩]
    simp only
    have : ((i : Int) + 1).toNat = i + 1 := by omega
    rw [this, if_pos ⟨by omega, by omega⟩]
  have hs1 : sliceSlA 1 (.oslice b 0 es.length (es.length + j.length) 1) none (some (.int .i64 i)) none = some (.oslice b (0 + 0 * 1) (i - 0) (es.length + j.length - 0) 1) := by
    simp only [sliceSlA, intV]
    rw [if_pos (.inl trivial)]
    simp only [boundsA, intV, Int.toNat_natCast]
    rw [if_pos ⟨by omega, by omega⟩]
  have hs2 : sliceSlA 1 (.oslice b 0 es.length (es.length + j.length) 1) (some (.int .i64 ((i : Int) + 1))) none none = some (.oslice b (0 + (i + 1) * 1) (es.length - (i + 1)) (es.length + j.length - (i + 1)) 1) := by
    simp only [sliceSlA, intV]
    rw [if_pos (.inl trivial)]
    simp only [boundsA, intV, Int.toNat_natCast]
    have : ((i : Int) + 1).toNat = i + 1 := by omega
    rw [if_pos ⟨by omega, by omega⟩]
    simp only [this]
  have hdrop : (es ++ j).drop (i + 1) = es.drop (i + 1) ++ j := List.drop_append_of_le_length (by omega)
  -- the items behind
  have hcells : slCells h 1 (es.length - (i + 1)) (.oslice b (0 + (i + 1) * 1) (es.length - (i + 1)) (es.length + j.length - (i + 1)) 1) = some (es.drop (i + 1)) := by
    simp only [slCells]
    split
    · rename_i e; rw [List.drop_eq_nil_of_le (by omega)]
    · simp only [Heap.rds, g1]
      rw [if_pos (by rw [hcs]; omega)]
      simp only [Nat.zero_add, Nat.mul_one]
      rw [hdrop, List.take_append_of_le_length (by rw [List.length_drop]; omega), List.take_of_length_le (by rw [List.length_drop]; omega)]
  have hA : appendA h 1 bytes none (.oslice b (0 + 0 * 1) (i - 0) (es.length + j.length - 0) 1) (.oslice b (0 + (i + 1) * 1) (es.length - (i + 1)) (es.length + j.length - (i + 1)) 1) = appendCore h 1 bytes none (.oslice b (0 + 0 * 1) (i - 0) (es.length + j.length - 0) 1) (es.length - (i + 1)) (es.drop (i + 1)) := by
    simp only [appendA, slLen, hcells]
    rw [if_pos ⟨by decide, hb, by rw [List.length_drop]; omega, List.all_eq_true.2 fun v hv => hone v (List.mem_of_mem_drop hv)⟩]
  -- in place
  have key : ∃ h1 S1, appendCore h 1 bytes none (.oslice b (0 + 0 * 1) (i - 0) (es.length + j.length - 0) 1) (es.length - (i + 1)) (es.drop (i + 1)) = some (.oslice b 0 (es.length - 1) (es.length + j.length) 1, h1) ∧ Chg (b :: S) h h1 ∧ h1.size = h.size ∧ (∃ l, l.length = 1 ∧ h1.get b = some (.cells (es.take i ++ es.drop (i + 1) ++ l ++ j) (.tip S1 0 none))) ∧ b ∉ S1 ∧ ∀ s ∈ S1, s ∈ S := by
    simp only [appendCore]
    rw [if_pos (by omega)]
    by_cases hn : es.length - (i + 1) = 0
    · rw [if_pos hn]
      have hi1 : i + 1 = es.length := by omega
      refine ⟨h, S, ?_, (Grow.refl hw).chg _, rfl, ⟨[es[i]], rfl, ?_⟩, g3, fun s hs => hs⟩
      · simp only [Option.some.injEq, Prod.mk.injEq, and_true]
        congr 1 <;> omega
      · rw [g1, List.drop_eq_nil_of_le (by omega), List.append_nil, List.take_append_getElem hi, List.take_of_length_le (by omega)]
    · rw [if_neg hn]
      obtain ⟨h1, w1, w2, w3, w4, w5⟩ := KL.wr hw g1 g3 (o := i) (vs := es.drop (i + 1)) (by rw [hcs, List.length_drop]; omega) (fun v hv => hone v (List.mem_of_mem_drop hv))
      refine ⟨h1, [], ?_, w2, w3, ⟨[es[es.length - 1]], rfl, ?_⟩, by simp, by simp⟩
      · simp only [Nat.zero_add, Nat.zero_mul, Nat.mul_one, Nat.sub_zero, w1, Option.some.injEq, Prod.mk.injEq, and_true]
        congr 1; omega
      · rw [w4, List.length_drop, List.take_append_of_le_length (by omega)]
        congr 2
        rw [List.append_assoc (es.take i ++ es.drop (i + 1))]
        congr 1
        rw [List.drop_append_of_le_length (by omega), show i + (es.length - (i + 1)) = es.length - 1 by omega]
        congr 1
        rw [List.drop_eq_getElem_cons (by omega), List.drop_eq_nil_of_le (by omega)]
  obtain ⟨h1, S1, k1, k2, k3, ⟨l, hl1, k4⟩, k5, k6⟩ := key
  have hs4 : sliceSlA 1 (.oslice b 0 (es.length - 1) (es.length + j.length) 1) (some (.int .i64 ((es.length - 1 : Nat) : Int))) (some (.int .i64 es.length)) none = some (.oslice b (0 + (es.length - 1) * 1) (es.length - (es.length - 1)) (es.length + j.length - (es.length - 1)) 1) := by
    simp only [sliceSlA, intV]
    rw [if_pos (.inl trivial)]
    simp only [boundsA, intV, Int.toNat_natCast]
    rw [if_pos ⟨by omega, by omega⟩]
    simp only
    rw [if_pos ⟨by omega, by omega⟩]
  have hlen : (es.take i ++ es.drop (i + 1)).length = es.length - 1 := by rw [List.length_append, List.length_take, List.length_drop]; omega
  obtain ⟨h2, w1, w2, w3, w4, w5⟩ := KL.wr k2.wf k4 k5 (o := es.length - 1) (vs := [z]) (by simp only [List.length_append, List.length_take, List.length_drop, hl1, List.length_singleton]; omega) (by simp [hz])
  refine ⟨h1, h2, [b], hs0, hs1, hs2, by rw [hA]; exact k1, rfl, hs4, ?_, .inr ⟨b, [], z :: j, ?_, rfl, ?_, by rw [List.length_cons]; omega, by simp, ?_⟩, ?_, (fun c hc => .inl (by simp at hc; subst hc; exact List.mem_cons_self)), by omega⟩
  · have : es.length - (es.length - 1) = 1 := by omega
    simp only [clearA, slLen, this, Nat.zero_add, Nat.mul_one, reps, List.append_nil, w1]
  · rw [List.length_eraseIdx_of_lt hi]
    simp only [List.length_cons]; congr 1; omega
  · rw [w4, List.eraseIdx_eq_take_drop_succ]
    congr 2
    obtain ⟨w, rfl⟩ : ∃ w, l = [w] := by
      cases l with
      | nil => simp at hl1
      | cons w r => cases r with
        | nil => exact ⟨w, rfl⟩
        | cons _ _ => simp at hl1
    generalize es.take i ++ es.drop (i + 1) = A at *
    rw [← hlen]
    simp
  · intro c hc; simp at hc; subst hc; rw [w3, k3]; exact hbs
  · refine k2.trans (w2.mono ?_) hw (Comes.refl _ _)
    intro c hc
    rcases List.mem_cons.1 hc with e | e
    · subst e; exact List.mem_cons_self
    · exact List.mem_cons_of_mem _ (k6 c e)
end
end Abs
end Go.Proofs.YtmgbcaboljilnaaGreatDoor
