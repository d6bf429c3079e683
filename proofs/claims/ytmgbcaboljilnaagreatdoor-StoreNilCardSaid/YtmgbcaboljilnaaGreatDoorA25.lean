/- The abstract machine: what a call may change; functions that write to memory that was there. -/
import Derived.Test.YtmgbcaboljilnaaGreatDoorA24
namespace Go.Proofs.YtmgbcaboljilnaaGreatDoor
namespace Abs
noncomputable section
set_option linter.unusedVariables false
set_option linter.unusedSimpArgs false
open Go.RowKit

/-- Memory that has grown, and changed in some blocks alone. -/
structure Chg (F : List Nat) (h h' : Heap) : Prop where
  wf : Wf h'
  size : h.size ≤ h'.size
  keep : ∀ b o, b ∉ F → h.get b = some o → h'.get b = some o
/-- Blocks that come of others, or are new. -/
def Comes (h : Heap) (F F' : List Nat) : Prop := ∀ b ∈ F', b ∈ F ∨ h.size ≤ b
def Lows (h : Heap) (F : List Nat) : Prop := ∀ b ∈ F, b < h.size
def Dj (F G : List Nat) : Prop := ∀ b ∈ F, b ∉ G

theorem Grow.chg {h h' : Heap} (g : Grow h h') (F : List Nat) : Chg F h h' := ⟨g.wf, g.size, fun b o _ q => g.ext b o q⟩
theorem Chg.grow {h h' : Heap} (g : Chg [] h h') : Grow h h' := ⟨g.wf, g.size, fun b o q => g.keep b o (by simp) q⟩
theorem Chg.mono {F G : List Nat} {h h' : Heap} (g : Chg F h h') (hs : ∀ b ∈ F, b ∈ G) : Chg G h h' := ⟨g.wf, g.size, fun b o q => g.keep b o fun c => q (hs b c)⟩
theorem Chg.trans {F G : List Nat} {h h1 h2 : Heap} (g : Chg F h h1) (g' : Chg G h1 h2) (hw : Wf h) (hc : Comes h F G) : Chg F h h2 :=
  ⟨g'.wf, Nat.le_trans g.size g'.size, fun b o q hb => g'.keep b o (fun c => by
    rcases hc b c with e | e
    · exact q e
    · rw [hw b e] at hb; cases hb) (g.keep b o q hb)⟩
theorem Chg.growl {F : List Nat} {h h1 h2 : Heap} (g : Grow h h1) (g' : Chg F h1 h2) : Chg F h h2 :=
  ⟨g'.wf, Nat.le_trans g.size g'.size, fun b o q hb => g'.keep b o q (g.ext b o hb)⟩
theorem Chg.growr {F : List Nat} {h h1 h2 : Heap} (g : Chg F h h1) (g' : Grow h1 h2) : Chg F h h2 :=
  ⟨g'.wf, Nat.le_trans g.size g'.size, fun b o q hb => g'.ext b o (g.keep b o q hb)⟩
theorem Chg.put {h : Heap} (hw : Wf h) {a : Nat} (ha : a < h.size) (o : Obj) : Chg [a] h (h.put a o) :=
  ⟨fun b hb => by rw [get_put, if_neg (by simp only [Heap.put] at hb; omega)]; exact hw b hb, Nat.le_refl _, fun b o' q hb => by rw [get_put, if_neg (by simpa using q)]; exact hb⟩
theorem Comes.refl (h : Heap) (F : List Nat) : Comes h F F := fun b hb => .inl hb
theorem Comes.trans {h h1 : Heap} {F G K : List Nat} (c : Comes h F G) (d : Comes h1 G K) (hs : h.size ≤ h1.size) : Comes h F K := fun b hb => by
  rcases d b hb with e | e
  · exact c b e
  · exact .inr (by omega)
/-- What is apart from blocks is apart from what comes of them. -/
theorem Comes.dj {h : Heap} {F F' G : List Nat} (c : Comes h F F') (hl : Lows h G) (hd : Dj F G) : Dj F' G := fun b hb hg => by
  rcases c b hb with e | e
  · exact hd b e hg
  · have := hl b hg; omega
theorem Dj.symm {F G : List Nat} (h : Dj F G) : Dj G F := fun b hb hg => h b hg hb
theorem Lows.up {h h' : Heap} {F : List Nat} (l : Lows h F) (hs : h.size ≤ h'.size) : Lows h' F := fun b hb => Nat.lt_of_lt_of_le (l b hb) hs

/-! ### Functions that write to memory that was there -/
section
variable {C : Cfg} {f : Nat} {args : List V} {h : Heap}
theorem Ans.bodyM {af : AFunc} {R : V → Heap → Prop} (hS : C.S f args h = none) (hF : C.F f = some af) (hl : args.length = af.nparams) (hpl : af.body.plain = true) (hdx : args.length ≤ DX)
    (hx : WC C af.body (argsE 0 args []) { h with low := h.size } fun x e' h1 => (∀ id, x ≠ .exit id) ∧ ∃ vs, ressE e' h1 af.results = some vs ∧ R (oneOf vs) { h1 with low := min h.low h1.low } ∧ (h.size ≤ h1.low → (oneOf vs).scopd h.size = true → R (oneOf vs) h)) : Ans C f args h R := by
  have hx := hx _ ((Sub.nil (.nil : TM)).args 0 args)
  have key : ∃ v h', (∃ n x t h1, execC (run C n).1 (run C n).2 af.body (argsTM 0 args .nil) { h with low := h.size } = some (x, t, h1) ∧ (∀ id, x ≠ .exit id) ∧ ∃ vs, ressA t h1 af.results = some vs ∧ closeCall h (oneOf vs) h1 = (v, h')) ∧ R v h' := by
    obtain ⟨n, x, t, h1, q1, e1, q2, q3, vs, q4, q5, q6⟩ := hx
    by_cases hc : h.size ≤ h1.low ∧ (oneOf vs).scopd h.size = true
    · exact ⟨oneOf vs, h, ⟨n, x, t, h1, q1, q3, vs, q2.ress q4, by simp only [closeCall, if_pos hc]⟩, q6 hc.1 hc.2⟩
    · exact ⟨oneOf vs, _, ⟨n, x, t, h1, q1, q3, vs, q2.ress q4, by simp only [closeCall, if_neg hc]⟩, q5⟩
  obtain ⟨v, h', q1, q2⟩ := key
  exact ⟨v, h', Gives.body hS hF hl hpl hdx q1, q2⟩
theorem Ans.fnM {np : Nat} {res : List Res} {body : AC} {e0 : List (Nat × V)} {R : V → Heap → Prop} (hS : ∀ args h, C.S f args h = none) (hF : C.F f = some ⟨np, res, body⟩) (hl : args.length = np) (he : argsE 0 args [] = e0) (hw : Wf h)
    (hx : ∀ h2, Grow h h2 → h2.size = h.size → (∀ b, h2.get b = h.get b) → WC C body e0 h2 fun x e' h1 => Fin x ∧ ∃ v, retE e' h1 res = some v ∧ (∀ n, n ≤ h1.low → R v { h1 with low := n }) ∧ (h.size ≤ h1.low → v.scopd h.size = true → R v h)) (hpl : body.plain = true := by rfl) (hdx : np ≤ DX := by decide) : Ans C f args h R := by
  refine Ans.bodyM (hS _ _) hF hl hpl (by omega) ?_
  rw [he]
  refine (hx { h with low := h.size } ⟨hw, Nat.le_refl _, fun _ _ q => q⟩ rfl (fun _ => rfl)).mono fun x e' h1 ⟨q1, v, q3, q4, q5⟩ => ⟨?_, ?_⟩
  · intro id hid; subst hid; exact q1
  · simp only [retE] at q3
    split at q3
    · rename_i vs q; cases q3
      exact ⟨vs, q, q4 _ (Nat.min_le_right _ _), q5⟩
    · cases q3
/-- A call leaves no more than it says untouched. -/
theorem Ans.hm {R : V → Heap → Prop} (hSm : ∀ f args h v h', C.S f args h = some (some (v, h')) → HM h h') (hx : Ans C f args h R) : Ans C f args h fun v h' => R v h' ∧ h'.low ≤ h.low := by
  obtain ⟨v, h', ⟨n, q1⟩, q2⟩ := hx
  exact ⟨v, h', ⟨n, q1⟩, q2, ((HM.run C hSm n).1 (.fn f) args h v h' q1).low⟩
end

/-! ### Splicing -/
theorem splice_cat : ∀ (vs cs : List V) (o : Nat), o + vs.length ≤ cs.length → splice cs o vs = cs.take o ++ vs ++ cs.drop (o + vs.length)
  | [], cs, o, h => by simp [splice]
  | v :: vs, cs, o, h => by
    simp only [List.length_cons] at h
    simp only [splice]
    rw [splice_cat vs (cs.set o v) (o + 1) (by rw [List.length_set]; omega), List.take_set, List.drop_set_of_lt (by omega)]
    have h2 : (cs.take (o + 1)).set o v = cs.take o ++ [v] := by
      have hl : o < cs.length := by omega
      rw [List.take_succ_eq_append_getElem hl, List.set_append_right _ _ (by rw [List.length_take]; omega)]
      congr 1
      rw [List.length_take, Nat.min_eq_left (by omega), Nat.sub_self]; rfl
    rw [h2]
    rw [show o + 1 + vs.length = o + (vs.length + 1) by omega]
    simp only [List.length_cons, List.append_assoc, List.singleton_append, List.cons_append, List.nil_append]
end
end Abs
end Go.Proofs.YtmgbcaboljilnaaGreatDoor
