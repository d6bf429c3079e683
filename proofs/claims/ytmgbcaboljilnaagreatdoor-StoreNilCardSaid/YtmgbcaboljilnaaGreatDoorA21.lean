/- The abstract machine: contracts of functions; slices in memory. -/
import Derived.Test.YtmgbcaboljilnaaGreatDoorA20
namespace Go.Proofs.YtmgbcaboljilnaaGreatDoor
namespace Abs
noncomputable section
set_option linter.unusedVariables false
set_option linter.unusedSimpArgs false
open Go.RowKit

def Fin : Ex → Prop
  | .exit _ => False
  | _ => True
def retE (e : List (Nat × V)) (h : Heap) (res : List Res) : Option V :=
  match ressE e h res with
  | some vs => some (oneOf vs)
  | none => none

section
variable {C : Cfg} {f : Nat} {args : List V} {h : Heap}
theorem Ans.fn {np : Nat} {res : List Res} {body : AC} {e0 : List (Nat × V)} {R : V → Heap → Prop} (hS : ∀ args h, C.S f args h = none) (hF : C.F f = some ⟨np, res, body⟩) (hl : args.length = np) (he : argsE 0 args [] = e0) (hw : Wf h)
    (hx : ∀ h2, Grow h h2 → WC C body e0 h2 fun x e' h1 => Fin x ∧ Wf h1 ∧ ∃ v, retE e' h1 res = some v ∧ (∀ h3, Grow h1 h3 → R v h3) ∧ (v.scopd h.size = true → R v h)) (hpl : body.plain = true := by rfl) (hdx : np ≤ DX := by decide) : Ans C f args h R := by
  refine Ans.body (hS _ _) hF hl hpl (by omega) ?_
  rw [he]
  refine (hx { h with low := h.size } ⟨hw, Nat.le_refl _, fun _ _ q => q⟩).mono fun x e' h1 ⟨q1, q2, v, q3, q4, q5⟩ => ⟨?_, ?_⟩
  · intro id hid; subst hid; exact q1
  · simp only [retE] at q3
    split at q3
    · rename_i vs q; cases q3
      exact ⟨vs, q, q4 _ ⟨q2, Nat.le_refl _, fun _ _ q => q⟩, q5⟩
    · cases q3
theorem Ans.val {np : Nat} {res : List Res} {body : AC} {e0 : List (Nat × V)} {val : V} (hS : ∀ args h, C.S f args h = none) (hF : C.F f = some ⟨np, res, body⟩) (hl : args.length = np) (he : argsE 0 args [] = e0) (hw : Wf h)
    (hx : ∀ h2, Grow h h2 → WC C body e0 h2 fun x e' h1 => Fin x ∧ Grow h h1 ∧ retE e' h1 res = some val) (hpl : body.plain = true := by rfl) (hdx : np ≤ DX := by decide) : Ans C f args h fun v h' => v = val ∧ Grow h h' :=
  Ans.fn hS hF hl he hw (fun h2 g => (hx h2 g).mono fun x e' h1 ⟨q1, q2, q3⟩ => ⟨q1, q2.wf, val, q3, fun h3 g3 => ⟨rfl, q2.trans g3⟩, fun _ => ⟨rfl, Grow.refl hw⟩⟩) hpl hdx
end

/-! ### Boxes -/
theorem get_push_self (h : Heap) (o : Obj) : (h.push o).get h.size = some o := by rw [get_push, if_pos rfl]
theorem wr_one {h : Heap} {b : Nat} {x y : V} (hg : h.get b = some (.cells [x] (.tip [] 0 none))) (hy : V.one y = true) : h.wr b 0 [y] = some (h.put b (.cells [y] (.tip [] 0 none))) := by
  simp only [Heap.wr, hg]
  rw [if_pos ⟨Nat.le_refl _, by simp, by simp [hy]⟩]; rfl
theorem wr_two {h : Heap} {b : Nat} {x y u w : V} (hg : h.get b = some (.cells [x, y] (.tip [] 0 none))) (hu : V.one u = true) (hv : V.one w = true) : h.wr b 0 [u, w] = some (h.put b (.cells [u, w] (.tip [] 0 none))) := by
  simp only [Heap.wr, hg]
  rw [if_pos ⟨Nat.le_refl _, by simp, by simp [hu, hv]⟩]; rfl
theorem rd_get {h : Heap} {b o : Nat} {cs : List V} {st : St} {v : V} (hg : h.get b = some (.cells cs st)) (hv : cs[o]? = some v) : h.rd b o = some v := by
  simp only [Heap.rd, hg]; exact hv
/-- A new box that is filled at once. -/
theorem box_two {h0 h : Heap} (g : Grow h0 h) {x y u w : V} (hu : V.one u = true) (hv : V.one w = true) :
    ∃ h', (h.push (.cells [x, y] (.tip [] 0 none))).wr h.size 0 [u, w] = some h' ∧ Grow h0 h' ∧ Grow h h' ∧ h'.get h.size = some (.cells [u, w] (.tip [] 0 none)) := by
  have hg : (h.push (.cells [x, y] (.tip [] 0 none))).get h.size = some (.cells [x, y] (.tip [] 0 none)) := by rw [get_push, if_pos rfl]
  have gh : Grow h (h.push (.cells [x, y] (.tip [] 0 none))) := (Grow.refl g.wf).push _
  refine ⟨_, wr_two hg hu hv, ?_, ?_, by rw [get_put, if_pos rfl]⟩
  · refine g.trans (Grow.put gh (Nat.le_refl _) (by simp [Heap.push]) g.wf _)
  · exact Grow.put gh (Nat.le_refl _) (by simp [Heap.push]) g.wf _

/-! ### Slices -/
def Sl (h : Heap) (sz : Nat) (x : V) (es : List (List V)) : Prop :=
  (∀ c ∈ es, c.length = sz) ∧ match x with
  | .slice none l c => l = 0 ∧ c = 0 ∧ es = []
  | .slice (some (b, o)) l c => l = es.length ∧ l ≤ c ∧ (es ≠ [] → h.rds b o (es.length * sz) = some es.flatten)
  | .oslice b o l c z => l = es.length ∧ l ≤ c ∧ (z = sz ∨ z = 0) ∧ (es ≠ [] → h.rds b o (es.length * sz) = some es.flatten)
  | _ => False

theorem Sl.grow {h h' : Heap} {sz : Nat} {x : V} {es : List (List V)} (s : Sl h sz x es) (g : Grow h h') : Sl h' sz x es := by
  refine ⟨s.1, ?_⟩
  have := s.2
  split at this
  · exact this
  · exact ⟨this.1, this.2.1, fun q => g.rds (this.2.2 q)⟩
  · exact ⟨this.1, this.2.1, this.2.2.1, fun q => g.rds (this.2.2.2 q)⟩
  · exact this
theorem Sl.len {h : Heap} {sz : Nat} {x : V} {es : List (List V)} (s : Sl h sz x es) : slLen x = some es.length := by
  have := s.2
  split at this
  · rw [this.1, this.2.2]; rfl
  · rw [this.1]; rfl
  · rw [this.1]; rfl
  · exact this.elim
theorem Sl.nil (h : Heap) (sz : Nat) : Sl h sz (.slice none 0 0) [] := ⟨by simp, rfl, rfl, rfl⟩

theorem flat_len {es : List (List V)} {sz : Nat} (hl : ∀ c ∈ es, c.length = sz) : es.flatten.length = es.length * sz := by
  induction es with
  | nil => simp
  | cons a r ih =>
    rw [List.flatten_cons, List.length_append, hl a List.mem_cons_self, ih fun c hc => hl c (List.mem_cons_of_mem _ hc), List.length_cons, Nat.succ_mul]; omega
theorem flat_drop {es : List (List V)} {sz : Nat} (hl : ∀ c ∈ es, c.length = sz) (i : Nat) : es.flatten.drop (i * sz) = (es.drop i).flatten := by
  induction es generalizing i with
  | nil => simp
  | cons a r ih =>
    cases i with
    | zero => simp
    | succ i =>
      have ha := hl a List.mem_cons_self
      rw [List.flatten_cons, List.drop_append, List.drop_succ_cons, ← ih (fun c hc => hl c (List.mem_cons_of_mem _ hc)) i, ha, Nat.succ_mul]
      rw [List.drop_eq_nil_of_le (by rw [ha]; omega), List.nil_append, show i * sz + sz - sz = i * sz by omega]
theorem flat_take {es : List (List V)} {sz : Nat} (hl : ∀ c ∈ es, c.length = sz) (i : Nat) : es.flatten.take (i * sz) = (es.take i).flatten := by
  induction es generalizing i with
  | nil => simp
  | cons a r ih =>
    cases i with
    | zero => simp
    | succ i =>
      have ha := hl a List.mem_cons_self
      rw [List.flatten_cons, List.take_append, List.take_succ_cons, List.flatten_cons, ← ih (fun c hc => hl c (List.mem_cons_of_mem _ hc)) i, ha, Nat.succ_mul]
      rw [List.take_of_length_le (by rw [ha]; omega), show i * sz + sz - sz = i * sz by omega]
/-- A part of the cells that are read. -/
theorem rds_part {h : Heap} {b o n : Nat} {cs : List V} (hr : h.rds b o n = some cs) (i m : Nat) (hi : i + m ≤ n) : h.rds b (o + i) m = some ((cs.drop i).take m) := by
  simp only [Heap.rds] at hr ⊢
  split at hr
  · rename_i ds st q
    split at hr
    · rename_i hle
      cases hr
      rw [if_pos (by omega), List.drop_take, List.drop_drop, List.take_take, Nat.min_eq_left (by omega)]
    · cases hr
  · cases hr
theorem rds_len {h : Heap} {b o n : Nat} {cs : List V} (hr : h.rds b o n = some cs) : cs.length = n := by
  simp only [Heap.rds] at hr
  split at hr
  · split at hr
    · cases hr; rw [List.length_take, List.length_drop]; omega
    · cases hr
  · cases hr
theorem rds_rd {h : Heap} {b o n : Nat} {cs : List V} (hr : h.rds b o n = some cs) {j : Nat} {v : V} (hj : cs[j]? = some v) : h.rd b (o + j) = some v := by
  have hl := rds_len hr
  have hjn : j < n := by rw [← hl]; exact (List.getElem?_eq_some_iff.1 hj).1
  simp only [Heap.rds] at hr
  simp only [Heap.rd]
  split at hr
  · rename_i ds st q
    split at hr
    · cases hr
      rw [List.getElem?_take_of_lt hjn, List.getElem?_drop] at hj
      exact hj
    · cases hr
  · cases hr

theorem Sl.at {h : Heap} {sz : Nat} {x : V} {es : List (List V)} (s : Sl h sz x es) {i : Nat} (hi : i < es.length) : ∃ b o, idxSlA sz x (.int .i64 i) = some (.ptr (some (b, o))) ∧ h.rds b o sz = some es[i] := by
  have part : ∀ b o, h.rds b o (es.length * sz) = some es.flatten → h.rds b (o + i * sz) sz = some es[i] := by
    intro b o hr
    have h1 : i * sz + sz ≤ es.length * sz := by rw [← Nat.succ_mul]; exact Nat.mul_le_mul_right _ hi
    rw [rds_part hr (i * sz) sz h1, flat_drop s.1]
    have hd : es.drop i = es[i] :: es.drop (i + 1) := List.drop_eq_getElem_cons hi
    have hle : es[i].length = sz := s.1 _ (List.getElem_mem hi)
    rw [hd, List.flatten_cons, List.take_append_of_le_length (by omega), List.take_of_length_le (by omega)]
  have hne : es ≠ [] := by intro e; subst e; simp at hi
  have := s.2
  split at this
  · exact absurd this.2.2 hne
  · rename_i b o l c
    refine ⟨b, o + i * sz, ?_, part b o (this.2.2 hne)⟩
    simp only [idxSlA, intV]
    rw [if_pos ⟨by omega, by rw [this.1]; omega⟩]; simp
  · rename_i b o l c z
    refine ⟨b, o + i * sz, ?_, part b o (this.2.2.2 hne)⟩
    simp only [idxSlA, intV]
    rw [if_pos ⟨by omega, by rw [this.1]; omega⟩]; simp
  · exact this.elim
/-- The cells of the first items. -/
theorem Sl.cells {h : Heap} {sz : Nat} {x : V} {es : List (List V)} (s : Sl h sz x es) : slCells h sz es.length x = some es.flatten := by
  have := s.2
  split at this
  · rw [this.2.2]; rfl
  · rename_i b o l c
    simp only [slCells]
    split
    · rename_i q; rw [List.length_eq_zero_iff.1 q]; rfl
    · rename_i q; exact this.2.2 (by intro e; subst e; simp at q)
  · rename_i b o l c z
    simp only [slCells]
    split
    · rename_i q; rw [List.length_eq_zero_iff.1 q]; rfl
    · rename_i q; exact this.2.2.2 (by intro e; subst e; simp at q)
  · exact this.elim
/-- Reading all of a new block. -/
theorem rds_all {h : Heap} {b : Nat} {cs : List V} {st : St} (hg : h.get b = some (.cells cs st)) {n : Nat} (hn : cs.length = n) : h.rds b 0 n = some cs := by
  simp only [Heap.rds, hg]
  rw [if_pos (by omega), List.drop_zero, List.take_of_length_le (by omega)]

/-- A slice that was made by appending to nothing. -/
def Grown (h : Heap) (low sz : Nat) (x : V) (es : List (List V)) : Prop :=
  (∀ c ∈ es, c.length = sz) ∧ ((x = .slice none 0 0 ∧ es = []) ∨ ∃ b S ty, x = .oslice b 0 es.length es.length sz ∧ es ≠ [] ∧ (low ≤ b ∧ ∀ s ∈ S, low ≤ s) ∧ h.get b = some (.cells es.flatten (.tip S 0 ty)))
theorem Grown.nil (h : Heap) (low sz : Nat) : Grown h low sz (.slice none 0 0) [] := ⟨by simp, .inl ⟨rfl, rfl⟩⟩
theorem Grown.sl {h : Heap} {low sz : Nat} {x : V} {es : List (List V)} (g : Grown h low sz x es) : Sl h sz x es := by
  obtain ⟨g1, ⟨rfl, rfl⟩ | ⟨b, S, ty, rfl, q2, q3, q4⟩⟩ := g
  · exact Sl.nil h sz
  · exact ⟨g1, rfl, Nat.le_refl _, .inl rfl, fun _ => rds_all q4 (flat_len g1)⟩
theorem Grown.grow {h h' : Heap} {low sz : Nat} {x : V} {es : List (List V)} (g : Grown h low sz x es) (gr : Grow h h') : Grown h' low sz x es := by
  obtain ⟨g1, g2 | ⟨b, S, ty, q1, q2, q3, q4⟩⟩ := g
  · exact ⟨g1, .inl g2⟩
  · exact ⟨g1, .inr ⟨b, S, ty, q1, q2, q3, gr.ext _ _ q4⟩⟩
theorem Grown.scopd {h h1 : Heap} {sz : Nat} {x : V} {es : List (List V)} (g : Grown h1 h.size sz x es) (hs : x.scopd h.size = true) (h' : Heap) : Grown h' h.size sz x es := by
  obtain ⟨g1, ⟨rfl, rfl⟩ | ⟨b, S, ty, rfl, q2, q3, q4⟩⟩ := g
  · exact Grown.nil h' h.size sz
  · simp [V.scopd] at hs; have := q3.1; omega
/-- What is appended comes behind; memory below is as it was. -/
theorem Grown.append {h0 h : Heap} {sz bytes : Nat} {tyK : Option Nat} {x y : V} {es fs : List (List V)} (hw0 : Wf h0) (g : Grow h0 h) (s : Grown h h0.size sz x es) (t : Sl h sz y fs) (hsz : sz ≠ 0) (hb : bytes ≠ 0) (hr : roomy (es.length + fs.length) bytes = true) (h1 : ∀ c ∈ fs, ∀ v ∈ c, V.one v = true) :
    ∃ v h', appendA h sz bytes tyK x y = some (v, h') ∧ Grown h' h0.size sz v (es ++ fs) ∧ Grow h0 h' := by
  have hw := g.wf
  have hlen := flat_len t.1
  have hone : fs.flatten.all V.one = true := by
    rw [List.all_eq_true]; intro v hv
    obtain ⟨c, hc, hv⟩ := List.mem_flatten.1 hv
    exact h1 c hc v hv
  have hA : appendA h sz bytes tyK x y = appendCore h sz bytes tyK x fs.length fs.flatten := by
    simp only [appendA, t.len, t.cells]
    rw [if_pos ⟨hsz, hb, hlen, hone⟩]
  rw [hA]
  have hall : ∀ c ∈ es ++ fs, c.length = sz := by
    intro c hc
    rcases List.mem_append.1 hc with q | q
    · exact s.1 c q
    · exact t.1 c q
  obtain ⟨s1, ⟨rfl, rfl⟩ | ⟨b, S, ty, rfl, q2, q3, q4⟩⟩ := s
  · by_cases hf : fs = []
    · subst hf
      exact ⟨_, _, rfl, ⟨by simp, .inl ⟨rfl, rfl⟩⟩, g⟩
    · have hn : fs.length ≠ 0 := by intro e; exact hf (List.length_eq_zero_iff.1 e)
      simp only [List.length_nil, Nat.zero_add] at hr
      refine ⟨.oslice h.size 0 fs.length fs.length sz, h.push (.cells fs.flatten (.tip [] 0 tyK)), ?_, ⟨hall, .inr ⟨h.size, [], tyK, rfl, hf, ⟨g.size, by simp⟩, ?_⟩⟩, g.push _⟩
      · simp only [appendCore, if_neg hn, hr, if_true]
      · rw [get_push, if_pos rfl]; rfl
  · by_cases hf : fs = []
    · subst hf
      refine ⟨.oslice b 0 es.length es.length sz, h, ?_, ?_, g⟩
      · simp [appendCore]
      · rw [List.append_nil]; exact ⟨s1, .inr ⟨b, S, ty, rfl, q2, q3, q4⟩⟩
    · have hn : fs.length ≠ 0 := by intro e; exact hf (List.length_eq_zero_iff.1 e)
      have hn2 : es.length ≠ 0 := by intro e; exact q2 (List.length_eq_zero_iff.1 e)
      have hbs : b < h.size := Wf.lt hw q4
      have hfl := flat_len s1
      refine ⟨.oslice h.size 0 (es.length + fs.length) (es.length + fs.length) sz, (h.put b (.cells es.flatten .sup)).push (.cells (es.flatten ++ fs.flatten) (.tip (b :: S) 0 (joinTy tyK ty 0))), ?_, ⟨hall, .inr ⟨h.size, b :: S, joinTy tyK ty 0, ?_, by simp [hf], ⟨g.size, ?_⟩, ?_⟩⟩, (g.put q3.1 hbs hw0 _).push _⟩
      · simp only [appendCore]
        rw [if_neg (by omega), if_pos ⟨trivial, hn2, hr⟩, q4]
        simp only
        rw [if_pos ⟨by omega, by omega⟩]
        simp
      · rw [List.length_append]
      · intro s hs; rcases List.mem_cons.1 hs with e | e
        · subst e; exact q3.1
        · exact q3.2 s e
      · rw [get_push, if_pos (by rfl), List.flatten_append]

theorem Grow.kill {h0 : Heap} (hw : Wf h0) : ∀ (S : List Nat) {h : Heap}, Grow h0 h → (∀ s ∈ S, h0.size ≤ s) → Grow h0 (h.kill S)
  | [], _, g, _ => g
  | b :: r, h, g, hs => by
    simp only [Heap.kill]
    split
    · rename_i hb
      exact Grow.kill hw r (g.put (hs b List.mem_cons_self) hb hw _) fun s q => hs s (List.mem_cons_of_mem _ q)
    · exact Grow.kill hw r g fun s q => hs s (List.mem_cons_of_mem _ q)
theorem kill_size : ∀ (S : List Nat) (h : Heap), (h.kill S).size = h.size
  | [], _ => rfl
  | b :: r, h => by
    simp only [Heap.kill]
    split
    · rw [kill_size r]; rfl
    · exact kill_size r h
theorem flat_set {es : List (List V)} {sz : Nat} (hl : ∀ c ∈ es, c.length = sz) {i j : Nat} (hi : i < es.length) (hj : j < sz) (v : V) : es.flatten.set (i * sz + j) v = (es.set i (es[i].set j v)).flatten := by
  induction es generalizing i with
  | nil => simp at hi
  | cons a r ih =>
    have ha := hl a List.mem_cons_self
    cases i with
    | zero =>
      simp only [Nat.zero_mul, Nat.zero_add, List.flatten_cons, List.getElem_cons_zero, List.set_cons_zero]
      rw [List.set_append_left _ _ (by omega)]
    | succ i =>
      simp only [List.flatten_cons, List.getElem_cons_succ, List.set_cons_succ]
      rw [← ih (fun c hc => hl c (List.mem_cons_of_mem _ hc)) (by simpa using hi), Nat.succ_mul, List.set_append_right _ _ (by omega)]
      congr 2; omega
/-- An item's part is written. -/
theorem Grown.store {h0 h : Heap} {sz : Nat} {x : V} {es : List (List V)} (hw0 : Wf h0) (g : Grow h0 h) (s : Grown h h0.size sz x es) {i j : Nat} (hi : i < es.length) (hj : j < sz) {v : V} (hv : V.one v = true) :
    ∃ b o h', idxSlA sz x (.int .i64 i) = some (.ptr (some (b, o))) ∧ h.rds b o sz = some es[i] ∧ h.wr b (o + j) [v] = some h' ∧ Grown h' h0.size sz x (es.set i (es[i].set j v)) ∧ Grow h0 h' := by
  obtain ⟨b, o, k1, k2⟩ := s.sl.at hi
  obtain ⟨s1, ⟨rfl, rfl⟩ | ⟨b', S, ty, rfl, q2, q3, q4⟩⟩ := s
  · simp at hi
  simp only [idxSlA, intV] at k1
  rw [if_pos ⟨by omega, by omega⟩] at k1
  simp only [Option.some.injEq, V.ptr.injEq, Prod.mk.injEq, Int.toNat_natCast, Nat.zero_add] at k1
  obtain ⟨rfl, rfl⟩ := k1
  have hfl := flat_len s1
  have hlt : i * sz + j < es.length * sz := by
    have : i * sz + sz ≤ es.length * sz := by rw [← Nat.succ_mul]; exact Nat.mul_le_mul_right _ hi
    omega
  have hbs : b' < h.size := Wf.lt g.wf q4
  refine ⟨b', i * sz, (h.kill S).put b' (.cells (splice es.flatten (i * sz + j) [v]) (.tip [] 0 ty)), ?_, k2, ?_, ⟨?_, .inr ⟨b', [], ty, ?_, ?_, ⟨q3.1, by simp⟩, ?_⟩⟩, ?_⟩
  · simp only [idxSlA, intV]
    rw [if_pos ⟨by omega, by omega⟩]; simp
  · simp only [Heap.wr, q4]
    rw [if_pos ⟨by omega, by simp only [List.length_singleton]; omega, by simp [hv]⟩]
  · intro c hc
    rcases List.mem_or_eq_of_mem_set hc with q | q
    · exact s1 c q
    · subst q; rw [List.length_set]; exact s1 _ (List.getElem_mem hi)
  · rw [List.length_set]
  · intro e; exact q2 (by simpa using e)
  · rw [get_put, if_pos rfl, ← flat_set s1 hi hj]; rfl
  · exact Grow.put (Grow.kill hw0 S g q3.2) q3.1 (by rw [kill_size]; exact hbs) hw0 _
end
end Abs
end Go.Proofs.YtmgbcaboljilnaaGreatDoor
