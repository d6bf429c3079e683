/- The abstract machine's memory and the model's: reading; new blocks; appends; maps. -/
import Derived.Test.YtmgbcaboljilnaaGreatDoorA5
namespace Go.Proofs.YtmgbcaboljilnaaGreatDoor
namespace Abs
set_option linter.unusedVariables false
open Go.RowKit

section
variable {P : Program} {B : Nat} {w0 w : World} {ρ : Rho} {h : Heap}

theorem alloc_at (w : World) (o : Go.Obj) : (w.alloc o).heap[w.heap.size]? = some o := by
  show (w.heap.push o)[w.heap.size]? = _
  simp

theorem Rel.facts (r : Rel P B w0 ρ h w) {b : Nat} {e : Emb} {cs : List V} {st : St} (hb : ρ b = some e) (hg : h.get b = some (.cells cs st)) : CellFacts ρ w e cs := by
  obtain ⟨o, h1, h2⟩ := r.obj b e hb
  rw [hg] at h1
  cases h1
  cases st with
  | ro => exact h2.2
  | tip S fz ty => exact h2.2.1
  | sup => exact h2

theorem Rel.rd (r : Rel P B w0 ρ h w) {b o : Nat} {e : Emb} {v : V} (hb : ρ b = some e) (hv : h.rd b o = some v) : ∃ u, w.cell? (at_ e o) = some u ∧ VR ρ v u := by
  unfold Heap.rd at hv
  split at hv
  · rename_i cs st hg
    exact r.facts hb hg o v hv
  · cases hv

theorem facts_list {e : Emb} : ∀ (cs : List V) (o : Nat), (∀ i v, cs[i]? = some v → ∃ u, w.cell? (at_ e (o + i)) = some u ∧ VR ρ v u) →
    ∃ us, VRs ρ cs us ∧ ∀ j v, us[j]? = some v → w.cell? ((at_ e o).add j) = some v
  | [], o, _ => ⟨[], .nil, fun j v hv => by simp at hv⟩
  | v :: cs, o, hf => by
    obtain ⟨u, hu, hr⟩ := hf 0 v (by simp)
    obtain ⟨us, h1, h2⟩ := facts_list cs (o + 1) (fun i v hv => by
      have := hf (i + 1) v (by simpa using hv)
      rwa [show o + (i + 1) = o + 1 + i by omega] at this)
    refine ⟨u :: us, .cons _ _ _ _ hr h1, fun j v' hv' => ?_⟩
    cases j with
    | zero =>
      simp at hv'
      subst hv'
      simpa [Addr.add] using hu
    | succ j =>
      simp at hv'
      have := h2 j v' hv'
      rw [at_add] at this ⊢
      rwa [show o + (j + 1) = o + 1 + j by omega]

theorem Rel.rds (r : Rel P B w0 ρ h w) {b o n : Nat} {e : Emb} {cs : List V} (hb : ρ b = some e) (hv : h.rds b o n = some cs) :
    cs.length = n ∧ ∃ us, VRs ρ cs us ∧ (loadCells (at_ e o) n).run P w = .ok us.toArray w := by
  unfold Heap.rds at hv
  split at hv
  · rename_i ds st hg
    split at hv
    · rename_i hl
      cases hv
      have hlen : ((ds.drop o).take n).length = n := by simp; omega
      obtain ⟨us, h1, h2⟩ := facts_list (w := w) (ρ := ρ) (e := e) ((ds.drop o).take n) o (fun i v hv => by
        refine r.facts hb hg (o + i) v ?_
        rw [List.getElem?_take] at hv
        split at hv
        · rwa [List.getElem?_drop] at hv
        · cases hv)
      refine ⟨hlen, us, h1, ?_⟩
      have hul : us.length = n := by rw [← VRs.length h1]; exact hlen
      have := run_loadCells_list (P := P) w (at_ e o) us h2
      rwa [hul] at this
    · cases hv
  · cases hv

/-- A new block of cells, of which the first are known. -/
theorem Rel.new (r : Rel P B w0 ρ h w) {b : Nat} {cs : List V} (hb : ρ b = none) (hlt : b < h.size) {S : List Nat} {fz : Nat} {ty : Option Nat} (hg : h.get b = some (.cells cs (.tip S fz ty))) (c : Array Value) (el : TypeId)
    (hv : VRs ρ cs (c.toList.take cs.length)) (hl : cs.length ≤ c.size) (hty : ∀ t, ty = some t → el = t) :
    Rel P B w0 (Rho.with_ ρ b ⟨w.heap.size, 0, c.size⟩) h (w.alloc (.cells c el)) := by
  have hle : RLe ρ (Rho.with_ ρ b ⟨w.heap.size, 0, c.size⟩) := with_le hb
  refine r.lay hb hlt hg _ _ ⟨r.base, fun i v hi => ?_, ⟨⟨c, el, (0, 0), alloc_at w _, rfl, .inl rfl, fun t ht => ⟨hty t ht, rfl⟩⟩, by simpa using hl⟩⟩
  obtain ⟨u, hu, hr⟩ := hv.get i v hi
  refine ⟨u, ?_, hr.mono hle⟩
  have hin : i < cs.length := (List.getElem?_eq_some_iff.1 hi).1
  rw [List.getElem?_take, if_pos hin] at hu
  show (w.alloc (.cells c el)).cell? ⟨w.heap.size, 0 + i, none⟩ = some u
  rw [World.cell?_alloc_new, Nat.zero_add]
  simpa using hu

theorem Rel.newMap (r : Rel P B w0 ρ h w) {b : Nat} (hb : ρ b = none) (hlt : b < h.size) (hg : h.get b = some (.map [] [] 0)) :
    Rel P B w0 (Rho.with_ ρ b ⟨w.heap.size, 0, 0⟩) h (w.alloc (.map #[] 0)) :=
  r.lay hb hlt hg _ _ ⟨r.base, #[], alloc_at w _, trivial, rfl⟩

/-- A block is read alone from now on. -/
theorem Rel.demote (r : Rel P B w0 ρ h w) {b : Nat} {cs : List V} {S : List Nat} {fz : Nat} {ty : Option Nat} (hlt : b < h.size) (hg : h.get b = some (.cells cs (.tip S fz ty))) : Rel P B w0 ρ (h.put b (.cells cs .sup)) w := by
  refine ⟨fun x e hx => r.dom x e hx, fun x e hx => ?_, ?_, fun x e o h1 h2 h3 => ?_, fun x hx => ?_, r.below, r.base, r.glob⟩
  · rw [Heap.get_put]
    by_cases hxb : x = b
    · subst hxb
      exact ⟨.cells cs .sup, by rw [if_pos rfl], r.facts hx hg⟩
    · rw [if_neg hxb]; exact r.obj x e hx
  · intro x x' e1 e2 o1 o2 S' h1 h2 h3 h4 h5 h6 h7 h8
    rw [Heap.get_put] at h4 h6
    by_cases hx : x = b
    · subst hx
      rw [if_pos rfl] at h4
      cases h4
      cases h5
    · rw [if_neg hx] at h4
      by_cases hx' : x' = b
      · subst hx'
        exact absurd (r.sep x x' e1 e2 o1 _ S' h1 h2 h3 h4 h5 hg rfl h8).2.1 (by simp [Obj.sups])
      · rw [if_neg hx'] at h6
        exact r.sep x x' e1 e2 o1 o2 S' h1 h2 h3 h4 h5 h6 h7 h8
  · rw [Heap.get_put] at h2
    by_cases hxb : x = b
    · subst hxb; exact r.live x e _ h1 hg rfl
    · rw [if_neg hxb] at h2; exact r.live x e o h1 h2 h3
  · rw [Heap.get_put, if_neg (by have : h.size ≤ x := hx; omega)]
    exact r.fresh x hx

/-- A cell behind all that is known of a block is written: nothing that is known changes. -/
theorem Rel.beyond (r : Rel P B w0 ρ h w) {b : Nat} {e : Emb} {cs : List V} {S : List Nat} {fz j : Nat} {ty : Option Nat} (hb : ρ b = some e) (hg : h.get b = some (.cells cs (.tip S fz ty)))
    (hj : cs.length ≤ j) (u : Value) : Rel P B w0 ρ h (w.setCell (at_ e j) u) := by
  obtain ⟨o0, hg0, hr0⟩ := r.obj b e hb
  rw [hg] at hg0
  cases hg0
  obtain ⟨hB, hcf, hown⟩ := hr0
  have keep : ∀ (e' : Emb) (ds : List V), (e'.blk = e.blk → e'.off + ds.length ≤ e.off + cs.length) → CellFacts ρ w e' ds → CellFacts ρ (w.setCell (at_ e j) u) e' ds := by
    intro e' ds hle hf i v hi
    obtain ⟨u0, hu0, hr⟩ := hf i v hi
    refine ⟨u0, ?_, hr⟩
    rw [World.cell?_setCell_other]
    · exact hu0
    · intro hh
      simp only [at_, Addr.mk.injEq] at hh
      have hin : i < ds.length := (List.getElem?_eq_some_iff.1 hi).1
      have := hle hh.1.symm
      omega
  refine ⟨r.dom, fun x e' hx => ?_, r.sep, fun x e' o' h1 h2 h3 => by rw [World.size_setCell]; exact r.live x e' o' h1 h2 h3, r.fresh, r.below.setCell (by exact hB) u, by simpa using r.base, r.glob⟩
  obtain ⟨o', h1, h2⟩ := r.obj x e' hx
  refine ⟨o', h1, ?_⟩
  by_cases hxb : x = b
  · subst hxb
    rw [hb] at hx
    cases hx
    rw [hg] at h1
    cases h1
    exact ⟨hB, keep e cs (fun _ => Nat.le_refl _) hcf, own_setCell hown _ _⟩
  · by_cases hbk : e'.blk = e.blk
    · cases o' with
      | dead => trivial
      | cells ds st =>
        have hs := r.sep b x e e' _ _ S hb hx (Ne.symm hxb) hg rfl h1 rfl hbk
        cases st with
        | ro => exact absurd (h2.1) (by rw [hbk]; omega)
        | tip S' fz' ty' => exact absurd hs.2.1 (by simp [Obj.sups])
        | sup => exact keep e' ds (fun _ => hs.2.2) h2
      | map _ _ _ | loop _ _ _ _ _ _ _ | dfr =>
        have hs := r.sep b x e e' _ _ S hb hx (Ne.symm hxb) hg rfl h1 rfl hbk
        exact absurd hs.2.1 (by simp [Obj.sups])
    · exact h2.heap (heap_setCell_ne _ _ _ _ hbk)

theorem Rel.beyonds : ∀ (us : List Value) (j : Nat) {w : World} (r : Rel P B w0 ρ h w) {b : Nat} {e : Emb} {cs : List V} {S : List Nat} {fz : Nat} {ty : Option Nat} (hb : ρ b = some e)
    (hg : h.get b = some (.cells cs (.tip S fz ty))) (hj : cs.length ≤ j) (hz : fz ≤ cs.length) (hl : e.off + j + us.length ≤ e.lim) (h1 : ∀ u ∈ us, u.oneCell' = true) (a : Addr) (i : Nat) (ha : a.add i = at_ e j),
    ∃ w', (storeCells a us i).run P w = .ok () w' ∧ Rel P B w0 ρ h w' ∧ (∀ k u, us[k]? = some u → w'.cell? (at_ e (j + k)) = some u) ∧ (∀ k, k < j → w'.cell? (at_ e k) = w.cell? (at_ e k)) := by
  intro us
  induction us with
  | nil => intro j w r b e cs S fz ty hb hg hj hz hl h1 a i ha; exact ⟨w, rfl, r, fun k u hk => by simp at hk, fun _ _ => rfl⟩
  | cons u us ih =>
    intro j w r b e cs S fz ty hb hg hj hz hl h1 a i ha
    simp only [List.length_cons] at hl
    obtain ⟨o0, hg0, hr0⟩ := r.obj b e hb
    rw [hg] at hg0
    cases hg0
    obtain ⟨hB, hcf, hown⟩ := hr0
    obtain ⟨u0, hu0⟩ := cellThere hown (show e.off + j < e.lim by omega)
    have hf := notFrozen hown (show fz ≤ j by omega) (show e.off + j < e.lim by omega)
    have hs := run_store_there (P := P) (w := w) (h1 u (by simp)) hu0 hf .plain
    rw [← ha] at hs
    have r1 := r.beyond hb hg hj u
    have ha1 : a.add (i + 1) = at_ e (j + 1) := by
      rw [← at_add, ← ha]
      unfold Addr.add
      by_cases hi : i = 0
      · subst hi; simp
      · rw [if_neg (by omega), if_neg hi, if_neg (by omega)]; simp [Nat.add_assoc]
    obtain ⟨w', hw', r', hc', hk'⟩ := ih (j + 1) r1 hb hg (by omega) hz (by omega) (fun x hx => h1 x (by simp [hx])) a (i + 1) ha1
    refine ⟨w', by rw [run_storeCells_cons a u us i w _ hs, ha]; exact hw', r', fun k x hk => ?_, fun k hk => ?_⟩
    · cases k with
      | zero =>
        simp at hk
        subst hk
        rw [hk' (j + 0) (by omega)]
        exact World.cell?_setCell_same _ _ _ hu0
      | succ k =>
        simp at hk
        have := hc' k x hk
        rwa [show j + 1 + k = j + (k + 1) by omega] at this
    · rw [hk' k (by omega), World.cell?_setCell_other]
      intro hh
      simp only [at_, Addr.mk.injEq] at hh
      omega

/-- The new cells are known now, by a new abstract block that shares the old one's place. -/
theorem Rel.shared (r : Rel P B w0 ρ h w) {b : Nat} {e : Emb} {cs items : List V} {us : List Value} {S : List Nat} {fz o : Nat} {ty tyK : Option Nat} (hb : ρ b = some e) (hg : h.get b = some (.cells cs (.tip S fz ty)))
    (ho : o ≤ cs.length) (hz : fz ≤ cs.length) (hl : e.off + cs.length + items.length ≤ e.lim) (hv : VRs ρ items us) (hc : ∀ k u, us[k]? = some u → w.cell? (at_ e (cs.length + k)) = some u) :
    Rel P B w0 (Rho.with_ ρ h.size ⟨e.blk, e.off + o, e.lim⟩) ((h.put b (.cells cs .sup)).push (.cells (cs.drop o ++ items) (.tip (b :: S) (fz - o) (joinTy tyK ty o)))) w := by
  have hn : ρ h.size = none := by
    cases hx : ρ h.size with
    | none => rfl
    | some e' => exact absurd (r.dom _ _ hx) (Nat.lt_irrefl _)
  have hle : RLe ρ (Rho.with_ ρ h.size ⟨e.blk, e.off + o, e.lim⟩) := with_le hn
  obtain ⟨o0, hg0, hr0⟩ := r.obj b e hb
  rw [hg] at hg0
  cases hg0
  obtain ⟨hB, hcf, hown⟩ := hr0
  have blt := r.dom b e hb
  have get' : ∀ x, ((h.put b (.cells cs .sup)).push (.cells (cs.drop o ++ items) (.tip (b :: S) (fz - o) (joinTy tyK ty o)))).get x =
      if x = h.size then some (.cells (cs.drop o ++ items) (.tip (b :: S) (fz - o) (joinTy tyK ty o))) else if x = b then some (.cells cs .sup) else h.get x := by
    intro x; rw [Heap.get_push, Heap.get_put, Heap.size_put]
  have old : ∀ {x : Nat} {e1 : Emb}, Rho.with_ ρ h.size ⟨e.blk, e.off + o, e.lim⟩ x = some e1 → x ≠ h.size → ρ x = some e1 := by
    intro x e1 hx hne
    unfold Rho.with_ at hx
    rwa [if_neg hne] at hx
  have new : ∀ {e1 : Emb}, Rho.with_ ρ h.size ⟨e.blk, e.off + o, e.lim⟩ h.size = some e1 → e1 = ⟨e.blk, e.off + o, e.lim⟩ := by
    intro e1 hx
    rw [with_same] at hx
    cases hx; rfl
  have newfacts : CellFacts (Rho.with_ ρ h.size ⟨e.blk, e.off + o, e.lim⟩) w ⟨e.blk, e.off + o, e.lim⟩ (cs.drop o ++ items) := by
    intro i v hi
    by_cases hlt : i < (cs.drop o).length
    · rw [List.getElem?_append_left hlt, List.getElem?_drop] at hi
      obtain ⟨u, hu, hr⟩ := hcf _ _ hi
      refine ⟨u, ?_, hr.mono hle⟩
      have : at_ ⟨e.blk, e.off + o, e.lim⟩ i = at_ e (o + i) := by simp [at_, Nat.add_assoc]
      rw [this]; exact hu
    · rw [List.getElem?_append_right (by omega)] at hi
      obtain ⟨u, hu, hr⟩ := hv.get _ _ hi
      refine ⟨u, ?_, hr.mono hle⟩
      have : at_ ⟨e.blk, e.off + o, e.lim⟩ i = at_ e (cs.length + (i - (cs.drop o).length)) := by
        simp only [at_, List.length_drop, Addr.mk.injEq, true_and, and_true]
        simp only [List.length_drop] at hlt
        omega
      rw [this]; exact hc _ _ hu
  refine ⟨fun x e1 hx => ?_, fun x e1 hx => ?_, ?_, fun x e1 o1 h1 h2 h3 => ?_, fun x hx => ?_, r.below, r.base, r.glob.mono hle⟩
  · rw [Heap.size_push, Heap.size_put]
    by_cases hxn : x = h.size
    · omega
    · have := r.dom x e1 (old hx hxn); omega
  · rw [get']
    by_cases hxn : x = h.size
    · subst hxn
      rw [new hx]
      refine ⟨_, by rw [if_pos rfl], ?_⟩
      obtain ⟨⟨c, el, fr, q1, q2, q3⟩, q4⟩ := hown
      exact ⟨hB, newfacts, ⟨⟨c, el, fr, q1, q2, by
        rcases q3.1 with q | q | ⟨q, q'⟩
        · exact .inl q
        · refine .inr (.inl ?_); simp only; omega
        · refine .inr (.inr ⟨?_, q'⟩); rw [q]; cases tyK <;> rfl, fun t ht => by obtain ⟨_, h2, h3⟩ := joinTy_some ht; obtain ⟨g1, g2⟩ := q3.2 t h2; exact ⟨g1, by simp only; omega⟩⟩, by simp only [List.length_append, List.length_drop]; omega⟩⟩
    · rw [if_neg hxn]
      by_cases hxb : x = b
      · subst hxb
        have := old hx hxn
        rw [hb] at this
        cases this
        exact ⟨.cells cs .sup, by rw [if_pos rfl], CellFacts.mono hcf hle⟩
      · rw [if_neg hxb]
        obtain ⟨o', q1, q2⟩ := r.obj x e1 (old hx hxn)
        exact ⟨o', q1, q2.mono hle⟩
  · intro x x' e1 e2 o1 o2 S' h1 h2 h3 h4 h5 h6 h7 h8
    rw [get'] at h4 h6
    by_cases hxn : x = h.size
    · subst hxn
      rw [if_pos rfl] at h4
      cases h4
      cases h5
      rw [new h1] at h8 ⊢
      simp only at h8
      rw [if_neg (Ne.symm h3)] at h6
      have h2' := old h2 (Ne.symm h3)
      by_cases hxb : x' = b
      · subst hxb
        rw [if_pos rfl] at h6
        cases h6
        rw [hb] at h2'
        cases h2'
        refine ⟨by simp, rfl, ?_⟩
        simp only [Obj.len, List.length_append, List.length_drop]
        omega
      · rw [if_neg hxb] at h6
        have := r.sep b x' e e2 _ o2 S hb h2' (Ne.symm hxb) hg rfl h6 h7 h8
        refine ⟨by simp [this.1], this.2.1, ?_⟩
        have h3 := this.2.2
        simp only [Obj.len, List.length_append, List.length_drop] at h3 ⊢
        omega
    · rw [if_neg hxn] at h4
      have h1' := old h1 hxn
      by_cases hxb : x = b
      · subst hxb
        rw [if_pos rfl] at h4
        cases h4
        cases h5
      · rw [if_neg hxb] at h4
        by_cases hxn' : x' = h.size
        · subst hxn'
          rw [new h2] at h8
          simp only at h8
          exact absurd (r.sep x b e1 e o1 _ S' h1' hb hxb h4 h5 hg rfl h8).2.1 (by simp [Obj.sups])
        · rw [if_neg hxn'] at h6
          have h2' := old h2 hxn'
          by_cases hxb' : x' = b
          · subst hxb'
            rw [if_pos rfl] at h6
            cases h6
            rw [hb] at h2'
            cases h2'
            exact absurd (r.sep x x' e1 e o1 _ S' h1' hb hxb h4 h5 hg rfl h8).2.1 (by simp [Obj.sups])
          · rw [if_neg hxb'] at h6
            exact r.sep x x' e1 e2 o1 o2 S' h1' h2' h3 h4 h5 h6 h7 h8
  · rw [get'] at h2
    by_cases hxn : x = h.size
    · subst hxn
      rw [new h1]
      exact r.live b e _ hb hg rfl
    · rw [if_neg hxn] at h2
      by_cases hxb : x = b
      · subst hxb
        have := old h1 hxn
        rw [hb] at this
        cases this
        exact r.live x e _ hb hg rfl
      · rw [if_neg hxb] at h2
        exact r.live x e1 o1 (old h1 hxn) h2 h3
  · rw [Heap.size_push, Heap.size_put] at hx
    rw [get', if_neg (by omega), if_neg (by omega)]
    exact r.fresh x (by omega)

/-- An object that is no row of cells is changed. -/
theorem Rel.setOwn (r : Rel P B w0 ρ h w) {b : Nat} {e : Emb} {o o2 : Obj} (hb : ρ b = some e) (hg : h.get b = some o) (hs : o.sups = some []) (hs2 : o2.sups ≠ none ∨ o2.alive = false) (hs3 : ∀ S, o2.sups = some S → S = []) (hB : B ≤ e.blk) (ob : Go.Obj)
    (hrel : ORel P B ρ { w with heap := w.heap.setIfInBounds e.blk ob } e o2) :
    Rel P B w0 ρ (h.put b o2) { w with heap := w.heap.setIfInBounds e.blk ob } := by
  have hal : o.alive = true := by cases o <;> first | rfl | (cases hs; done)
  have hlt : e.blk < w.heap.size := r.live b e o hb hg hal
  have other : ∀ x e' o', x ≠ b → ρ x = some e' → h.get x = some o' → o'.alive = true → e'.blk ≠ e.blk := by
    intro x e' o' hne hx hgx ha he
    have := (r.sep b x e e' _ o' [] hb hx (Ne.symm hne) hg hs hgx ha he).1
    cases this
  have keep : ∀ k, k ≠ e.blk → (w.heap.setIfInBounds e.blk ob)[k]? = w.heap[k]? := fun k hk => Array.getElem?_setIfInBounds_ne (Ne.symm hk)
  refine ⟨fun x e' hx => r.dom x e' hx, fun x e' hx => ?_, ?_, fun x e' o' h1 h2 h3 => ?_, fun x hx => ?_,
    r.below.trans ⟨rfl, rfl, rfl, by simp, fun k hk => keep k (by omega)⟩, by simpa using r.base, r.glob⟩
  · rw [Heap.get_put]
    by_cases hxb : x = b
    · subst hxb
      rw [hb] at hx
      cases hx
      exact ⟨o2, by rw [if_pos rfl], hrel⟩
    · rw [if_neg hxb]
      obtain ⟨o', h1, h2⟩ := r.obj x e' hx
      refine ⟨o', h1, ?_⟩
      cases ha : o'.alive with
      | false => cases o' <;> simp_all [Obj.alive]; trivial
      | true => exact h2.heap (keep _ (other x e' o' hxb hx h1 ha))
  · intro x x' e1 e2 o1 o3 S' h1 h2 h3 h4 h5 h6 h7 h8
    rw [Heap.get_put] at h4 h6
    by_cases hx : x = b
    · subst hx
      rw [if_neg (Ne.symm h3)] at h6
      rw [hb] at h1
      cases h1
      exact absurd h8 (other x' e2 o3 (Ne.symm h3) h2 h6 h7)
    · rw [if_neg hx] at h4
      by_cases hx' : x' = b
      · subst hx'
        rw [if_pos rfl] at h6
        cases h6
        exact absurd (r.sep x x' e1 e2 o1 _ S' h1 h2 h3 h4 h5 hg hal h8).2.1 (by rw [hs]; simp)
      · rw [if_neg hx'] at h6
        exact r.sep x x' e1 e2 o1 o3 S' h1 h2 h3 h4 h5 h6 h7 h8
  · rw [Heap.get_put] at h2
    show e'.blk < (w.heap.setIfInBounds _ _).size
    rw [Array.size_setIfInBounds]
    by_cases hxb : x = b
    · subst hxb; exact r.live x e' _ h1 hg hal
    · rw [if_neg hxb] at h2; exact r.live x e' o' h1 h2 h3
  · rw [Heap.get_put, if_neg (by have : h.size ≤ x := hx; have := r.dom b e hb; omega)]
    exact r.fresh x hx

/-- A map is changed. -/
theorem Rel.setMap (r : Rel P B w0 ρ h w) {b : Nat} {e : Emb} {es es' : List (V × V)} {bs : List Nat} {cl : Nat} (hb : ρ b = some e) (hg : h.get b = some (.map es bs cl)) (ces : Array MapEntry) (bs' : List Nat) (clock : Nat) (hm : MR ρ es' ces.toList) (hbs : bs' = ces.toList.map MapEntry.born) :
    Rel P B w0 ρ (h.put b (.map es' bs' clock)) { w with heap := w.heap.setIfInBounds e.blk (.map ces clock) } := by
  obtain ⟨o0, hg0, hr0⟩ := r.obj b e hb
  rw [hg] at hg0
  cases hg0
  obtain ⟨hB, ces0, hc0, hm0, _⟩ := hr0
  have hlt : e.blk < w.heap.size := (Array.getElem?_eq_some_iff.1 hc0).1
  refine r.setOwn hb hg rfl (.inl (by simp [Obj.sups])) (fun S hS => by cases hS; rfl) hB _ ⟨hB, ces, ?_, hm, hbs⟩
  simp [hlt]
end
end Abs
end Go.Proofs.YtmgbcaboljilnaaGreatDoor
