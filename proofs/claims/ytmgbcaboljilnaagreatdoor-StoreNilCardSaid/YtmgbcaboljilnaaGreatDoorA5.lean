/- The abstract machine's memory and the model's: what writes, appends and new blocks do to both. -/
import Derived.Test.YtmgbcaboljilnaaGreatDoorA4
import Derived.Laws.Append
import Derived.Laws.NewBlocks
namespace Go.Proofs.YtmgbcaboljilnaaGreatDoor
namespace Abs
set_option linter.unusedVariables false
open Go.RowKit

theorem Heap.size_put (h : Heap) (b : Nat) (o : Obj) : (h.put b o).size = h.size := rfl
theorem Heap.get_put (h : Heap) (b x : Nat) (o : Obj) : (h.put b o).get x = if x = b then some o else h.get x := HT.get_set _ _ _ _
theorem Heap.get_push (h : Heap) (x : Nat) (o : Obj) : (h.push o).get x = if x = h.size then some o else h.get x := HT.get_set _ _ _ _
theorem Heap.size_push (h : Heap) (o : Obj) : (h.push o).size = h.size + 1 := rfl
theorem Heap.kill_size : ∀ (S : List Nat) (h : Heap), (h.kill S).size = h.size
  | [], _ => rfl
  | b :: r, h => by unfold Heap.kill; split <;> simp [Heap.kill_size r, Heap.size_put]
theorem Heap.kill_get : ∀ (S : List Nat) (h : Heap) (x : Nat), (h.kill S).get x = if x ∈ S ∧ x < h.size then some .dead else h.get x
  | [], h, x => by simp [Heap.kill]
  | b :: r, h, x => by
    unfold Heap.kill
    by_cases hb : b < h.size
    · rw [if_pos hb, Heap.kill_get r, Heap.size_put, Heap.get_put]
      by_cases hx : x ∈ r ∧ x < h.size
      · rw [if_pos hx, if_pos ⟨List.mem_cons_of_mem _ hx.1, hx.2⟩]
      · rw [if_neg hx]
        by_cases e : x = b
        · subst e; rw [if_pos rfl, if_pos ⟨by simp, hb⟩]
        · rw [if_neg e, if_neg]
          rintro ⟨h1, h2⟩
          rcases List.mem_cons.1 h1 with h1 | h1
          · exact e h1
          · exact hx ⟨h1, h2⟩
    · rw [if_neg hb, Heap.kill_get r]
      by_cases hx : x ∈ r ∧ x < h.size
      · rw [if_pos hx, if_pos ⟨List.mem_cons_of_mem _ hx.1, hx.2⟩]
      · rw [if_neg hx, if_neg]
        rintro ⟨h1, h2⟩
        rcases List.mem_cons.1 h1 with h1 | h1
        · subst h1; exact hb h2
        · exact hx ⟨h1, h2⟩

theorem splice_length : ∀ (vs : List V) (cs : List V) (o : Nat), (splice cs o vs).length = cs.length
  | [], _, _ => rfl
  | v :: r, cs, o => by unfold splice; rw [splice_length r]; simp

section
variable {P : Program} {B : Nat} {w0 w : World} {ρ : Rho} {h : Heap}

/-- The blocks that may share a block's place are given up. -/
theorem Rel.killed (r : Rel P B w0 ρ h w) {b : Nat} {e : Emb} {cs : List V} {S : List Nat} {fz : Nat} {ty : Option Nat} (hb : ρ b = some e) (hg : h.get b = some (.cells cs (.tip S fz ty))) :
    Rel P B w0 ρ ((h.kill S).put b (.cells cs (.tip [] fz ty))) w := by
  have get' : ∀ x, ((h.kill S).put b (.cells cs (.tip [] fz ty))).get x = if x = b then some (.cells cs (.tip [] fz ty)) else if x ∈ S ∧ x < h.size then some .dead else h.get x := by
    intro x; rw [Heap.get_put, Heap.kill_get]
  have siz : ((h.kill S).put b (.cells cs (.tip [] fz ty))).size = h.size := by rw [Heap.size_put, Heap.kill_size]
  obtain ⟨o0, hg0, hr0⟩ := r.obj b e hb
  rw [hg] at hg0
  cases hg0
  have blt := r.dom b e hb
  refine ⟨fun x e' hx => by rw [siz]; exact r.dom x e' hx, fun x e' hx => ?_, ?_, fun x e' o' h1 h2 h3 => ?_, fun x hx => ?_, r.below, r.base, r.glob⟩
  · rw [get']
    by_cases hxb : x = b
    · subst hxb
      rw [hb] at hx
      cases hx
      exact ⟨.cells cs (.tip [] fz ty), by rw [if_pos rfl], hr0⟩
    · rw [if_neg hxb]
      by_cases hxs : x ∈ S ∧ x < h.size
      · exact ⟨.dead, by rw [if_pos hxs], trivial⟩
      · rw [if_neg hxs]; exact r.obj x e' hx
  · intro x x' e1 e2 o1 o2 S' h1 h2 h3 h4 h5 h6 h7 h8
    rw [get'] at h4 h6
    by_cases hx : x = b
    · subst hx
      rw [if_pos rfl] at h4
      cases h4
      rw [if_neg (Ne.symm h3)] at h6
      by_cases hxs : x' ∈ S ∧ x' < h.size
      · rw [if_pos hxs] at h6; cases h6; cases h7
      · rw [if_neg hxs] at h6
        have := (r.sep x x' e1 e2 _ o2 S h1 h2 h3 hg rfl h6 h7 h8).1
        exact absurd ⟨this, r.dom x' e2 h2⟩ hxs
    · rw [if_neg hx] at h4
      by_cases hxs : x ∈ S ∧ x < h.size
      · rw [if_pos hxs] at h4; cases h4; cases h5
      · rw [if_neg hxs] at h4
        by_cases hx' : x' = b
        · subst hx'
          rw [if_pos rfl] at h6
          cases h6
          exact absurd (r.sep x x' e1 e2 o1 _ S' h1 h2 h3 h4 h5 hg rfl h8).2.1 (by simp [Obj.sups])
        · rw [if_neg hx'] at h6
          by_cases hxs' : x' ∈ S ∧ x' < h.size
          · rw [if_pos hxs'] at h6; cases h6; cases h7
          · rw [if_neg hxs'] at h6
            exact r.sep x x' e1 e2 o1 o2 S' h1 h2 h3 h4 h5 h6 h7 h8
  · rw [get'] at h2
    by_cases hxb : x = b
    · subst hxb; exact r.live x e' _ h1 hg rfl
    · rw [if_neg hxb] at h2
      by_cases hxs : x ∈ S ∧ x < h.size
      · rw [if_pos hxs] at h2; cases h2; cases h3
      · rw [if_neg hxs] at h2; exact r.live x e' o' h1 h2 h3
  · rw [siz] at hx
    rw [get', if_neg (by omega), if_neg (by omega)]
    exact r.fresh x hx

theorem heap_setCell_ne (w : World) (a : Addr) (u : Value) (k : Nat) (hk : k ≠ a.block) : (w.setCell a u).heap[k]? = w.heap[k]? := Below.heap_setCell w a u k hk

theorem own_setCell {e : Emb} {n fz : Nat} {ty : Option Nat} (ho : Own w e n fz ty) (a : Addr) (u : Value) : Own (w.setCell a u) e n fz ty := by
  obtain ⟨⟨c, el, fr, hc, hs, hf⟩, hr⟩ := ho
  refine ⟨?_, hr⟩
  by_cases hk : e.blk = a.block
  · refine ⟨if a.spot.isSome then c else c.setIfInBounds a.off u, el, fr, ?_, ?_, hf⟩
    · simp only [World.setCell, Array.getElem?_modify]
      rw [if_pos hk.symm, hc]
      rfl
    · split <;> simp [hs]
  · exact ⟨c, el, fr, by rw [heap_setCell_ne _ _ _ _ hk]; exact hc, hs, hf⟩

/-- One cell of a block that shares its place with none is written. -/
theorem Rel.set1 (r : Rel P B w0 ρ h w) {b : Nat} {e : Emb} {cs : List V} {fz o : Nat} {ty : Option Nat} {v : V} {u : Value} (hb : ρ b = some e) (hg : h.get b = some (.cells cs (.tip [] fz ty)))
    (ho : o < cs.length) (hv : VR ρ v u) : Rel P B w0 ρ (h.put b (.cells (cs.set o v) (.tip [] fz ty))) (w.setCell (at_ e o) u) := by
  obtain ⟨o0, hg0, hr0⟩ := r.obj b e hb
  rw [hg] at hg0
  cases hg0
  obtain ⟨hB, hcf, hown⟩ := hr0
  have blt := r.dom b e hb
  have other : ∀ x e' o', x ≠ b → ρ x = some e' → h.get x = some o' → o'.alive = true → e'.blk ≠ e.blk := by
    intro x e' o' hne hx hgx ha he
    have := (r.sep b x e e' _ o' [] hb hx (Ne.symm hne) hg rfl hgx ha he).1
    cases this
  refine ⟨fun x e' hx => r.dom x e' hx, fun x e' hx => ?_, ?_, fun x e' o' h1 h2 h3 => ?_, fun x hx => ?_, r.below.setCell (by exact hB) u, by simpa using r.base, r.glob⟩
  · rw [Heap.get_put]
    by_cases hxb : x = b
    · subst hxb
      rw [hb] at hx
      cases hx
      refine ⟨.cells (cs.set o v) (.tip [] fz ty), by rw [if_pos rfl], ?_⟩
      refine ⟨hB, fun i v' hv' => ?_, ?_⟩
      · by_cases hi : i = o
        · subst hi
          rw [List.getElem?_set_self ho] at hv'
          cases hv'
          obtain ⟨u0, hu0, _⟩ := hcf i (cs[i]) (List.getElem?_eq_getElem ho)
          exact ⟨u, World.cell?_setCell_same _ _ _ hu0, hv⟩
        · rw [List.getElem?_set_ne (Ne.symm hi)] at hv'
          obtain ⟨u0, hu0, hr1⟩ := hcf i v' hv'
          refine ⟨u0, ?_, hr1⟩
          rw [World.cell?_setCell_other]
          · exact hu0
          · intro hh
            simp only [at_, Addr.mk.injEq] at hh
            omega
      · have := own_setCell hown (at_ e o) u
        simpa using this
    · rw [if_neg hxb]
      obtain ⟨o', h1, h2⟩ := r.obj x e' hx
      refine ⟨o', h1, ?_⟩
      cases ha : o'.alive with
      | false => cases o' <;> simp_all [Obj.alive]; trivial
      | true => exact h2.heap (heap_setCell_ne _ _ _ _ (other x e' o' hxb hx h1 ha))
  · intro x x' e1 e2 o1 o2 S' h1 h2 h3 h4 h5 h6 h7 h8
    rw [Heap.get_put] at h4 h6
    by_cases hx : x = b
    · subst hx
      rw [if_neg (Ne.symm h3)] at h6
      rw [hb] at h1
      cases h1
      exact absurd h8 (other x' e2 o2 (Ne.symm h3) h2 h6 h7)
    · rw [if_neg hx] at h4
      by_cases hx' : x' = b
      · subst hx'
        rw [if_pos rfl] at h6
        cases h6
        exact absurd (r.sep x x' e1 e2 o1 _ S' h1 h2 h3 h4 h5 hg rfl h8).2.1 (by simp [Obj.sups])
      · rw [if_neg hx'] at h6
        exact r.sep x x' e1 e2 o1 o2 S' h1 h2 h3 h4 h5 h6 h7 h8
  · rw [Heap.get_put] at h2
    rw [World.size_setCell]
    by_cases hxb : x = b
    · subst hxb; exact r.live x e' _ h1 hg rfl
    · rw [if_neg hxb] at h2; exact r.live x e' o' h1 h2 h3
  · rw [Heap.get_put, if_neg (by have : h.size ≤ x := hx; omega)]
    exact r.fresh x hx

theorem notFrozen {e : Emb} {n fz i : Nat} {ty : Option Nat} (ho : Own w e n fz ty) (h1 : fz ≤ i) (h2 : e.off + i < e.lim) : w.frozen? (at_ e i) = false := by
  obtain ⟨⟨c, el, ⟨lo, hi⟩, hc, hs, hf⟩, hr⟩ := ho
  have hk : w.heap[(at_ e i).block]? = some (.cells c el (lo, hi)) := hc
  have hq : ¬ (lo ≤ e.off + i ∧ e.off + i < hi) := by
    have := hf.1
    simp only at this
    omega
  have hd : (decide (lo ≤ e.off + i) && decide (e.off + i < hi)) = false := by
    cases h3 : decide (lo ≤ e.off + i) with
    | false => rfl
    | true =>
      cases h4 : decide (e.off + i < hi) with
      | false => rfl
      | true => exact absurd ⟨of_decide_eq_true h3, of_decide_eq_true h4⟩ hq
  unfold World.frozen?
  rw [hk]
  exact hd

theorem cellThere {e : Emb} {n fz i : Nat} {ty : Option Nat} (ho : Own w e n fz ty) (h2 : e.off + i < e.lim) : ∃ u, w.cell? (at_ e i) = some u := by
  obtain ⟨⟨c, el, fr, hc, hs, hf⟩, hr⟩ := ho
  unfold World.cell?
  have : w.heap[(at_ e i).block]? = some (.cells c el fr) := hc
  rw [this]
  have hi : e.off + i < c.size := by omega
  exact ⟨c[e.off + i], Array.getElem?_eq_getElem hi⟩

theorem run_store_there {a : Addr} {v u : Value} (hv : v.oneCell' = true) (hc : w.cell? a = some u) (hf : w.frozen? a = false) (m : Mode) : (store a v m).run P w = .ok () (w.setCell a v) := by
  rw [run_store P w a v m hv, hc]
  simp [hf]

theorem run_storeCells_cons (a : Addr) (v : Value) (r : List Value) (i : Nat) (w w1 : World) (h1 : (store (a.add i) v).run P w = .ok () w1) : (storeCells a (v :: r) i).run P w = (storeCells a r (i + 1)).run P w1 := by
  rw [storeCells]
  simp only [Sem.run_bind, h1, Result.andThen_ok]

/-- A list of cells is written to a block of the program's own. -/
theorem Rel.setList : ∀ (vs : List V) (us : List Value) (o : Nat) {h : Heap} {w : World} {cs : List V} (r : Rel P B w0 ρ h w) {b : Nat} {e : Emb} {fz : Nat} {ty : Option Nat} (hb : ρ b = some e)
    (hg : h.get b = some (.cells cs (.tip [] fz ty))) (hz : fz ≤ o) (hl : o + vs.length ≤ cs.length) (h1 : vs.all V.one = true) (hv : VRs ρ vs us) (a : Addr) (i : Nat) (ha : a.add i = at_ e o),
    ∃ w', (storeCells a us i).run P w = .ok () w' ∧ Rel P B w0 ρ (h.put b (.cells (splice cs o vs) (.tip [] fz ty))) w' := by
  intro vs
  induction vs with
  | nil =>
    intro us o h w cs r b e fz ty hb hg hz hl h1 hv a i ha
    cases hv
    refine ⟨w, rfl, r.congr rfl fun x => ?_⟩
    rw [Heap.get_put]
    by_cases hx : x = b
    · subst hx; rw [if_pos rfl, hg]; rfl
    · rw [if_neg hx]
  | cons v vs ih =>
    intro us o h w cs r b e fz ty hb hg hz hl h1 hv a i ha
    cases hv with
    | cons _ u _ us hv ht =>
    simp only [List.all_cons, Bool.and_eq_true] at h1
    simp only [List.length_cons] at hl
    obtain ⟨o0, hg0, hr0⟩ := r.obj b e hb
    rw [hg] at hg0
    cases hg0
    obtain ⟨hB, hcf, hown⟩ := hr0
    obtain ⟨u0, hu0, _⟩ := hcf o (cs[o]'(by omega)) (List.getElem?_eq_getElem (by omega))
    have hroom := hown.room
    have hf := notFrozen hown hz (show e.off + o < e.lim by omega)
    have hs := run_store_there (P := P) (w := w) (VR.one hv h1.1) hu0 hf .plain
    rw [← ha] at hs
    have r1 := r.set1 hb hg (show o < cs.length by omega) hv
    have hg1 : (h.put b (.cells (cs.set o v) (.tip [] fz ty))).get b = some (.cells (cs.set o v) (.tip [] fz ty)) := by rw [Heap.get_put, if_pos rfl]
    have ha1 : a.add (i + 1) = at_ e (o + 1) := by
      rw [← at_add, ← ha]
      unfold Addr.add
      by_cases hi : i = 0
      · subst hi; simp
      · rw [if_neg (by omega), if_neg hi, if_neg (by omega)]; simp [Nat.add_assoc]
    obtain ⟨w', hw', r'⟩ := ih us (o + 1) r1 hb hg1 (by omega) (by simp; omega) h1.2 ht a (i + 1) ha1
    refine ⟨w', ?_, r'.congr rfl fun x => ?_⟩
    · rw [run_storeCells_cons a u us i w _ hs, ha]; exact hw'
    · rw [Heap.get_put, Heap.get_put, Heap.get_put]
      by_cases hx : x = b
      · rw [if_pos hx, if_pos hx]; rfl
      · rw [if_neg hx, if_neg hx, if_neg hx]

/-- A store of the abstract machine's. -/
theorem Rel.wr (r : Rel P B w0 ρ h w) {b o : Nat} {vs : List V} {us : List Value} {h' : Heap} (hw : h.wr b o vs = some h') {e : Emb} (hb : ρ b = some e) (hv : VRs ρ vs us) :
    ∃ w', (storeCells (at_ e o) us).run P w = .ok () w' ∧ Rel P B w0 ρ h' w' := by
  unfold Heap.wr at hw
  split at hw
  · rename_i cs S fz ty hg
    split at hw
    · rename_i hc
      cases hw
      have r1 := r.killed hb hg
      have hg1 : ((h.kill S).put b (.cells cs (.tip [] fz ty))).get b = some (.cells cs (.tip [] fz ty)) := by rw [Heap.get_put, if_pos rfl]
      obtain ⟨w', h1, h2⟩ := Rel.setList (P := P) vs us o r1 hb hg1 hc.1 hc.2.1 hc.2.2 hv (at_ e o) 0 (by simp [Addr.add])
      refine ⟨w', h1, h2.congr rfl fun x => ?_⟩
      rw [Heap.get_put, Heap.get_put, Heap.get_put]
      by_cases hx : x = b
      · rw [if_pos hx, if_pos hx]
      · rw [if_neg hx, if_neg hx, if_neg hx]
    · cases hw
  · cases hw
end
end Abs
end Go.Proofs.YtmgbcaboljilnaaGreatDoor
