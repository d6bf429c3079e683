/- The abstract machine: slices.Insert at []string as a summary: the old block is given up; what comes back is a block of its own. The abstract machine: the library's searches in strings, and strings.Join, as summaries. -/
import Derived.Test.YtbjpoelgcehidaaGreatDoorA30
import Derived.Shelf.Spec.SlicesInsertGrow
import Derived.Lib.Bytealg
import Derived.Lib.Join
import Derived.Laws.Externs
namespace Go.Proofs.YtbjpoelgcehidaaGreatDoor
namespace Abs
noncomputable section
set_option linter.unusedVariables false
set_option linter.unusedSimpArgs false
open Go.RowKit Go.Shelf

def strQ : V → Bool
  | .str _ => true
  | _ => false
/-- slices.Insert; st: the type string's number. -/
def insertSum (st : Nat) (args : List V) (h : Heap) : Option (V × Heap) :=
  match args with
  | [s, .int .i64 i, .slice (some (vb, vo)) m mc] => match h.get vb with
    | some (.cells vc (.tip [] 0 (some t))) =>
      if t = st ∧ vo + m ≤ vc.length ∧ m ≠ 0 ∧ m ≤ 1000000 ∧ ((vc.drop vo).take m).all strQ = true ∧ 0 ≤ i then
        match s with
        | .slice none 0 0 => if i = 0 then some (.oslice h.size 0 ((vc.drop vo).take m).length ((vc.drop vo).take m).length 1, h.push (.cells ((vc.drop vo).take m) (.tip [] 0 (some t)))) else none
        | .oslice b 0 n cap 1 => match h.get b with
          | some (.cells cs (.tip S 0 (some t'))) =>
            if t' = st ∧ i ≤ n ∧ n ≤ cs.length ∧ n ≤ 1000000 ∧ (cs.take n).all strQ = true ∧ vb ≠ b ∧ S.contains vb = false then
              some (.oslice h.size 0 ((cs.take n).take i.toNat ++ (vc.drop vo).take m ++ (cs.take n).drop i.toNat).length ((cs.take n).take i.toNat ++ (vc.drop vo).take m ++ (cs.take n).drop i.toNat).length 1,
                ((h.kill S).put b .dead).push (.cells ((cs.take n).take i.toNat ++ (vc.drop vo).take m ++ (cs.take n).drop i.toNat) (.tip [] 0 (some t))))
            else none
          | _ => none
        | _ => none
      else none
    | _ => none
  | _ => none

section
variable {P : Program} {B : Nat} {w0 w : World} {ρ : Rho} {h : Heap}

/-- An object is given up. -/
theorem Rel.dead1 (r : Rel P B w0 ρ h w) (b : Nat) (hlt : b < h.size) : Rel P B w0 ρ (h.put b .dead) w := by
  refine ⟨fun x e hx => r.dom x e hx, fun x e hx => ?_, ?_, fun x e o h1 h2 h3 => ?_, fun x hx => ?_, r.below, r.base, r.glob⟩
  · rw [Heap.get_put]
    by_cases hxb : x = b
    · rw [if_pos hxb]; exact ⟨_, rfl, trivial⟩
    · rw [if_neg hxb]; exact r.obj x e hx
  · intro x x' e1 e2 o1 o2 S h1 h2 h3 h4 h5 h6 h7 h8
    rw [Heap.get_put] at h4 h6
    by_cases hx : x = b
    · rw [if_pos hx] at h4; cases h4; cases h5
    · rw [if_neg hx] at h4
      by_cases hx' : x' = b
      · rw [if_pos hx'] at h6; cases h6; cases h7
      · rw [if_neg hx'] at h6
        exact r.sep x x' e1 e2 o1 o2 S h1 h2 h3 h4 h5 h6 h7 h8
  · rw [Heap.get_put] at h2
    by_cases hxb : x = b
    · rw [if_pos hxb] at h2; cases h2; cases h3
    · rw [if_neg hxb] at h2; exact r.live x e o h1 h2 h3
  · rw [Heap.get_put, if_neg (by simp only [Heap.size_put] at hx; omega)]
    exact r.fresh x (by simpa only [Heap.size_put] using hx)

/-- A block that no object holds is written to. -/
theorem Rel.elsewhere (r : Rel P B w0 ρ h w) {g : Nat} (hB : B ≤ g) (hfree : ∀ b' e' o', ρ b' = some e' → h.get b' = some o' → o'.alive = true → e'.blk ≠ g) (o : Nat) (u : Value) : Rel P B w0 ρ h (w.setCell ⟨g, o, none⟩ u) := by
  refine ⟨r.dom, fun x e hx => ?_, r.sep, fun x e o' h1 h2 h3 => ?_, r.fresh, r.below.setCell hB u, by simpa [World.setCell] using r.base, r.glob⟩
  · obtain ⟨o', q1, q2⟩ := r.obj x e hx
    refine ⟨o', q1, ?_⟩
    cases ha : o'.alive with
    | false => cases o' <;> first | (cases ha; done) | trivial
    | true => exact q2.heap (heap_setCell_ne w ⟨g, o, none⟩ u e.blk (hfree x e o' hx q1 ha))
  · simpa [World.setCell] using r.live x e o' h1 h2 h3
theorem Rel.elsewheres {g : Nat} (hB : B ≤ g) : ∀ (us : List Value) (o : Nat) {w : World} (r : Rel P B w0 ρ h w), (∀ b' e' o', ρ b' = some e' → h.get b' = some o' → o'.alive = true → e'.blk ≠ g) → Rel P B w0 ρ h (w.setCells g o us)
  | [], o, w, r, _ => r
  | u :: us, o, w, r, hf => Rel.elsewheres hB us (o + 1) (r.elsewhere hB hf o u) hf
theorem own_drew {e : Emb} {n fz : Nat} {ty : Option Nat} (ho : Own w e n fz ty) : Own w.drew e n fz ty := ⟨ho.shape, ho.room⟩
theorem below_setCells {B : Nat} {a : World} {g : Nat} (hg : B ≤ g) : ∀ (us : List Value) (o : Nat) {w : World}, Below B a w → Below B a (w.setCells g o us)
  | [], _, _, hb => hb
  | u :: us, o, w, hb => below_setCells hg us (o + 1) (hb.setCell (p := ⟨g, o, none⟩) hg u)
theorem own_setCells {e : Emb} {n fz : Nat} {ty : Option Nat} (g : Nat) : ∀ (us : List Value) (o : Nat) {w : World}, Own w e n fz ty → Own (w.setCells g o us) e n fz ty
  | [], _, _, ho => ho
  | u :: us, o, w, ho => own_setCells g us (o + 1) (own_setCell ho ⟨g, o, none⟩ u)

/-- What comes back lies in a block that no object holds. -/
theorem ret_new {w' : World} (r : Rel P B w0 ρ h w') {g cap' el : Nat} {c : Array Value} {fr : Nat × Nat} (hB : B ≤ g) (hgc : w'.heap[g]? = some (.cells c el fr)) (hfr : fr.1 = fr.2 ∨ fr.2 ≤ 0) (hcap : cap' ≤ c.size) (hcm : cap' ≤ 9223372036854775807)
    {news : List V} {us : List Value} (hv : VRs ρ news us) (hN : news.length ≤ cap') (hcell : ∀ j v, us[j]? = some v → w'.cell? ⟨g, j, none⟩ = some v) (hfree : ∀ b' e' o', ρ b' = some e' → h.get b' = some o' → o'.alive = true → e'.blk ≠ g) :
    Ret P B w0 ρ h.size (.oslice h.size 0 news.length news.length 1) (h.push (.cells news (.tip [] 0 (some el)))) (.slice (some ⟨g, 0, none⟩) news.length cap') w' := by
  have hnone : ρ h.size = none := r.none_at
  have hgl : g < w'.heap.size := (Array.getElem?_eq_some_iff.1 hgc).1
  have r2 := (r.push (.cells news (.tip [] 0 (some el)))).layAt (b := h.size) (o := .cells news (.tip [] 0 (some el))) hnone (by rw [Heap.size_push]; omega) (by rw [Heap.get_push, if_pos rfl]) ⟨g, 0, c.size⟩ hgl
    (fun b' e' o' h1 h2 h3 he => by
      have hlt := r.dom b' e' h1
      rw [Heap.get_push, if_neg (by omega)] at h2
      exact hfree b' e' o' h1 h2 h3 he)
    ⟨hB, fun i v hi => by
      obtain ⟨u, q1, q2⟩ := hv.get i v hi
      refine ⟨u, ?_, q2.mono (with_le hnone)⟩
      have := hcell i u q1
      simpa [at_] using this, ⟨⟨c, el, fr, hgc, rfl, hfr.elim .inl fun q => .inr (.inl (by simpa using q)), fun t ht => ⟨by cases ht; rfl, rfl⟩⟩, by simp only [Nat.zero_add]; omega⟩⟩
  exact ⟨_, VR.oslice h.size 0 news.length news.length 1 cap' ⟨g, 0, c.size⟩ ⟨g, 0, none⟩ with_same (fun _ => ⟨rfl, .inr ⟨by simp only [Nat.zero_add, Nat.mul_one]; exact hcap, hcm⟩⟩) (Nat.le_refl _) hN, r2, New.with_ hnone (Nat.le_refl _)⟩

theorem strs_one : ∀ {cs : List V} {us : List Value}, VRs ρ cs us → cs.all strQ = true → ∀ u ∈ us, u.oneCell' = true
  | _, _, .nil, _, u, hu => by cases hu
  | _, _, .cons v u x a hv ht, hs, u', hu => by
    simp only [List.all_cons, Bool.and_eq_true] at hs
    rcases List.mem_cons.1 hu with rfl | hu
    · cases hv <;> first | rfl | (cases hs.1; done)
    · exact strs_one ht hs.2 u' hu
theorem VRs.takeN : ∀ {cs : List V} {us : List Value} (n : Nat), VRs ρ cs us → VRs ρ (cs.take n) (us.take n)
  | _, _, 0, _ => .nil
  | _, _, n + 1, .nil => .nil
  | _, _, n + 1, .cons v u x a h t => .cons v u _ _ h (t.takeN n)
theorem VRs.dropN : ∀ {cs : List V} {us : List Value} (n : Nat), VRs ρ cs us → VRs ρ (cs.drop n) (us.drop n)
  | _, _, 0, h => h
  | _, _, n + 1, .nil => .nil
  | _, _, n + 1, .cons v u x a h t => t.dropN n
theorem VRs.cat : ∀ {cs ds : List V} {us vs : List Value}, VRs ρ cs us → VRs ρ ds vs → VRs ρ (cs ++ ds) (us ++ vs)
  | _, _, _, _, .nil, h => h
  | _, _, _, _, .cons v u x a h t, k => .cons v u _ _ h (t.cat k)

/-- Three parts of a row. -/
theorem three_cells {W' : World} {g off : Nat} {xs ys zs : List Value} (h1 : ∀ j v, xs[j]? = some v → W'.cell? ⟨g, off + j, none⟩ = some v) (h2 : ∀ j v, ys[j]? = some v → W'.cell? ⟨g, off + (xs.length + j), none⟩ = some v)
    (h3 : ∀ j v, zs[j]? = some v → W'.cell? ⟨g, off + (xs.length + ys.length + j), none⟩ = some v) (j : Nat) (v : Value) (hj : (xs ++ ys ++ zs)[j]? = some v) : W'.cell? ⟨g, off + j, none⟩ = some v := by
  rw [List.getElem?_append] at hj
  split at hj
  · rw [List.getElem?_append] at hj
    split at hj
    · exact h1 j v hj
    · have := h2 _ v hj
      rwa [show xs.length + (j - xs.length) = j by omega] at this
  · rename_i hl
    simp only [List.length_append] at hl hj
    have := h3 _ v hj
    rwa [show xs.length + ys.length + (j - (xs.length + ys.length)) = j by omega] at this

/-- The roads' common end, where a new row was laid. -/
theorem ret_fresh {w' : World} {h2 : Heap} (r : Rel P B w0 ρ h2 w) (hb : Below w.heap.size w w') {cap' el : Nat} {c : Array Value} (hgc : w'.heap[w.heap.size]? = some (.cells c el (0, 0))) (hcap : cap' ≤ c.size) (hcm : cap' ≤ 9223372036854775807)
    {news : List V} {us : List Value} (hv : VRs ρ news us) (hN : news.length ≤ cap') (hcell : ∀ j v, us[j]? = some v → w'.cell? ⟨w.heap.size, j, none⟩ = some v) :
    Ret P B w0 ρ h2.size (.oslice h2.size 0 news.length news.length 1) (h2.push (.cells news (.tip [] 0 (some el)))) (.slice (some ⟨w.heap.size, 0, none⟩) news.length cap') w' :=
  ret_new (r.below_keep hb) r.base hgc (.inl rfl) hcap hcm hv hN hcell fun b' e' o' h1 h2 h3 he => by
    have := r.live b' e' o' h1 h2 h3
    omega

theorem insert_snd {ρr : Ren} (L : Lays2.n22 P ρr) (hen : ∀ args w, (callFunc (ρr.f 22) args).run P w = .ok (.enter (ρr.f 22) args) w) {args : List V} {v : V} {h' : Heap} (hx : insertSum (ρr.t 9) args h = some (v, h')) :
    HM h h' ∧ ∀ (ρ : Rho) (w : World) (us : Array Value), Rel P B w0 ρ h w → VRs ρ args us.toList → CallSnd P B w0 ρ (ρr.f 22) us w h v h' := by
  unfold insertSum at hx
  split at hx
  rotate_left
  · cases hx
  rename_i s i vb vo m mc
  split at hx
  rotate_left
  · cases hx
  rename_i vc t hvb
  split at hx
  rotate_left
  · cases hx
  rename_i hc
  obtain ⟨ht, hvl, hm0, hmx, hvs, hi0⟩ := hc
  subst ht
  have hnl : ((vc.drop vo).take m).length = m := by simp; omega
  have vfacts : ∀ (ρ : Rho) (w : World) (r : Rel P B w0 ρ h w) (u : Value), VR ρ (.slice (some (vb, vo)) m mc) u → ∃ ev us2, ρ vb = some ev ∧ u = .slice (some ⟨ev.blk, vo, none⟩) m mc ∧ VRs ρ ((vc.drop vo).take m) us2 ∧ us2.length = m ∧
      (∀ j x, us2[j]? = some x → w.cell? ⟨ev.blk, vo + j, none⟩ = some x) ∧ (∀ u ∈ us2, u.oneCell' = true) ∧ ∃ c fr, w.heap[ev.blk]? = some (.cells c (ρr.t 9) fr) ∧ (fr.1 = fr.2 ∨ fr.2 ≤ 0) := by
    intro ρ w r u hu
    cases hu with
    | slice _ _ _ _ e a he ha hl =>
    have ha := ha (by omega)
    obtain ⟨o0, g0, g1⟩ := r.obj vb e he
    rw [hvb] at g0
    cases g0
    obtain ⟨hB, hcf, ⟨c, el, fr, hcc, hsz, hfr, hty⟩, hroom⟩ := g1
    obtain ⟨rfl, hoff⟩ := hty _ rfl
    obtain ⟨us2, q1, q2⟩ := facts_list (w := w) (ρ := ρ) (e := e) ((vc.drop vo).take m) vo (fun i v hv => by
      refine hcf (vo + i) v ?_
      rw [List.getElem?_take] at hv
      split at hv
      · rwa [List.getElem?_drop] at hv
      · cases hv)
    refine ⟨e, us2, he, by rw [ha]; simp [at_, hoff], q1, by rw [← VRs.length q1]; exact hnl, fun j x hj => ?_, strs_one q1 hvs, c, fr, hcc, ?_⟩
    · have := q2 j x hj
      rw [at_add] at this
      simpa [at_, hoff] using this
    · rcases hfr with q | q | q
      · exact .inl q
      · exact .inr (by omega)
      · cases q.1
  split at hx
  · -- nil
    split at hx
    rotate_left
    · cases hx
    rename_i hi
    subst hi
    cases hx
    refine ⟨HM.push _ _, fun ρ w us r hv => ?_⟩
    obtain ⟨us⟩ := us
    cases hv with
    | cons _ u0 _ _ hu0 ht =>
    cases ht with
    | cons _ u1 _ _ hu1 ht =>
    cases ht with
    | cons _ u2 _ _ hu2 ht =>
    cases ht
    cases hu0
    cases hu1
    obtain ⟨ev, us2, he, rfl, q1, q2, q3, q4, c, fr, hcc, hfr⟩ := vfacts ρ w r u2 hu2
    refine snd_calls (hen _ _) ((Any2.slices_Insert_string_end_grow L none 0 0 ev.blk vo m mc [] us2 w (by omega) (Nat.le_refl _) (by omega) (by omega) rfl q2 (fun _ => rfl) (fun a h => by cases h) q3 q4).mono fun e w' q => ?_)
    obtain ⟨rfl, rfl⟩ := q
    have hge := grownCap_ge w (0 + m) 0 (ρr.t 9)
    have hx := ret_fresh r (((Below.refl _ w).drew).alloc (Nat.le_refl _) (.cells (([] ++ us2).toArray ++ Builtin.zeroCells (Value.string ⟨#[]⟩).cells (grownCap w (0 + m) 0 (ρr.t 9) - (0 + m))) (ρr.t 9)))
      (cap' := grownCap w (0 + m) 0 (ρr.t 9)) (alloc_at w.drew _) (by simp only [Array.size_append, size_zeroCells, List.size_toArray, List.nil_append, q2]; have : (Value.string ⟨#[]⟩).cells.size = 1 := rfl; rw [this]; omega) (grownCap_le_maxLen w _ 0 _ (by unfold maxLen; omega)) q1 (by rw [hnl]; omega)
      (fun j v hj => by
        show (w.drew.alloc _).cell? ⟨w.drew.heap.size, j, none⟩ = some v
        rw [World.cell?_alloc_new, List.nil_append, Array.getElem?_append_left (by simpa using (List.getElem?_eq_some_iff.1 hj).1)]
        simpa using hj)
    rw [show 0 + m = ((vc.drop vo).take m).length by omega] at hx ⊢
    exact hx
  · -- a slice that may have room
    rename_i b n cap
    split at hx
    rotate_left
    · cases hx
    rename_i cs S t' hg
    split at hx
    rotate_left
    · cases hx
    rename_i hc
    obtain ⟨ht', hin, hncs, hnx, hcss, hne, hS⟩ := hc
    subst ht'
    obtain ⟨k, rfl⟩ : ∃ k : Nat, i = k := ⟨i.toNat, by omega⟩
    have hkn : k ≤ n := by omega
    cases hx
    rw [Int.toNat_natCast]
    refine ⟨(HM.kill S h).trans ((HM.put _ _ _).trans (HM.push _ _)), fun ρ w us r hv => ?_⟩
    have hS' : vb ∉ S := fun hm => by rw [List.contains_iff_mem.2 hm] at hS; cases hS
    obtain ⟨us⟩ := us
    cases hv with
    | cons _ u0 _ _ hu0 ht =>
    cases ht with
    | cons _ u1 _ _ hu1 ht =>
    cases ht with
    | cons _ u2 _ _ hu2 ht =>
    cases ht
    cases hu1
    cases hu0 with
    | oslice _ _ _ _ _ cap' e a he ha hl hcp =>
    obtain ⟨ev, us2, hev, rfl, q1, q2, q3, q4, c2, fr2, hcc2, hfr2⟩ := vfacts ρ w r u2 hu2
    have blt := r.dom b e he
    have r1 := r.killed he hg
    have g1b : ((h.kill S).put b (.cells cs (.tip [] 0 (some (ρr.t 9))))).get b = some (.cells cs (.tip [] 0 (some (ρr.t 9)))) := by rw [Heap.get_put, if_pos rfl]
    have g1v : ((h.kill S).put b (.cells cs (.tip [] 0 (some (ρr.t 9))))).get vb = some (.cells vc (.tip [] 0 (some (ρr.t 9)))) := by rw [Heap.get_put, if_neg hne, Heap.kill_get, if_neg (fun q => hS' q.1)]; exact hvb
    have hblk : ev.blk ≠ e.blk := fun q => by
      have := (r1.sep b vb e ev _ _ [] he hev (Ne.symm hne) g1b rfl g1v rfl q).1
      cases this
    have hfree : ∀ b' e' o', ρ b' = some e' → ((h.kill S).put b .dead).get b' = some o' → o'.alive = true → e'.blk ≠ e.blk := by
      intro b' e' o' h1 h2 h3 q
      rw [Heap.get_put] at h2
      by_cases hb' : b' = b
      · rw [if_pos hb'] at h2; cases h2; cases h3
      · rw [if_neg hb'] at h2
        have := (r1.sep b b' e e' _ o' [] he h1 (Ne.symm hb') g1b rfl (by rw [Heap.get_put, if_neg hb']; exact h2) h3 q).1
        cases this
    have r2 : Rel P B w0 ρ ((h.kill S).put b .dead) w := (r1.dead1 b (by rw [Heap.size_put, Heap.kill_size]; exact blt)).congr (by simp only [Heap.size_put]) fun x => by
      rw [Heap.get_put, Heap.get_put, Heap.get_put]
      by_cases hx : x = b
      · rw [if_pos hx, if_pos hx]
      · rw [if_neg hx, if_neg hx, if_neg hx]
    have hsz : ((h.kill S).put b .dead).size = h.size := by rw [Heap.size_put, Heap.kill_size]
    obtain ⟨o0, g0, gr⟩ := r.obj b e he
    rw [hg] at g0
    cases g0
    obtain ⟨hB, hcf, hown⟩ := gr
    have hown0 := hown
    obtain ⟨⟨c, el, fr, hcc, hcsz, hfr, hty⟩, hroom⟩ := hown
    obtain ⟨rfl, hoff⟩ := hty _ rfl
    have hfr' : fr.1 = fr.2 ∨ fr.2 ≤ 0 := by
      rcases hfr with q | q | q
      · exact .inl q
      · exact .inr (by omega)
      · cases q.1
    have htl : (cs.take n).length = n := by simp; omega
    obtain ⟨us1, p1, p2⟩ := facts_list (w := w) (ρ := ρ) (e := e) (cs.take n) 0 (fun i v hv => by
      refine hcf (0 + i) v ?_
      rw [List.getElem?_take] at hv
      split at hv
      · rwa [Nat.zero_add]
      · cases hv)
    have p3 : us1.length = n := by rw [← VRs.length p1]; exact htl
    have p4 : ∀ j x, us1[j]? = some x → w.cell? ⟨e.blk, j, none⟩ = some x := fun j x hj => by
      have := p2 j x hj
      rw [at_add] at this
      simpa [at_, hoff] using this
    have p5 := strs_one p1 hcss
    have hnews : VRs ρ ((cs.take n).take k ++ (vc.drop vo).take m ++ (cs.take n).drop k) (us1.take k ++ us2 ++ us1.drop k) := ((p1.takeN k).cat q1).cat (p1.dropN k)
    have hNl : ((cs.take n).take k ++ (vc.drop vo).take m ++ (cs.take n).drop k).length = n + m := by simp only [List.length_append, List.length_take, List.length_drop, hnl]; omega
    have hk1 : (us1.take k).length = k := by simp; omega
    have hk2 : (us1.drop k).length = n - k := by simp; omega
    by_cases hrm : n + m ≤ cap'
    · -- in place
      obtain ⟨rfl, hlim⟩ := ha (by omega)
      obtain ⟨hlim, hc63⟩ : cap' ≤ e.lim ∧ cap' ≤ 9223372036854775807 := by
        rcases hlim with q | q
        · cases q
        · exact ⟨by omega, q.2⟩
      have hat : at_ e 0 = ⟨e.blk, 0, none⟩ := by simp [at_, hoff]
      have hsome : ∀ j, j < n + m → (w.cell? ⟨e.blk, j, none⟩).isSome = true := fun j hj => by
        simp only [World.cell?, hcc]
        simp; omega
      have hnf : ∀ j, j < n + m → w.frozen? ⟨e.blk, j, none⟩ = false := fun j hj => by
        have := notFrozen hown0 (i := j) (Nat.zero_le _) (by omega)
        simpa [at_, hoff] using this
      rw [hat]
      by_cases hkn' : k < n
      · refine snd_calls (hen _ _) ((Any2.slices_Insert_string_shift L e.blk 0 n cap' k ev.blk vo m mc us1 us2 w hkn' (by omega) hrm hc63 hblk p3 q2 (fun j v hj => by rw [Nat.zero_add]; exact p4 j v hj) (fun j hj => by rw [Nat.zero_add]; exact hsome j hj) (fun j hj => by rw [Nat.zero_add]; exact hnf j hj) q3 p5 q4
          (ρr.t 9) (ρr.t 9) c2.size c.size (by simp only [World.shape?, hcc2]) (by simp only [World.shape?, hcc]) (by omega) ?_ ?_).mono fun e1 w' q => ?_)
        · simp only [World.frozen?, hcc2]; rcases hfr2 with q | q <;> simp <;> omega
        · simp only [World.frozen?, hcc2]; rcases hfr2 with q | q <;> simp <;> omega
        · obtain ⟨rfl, hw'⟩ := q
          rw [Nat.zero_add, Nat.zero_add] at hw'
          subst hw'
          have r3 := Rel.elsewheres hB us2 k (Rel.elsewheres hB (us1.drop k) (k + m) r2.drew hfree) hfree
          obtain ⟨⟨c', el', fr', h1, h2, h3, h4⟩, h5⟩ := own_setCells e.blk us2 k (own_setCells e.blk (us1.drop k) (k + m) (own_drew hown0))
          obtain ⟨rfl, _⟩ := h4 _ rfl
          have h3' : fr'.1 = fr'.2 ∨ fr'.2 ≤ 0 := by
            rcases h3 with q | q | q
            · exact .inl q
            · exact .inr (by omega)
            · cases q.1
          have hcell : ∀ j v, (us1.take k ++ us2 ++ us1.drop k)[j]? = some v → ((w.drew.setCells e.blk (k + m) (us1.drop k)).setCells e.blk k us2).cell? ⟨e.blk, j, none⟩ = some v := by
            intro j v hj
            have key := three_cells (W' := (w.drew.setCells e.blk (k + m) (us1.drop k)).setCells e.blk k us2) (g := e.blk) (off := 0) (xs := us1.take k) (ys := us2) (zs := us1.drop k)
              (fun j x hj => by
                have hjk : j < k := by have := (List.getElem?_eq_some_iff.1 hj).1; omega
                rw [World.cell?_setCells_out _ _ _ _ _ (fun _ _ => Or.inl (by simp only; omega)), World.cell?_setCells_out _ _ _ _ _ (fun _ _ => Or.inl (by simp only; omega)), Nat.zero_add]
                exact p4 j x (by rwa [List.getElem?_take, if_pos hjk] at hj))
              (fun j x hj => by
                have hjm : j < us2.length := (List.getElem?_eq_some_iff.1 hj).1
                rw [hk1, Nat.zero_add, World.cell?_setCells_in e.blk us2 k (w.drew.setCells e.blk (k + m) (us1.drop k)) (fun j hj => isSome_setCells e.blk (us1.drop k) (k + m) w.drew (fun j hj => hsome _ (by omega)) _ (hsome _ (by omega))) j hjm, ← List.getElem?_eq_getElem hjm]; exact hj)
              (fun j x hj => by
                have hjm : j < (us1.drop k).length := (List.getElem?_eq_some_iff.1 hj).1
                rw [hk1, q2, Nat.zero_add, World.cell?_setCells_out _ _ _ _ _ (fun _ _ => Or.inr (by simp only; omega)), World.cell?_setCells_in e.blk (us1.drop k) (k + m) w.drew (fun j hj => hsome _ (by omega)) j hjm, ← List.getElem?_eq_getElem hjm]; exact hj) j v hj
            rwa [Nat.zero_add] at key
          have hx := ret_new r3 hB h1 h3' (cap' := cap') (by omega) hc63 hnews (by omega) hcell hfree
          rw [hsz, hNl] at hx
          rw [hNl]
          exact hx
      · obtain rfl : k = n := by omega
        refine snd_calls (hen _ _) ((Any2.slices_Insert_string_end_room L e.blk 0 k cap' ev.blk vo m mc us2 w (by omega) hrm hc63 q2 (fun j hj => by rw [Nat.zero_add]; exact hsome _ (by omega)) (fun j hj => by rw [Nat.zero_add]; exact hnf _ (by omega)) q3 q4).mono fun e1 w' q => ?_)
        obtain ⟨rfl, hw'⟩ := q
        rw [Nat.zero_add] at hw'
        subst hw'
        have r3 := Rel.elsewheres hB us2 k r2 hfree
        obtain ⟨⟨c', el', fr', h1, h2, h3, h4⟩, h5⟩ := own_setCells e.blk us2 k hown0
        obtain ⟨rfl, _⟩ := h4 _ rfl
        have h3' : fr'.1 = fr'.2 ∨ fr'.2 ≤ 0 := by
          rcases h3 with q | q | q
          · exact .inl q
          · exact .inr (by omega)
          · cases q.1
        have hcell : ∀ j v, (us1.take k ++ us2 ++ us1.drop k)[j]? = some v → (w.setCells e.blk k us2).cell? ⟨e.blk, j, none⟩ = some v := by
          intro j v hj
          have key := three_cells (W' := w.setCells e.blk k us2) (g := e.blk) (off := 0) (xs := us1.take k) (ys := us2) (zs := us1.drop k)
            (fun j x hj => by
              have hjk : j < k := by have := (List.getElem?_eq_some_iff.1 hj).1; omega
              rw [World.cell?_setCells_out _ _ _ _ _ (fun _ _ => Or.inl (by simp only; omega)), Nat.zero_add]
              exact p4 j x (by rwa [List.getElem?_take, if_pos hjk] at hj))
            (fun j x hj => by
              have hjm : j < us2.length := (List.getElem?_eq_some_iff.1 hj).1
              rw [hk1, Nat.zero_add, World.cell?_setCells_in e.blk us2 k w (fun j hj => hsome _ (by omega)) j hjm, ← List.getElem?_eq_getElem hjm]; exact hj)
            (fun j x hj => by
              have := (List.getElem?_eq_some_iff.1 hj).1
              omega) j v hj
          rwa [Nat.zero_add] at key
        have hx := ret_new r3 hB h1 h3' (cap' := cap') (by omega) hc63 hnews (by omega) hcell hfree
        rw [hsz, hNl] at hx
        rw [hNl]
        exact hx
    · -- a new row
      by_cases hkn' : k < n
      · obtain ⟨rfl, hlim⟩ := ha (by omega)
        have hat : at_ e 0 = ⟨e.blk, 0, none⟩ := by simp [at_, hoff]
        rw [hat]
        refine snd_calls (hen _ _) ((Any2.slices_Insert_string_grow L e.blk 0 n cap' k ev.blk vo m mc us1 us2 w hkn' (by omega) (by omega) (by omega) (by omega) p3 q2 (fun j v hj => by rw [Nat.zero_add]; exact p4 j v hj) q3 p5 q4).mono fun e1 w' q => ?_)
        obtain ⟨rfl, rfl⟩ := q
        have hge := grownCap_ge w (n + m) cap' (ρr.t 9)
        have hle := grownCap_le_maxLen w (n + m) cap' (ρr.t 9) (by unfold maxLen; omega)
        have hz1 : (Value.string ⟨#[]⟩).cells.size = 1 := rfl
        generalize hcap : grownCap w (n + m) cap' (ρr.t 9) = cap2 at hge hle ⊢
        generalize hC : (us1.take k).toArray ++ Builtin.zeroCells (Value.string ⟨#[]⟩).cells (n + m - k) ++ Builtin.zeroCells (Value.string ⟨#[]⟩).cells (cap2 - (n + m)) = C0
        have hCs : C0.size = cap2 := by rw [← hC]; simp only [Array.size_append, size_zeroCells, List.size_toArray, hz1, hk1]; omega
        have hC1 : ∀ j x, (us1.take k)[j]? = some x → C0[j]? = some x := fun j x hj => by
          have := (List.getElem?_eq_some_iff.1 hj).1
          rw [← hC, Array.getElem?_append_left (by simp only [Array.size_append, List.size_toArray]; omega), Array.getElem?_append_left (by simpa using this)]
          simpa using hj
        have hW0 : ∀ x, x < n + m → ((w.alloc (.cells C0 (ρr.t 9))).cell? ⟨w.heap.size, x, none⟩).isSome = true := fun x hx => by rw [World.cell?_alloc_new]; simp; omega
        have hbel : Below w.heap.size w ((((w.alloc (.cells C0 (ρr.t 9))).drew.setCells w.heap.size k us2).drew).setCells w.heap.size (k + m) (us1.drop k)) :=
          below_setCells (Nat.le_refl _) _ _ (below_setCells (Nat.le_refl _) _ _ ((Below.refl _ w).alloc (Nat.le_refl _) _).drew).drew
        have ow0 : Own (w.alloc (.cells C0 (ρr.t 9))) ⟨w.heap.size, 0, C0.size⟩ 0 0 (some (ρr.t 9)) := ⟨⟨C0, ρr.t 9, (0, 0), alloc_at w _, rfl, .inl rfl, fun t ht => ⟨by cases ht; rfl, rfl⟩⟩, by simp⟩
        obtain ⟨⟨c', el', fr', h1, h2, h3, h4⟩, h5⟩ := own_setCells w.heap.size (us1.drop k) (k + m) (w := ((w.alloc (.cells C0 (ρr.t 9))).drew.setCells w.heap.size k us2).drew) (own_drew (own_setCells w.heap.size us2 k (w := (w.alloc (.cells C0 (ρr.t 9))).drew) (own_drew ow0)))
        obtain ⟨rfl, _⟩ := h4 _ rfl
        have h2 : c'.size = C0.size := h2
        have h1 : _ = some (Go.Obj.cells c' (ρr.t 9) fr') := h1
        have h3' : fr'.1 = fr'.2 ∨ fr'.2 ≤ 0 := by
          rcases h3 with q | q | q
          · exact .inl q
          · exact .inr (by simpa using q)
          · cases q.1
        have hcell : ∀ j v, (us1.take k ++ us2 ++ us1.drop k)[j]? = some v → ((((w.alloc (.cells C0 (ρr.t 9))).drew.setCells w.heap.size k us2).drew).setCells w.heap.size (k + m) (us1.drop k)).cell? ⟨w.heap.size, j, none⟩ = some v := by
          intro j v hj
          have key := three_cells (W' := (((w.alloc (.cells C0 (ρr.t 9))).drew.setCells w.heap.size k us2).drew).setCells w.heap.size (k + m) (us1.drop k)) (g := w.heap.size) (off := 0) (xs := us1.take k) (ys := us2) (zs := us1.drop k)
            (fun j x hj => by
              have hjk : j < k := by have := (List.getElem?_eq_some_iff.1 hj).1; omega
              rw [World.cell?_setCells_out _ _ _ _ _ (fun _ _ => Or.inl (by simp only; omega))]
              show ((w.alloc (.cells C0 (ρr.t 9))).drew.setCells w.heap.size k us2).cell? _ = _
              rw [World.cell?_setCells_out _ _ _ _ _ (fun _ _ => Or.inl (by simp only; omega)), Nat.zero_add]
              show (w.alloc (.cells C0 (ρr.t 9))).cell? _ = _
              rw [World.cell?_alloc_new]
              exact hC1 j x hj)
            (fun j x hj => by
              have hjm : j < us2.length := (List.getElem?_eq_some_iff.1 hj).1
              rw [hk1, World.cell?_setCells_out _ _ _ _ _ (fun _ _ => Or.inl (by simp only; omega)), Nat.zero_add]
              show ((w.alloc (.cells C0 (ρr.t 9))).drew.setCells w.heap.size k us2).cell? _ = _
              rw [World.cell?_setCells_in w.heap.size us2 k (w.alloc (.cells C0 (ρr.t 9))).drew (fun j hj => hW0 _ (by omega)) j hjm, ← List.getElem?_eq_getElem hjm]; exact hj)
            (fun j x hj => by
              have hjm : j < (us1.drop k).length := (List.getElem?_eq_some_iff.1 hj).1
              rw [hk1, q2, Nat.zero_add, World.cell?_setCells_in w.heap.size (us1.drop k) (k + m) (((w.alloc (.cells C0 (ρr.t 9))).drew.setCells w.heap.size k us2).drew) (fun j hj => isSome_setCells w.heap.size us2 k (w.alloc (.cells C0 (ρr.t 9))).drew (fun j hj => hW0 _ (by omega)) _ (hW0 _ (by omega))) j hjm, ← List.getElem?_eq_getElem hjm]; exact hj) j v hj
          rwa [Nat.zero_add] at key
        have hx := ret_new (r2.below_keep hbel) r2.base h1 h3' (cap' := cap2) (by omega) (by unfold maxLen at hle; omega) hnews (by omega) hcell (fun b' e' o' h1 h2 h3 he => by
          have := r2.live b' e' o' h1 h2 h3
          omega)
        rw [hsz, hNl] at hx
        rw [hNl]
        exact hx
      · obtain rfl : k = n := by omega
        refine snd_calls (hen _ _) ((Any2.slices_Insert_string_end_grow L (some a) k cap' ev.blk vo m mc us1 us2 w (by omega) (by omega) (by omega) (by omega) p3 q2 (fun h => by cases h) (fun a' ha' j x hj => by
          cases ha'
          have hjm := (List.getElem?_eq_some_iff.1 hj).1
          rw [(ha (by omega)).1, at_add]
          have := p4 j x hj
          simpa [at_, hoff] using this) q3 q4).mono fun e1 w' q => ?_)
        obtain ⟨rfl, rfl⟩ := q
        have hge := grownCap_ge w (k + m) cap' (ρr.t 9)
        have hle := grownCap_le_maxLen w (k + m) cap' (ρr.t 9) (by unfold maxLen; omega)
        have hz1 : (Value.string ⟨#[]⟩).cells.size = 1 := rfl
        generalize hcap : grownCap w (k + m) cap' (ρr.t 9) = cap2 at hge hle ⊢
        have hlist : us1.take k ++ us2 ++ us1.drop k = us1 ++ us2 := by rw [List.take_of_length_le (by omega), List.drop_of_length_le (by omega), List.append_nil]
        have hx := ret_fresh r2 (((Below.refl _ w).drew).alloc (Nat.le_refl _) (.cells ((us1 ++ us2).toArray ++ Builtin.zeroCells (Value.string ⟨#[]⟩).cells (cap2 - (k + m))) (ρr.t 9)))
          (cap' := cap2) (alloc_at w.drew _) (by simp only [Array.size_append, size_zeroCells, List.size_toArray, List.length_append, hz1]; omega) (by unfold maxLen at hle; omega) hnews (by omega)
          (fun j v hj => by
            rw [hlist] at hj
            show (w.drew.alloc _).cell? ⟨w.drew.heap.size, j, none⟩ = some v
            rw [World.cell?_alloc_new, Array.getElem?_append_left (by simpa using (List.getElem?_eq_some_iff.1 hj).1)]
            simpa using hj)
        rw [hsz, hNl] at hx
        rw [hNl]
        exact hx
  · cases hx
end
end
end Abs
end Go.Proofs.YtbjpoelgcehidaaGreatDoor
namespace Go.Proofs.YtbjpoelgcehidaaGreatDoor
namespace Abs
noncomputable section
set_option linter.unusedVariables false
set_option linter.unusedSimpArgs false
open Go.RowKit

/-! ### internal/bytealg.IndexByteString, CountString -/
def idxB : List Nat → Nat → Int
  | [], _ => -1
  | b :: l, c => if Nat.beq b c = true then 0 else if idxB l c = -1 then -1 else idxB l c + 1
def cntB : List Nat → Nat → Nat
  | [], _ => 0
  | b :: l, c => if Nat.beq b c = true then cntB l c + 1 else cntB l c
theorem byte_beq (b : UInt8) (c : Nat) (hc : c < 256) : (b == c.toUInt8) = Nat.beq b.toNat c := by
  rw [Bool.eq_iff_iff]
  simp only [beq_iff_eq, Nat.beq_eq]
  constructor
  · rintro rfl
    simp [Nat.toUInt8, UInt8.toNat_ofNat']
    omega
  · intro h
    subst h
    simp [Nat.toUInt8]
theorem idxB_eq (c : Nat) (hc : c < 256) : ∀ l : List UInt8, Lib.indexByte l c.toUInt8 = idxB (l.map UInt8.toNat) c
  | [] => rfl
  | b :: l => by
    simp only [Lib.indexByte, List.map_cons, idxB, byte_beq b c hc, idxB_eq c hc l, beq_iff_eq]
theorem cntB_eq (c : Nat) (hc : c < 256) : ∀ l : List UInt8, Lib.countByte l c.toUInt8 = cntB (l.map UInt8.toNat) c
  | [] => rfl
  | b :: l => by
    have ih := cntB_eq c hc l
    unfold Lib.countByte at ih ⊢
    simp only [List.count_cons, List.map_cons, cntB, byte_beq b c hc, ih]
    split <;> simp
def idxSum (args : List V) (h : Heap) : Option (V × Heap) :=
  match args with
  | [.str s, .int .u8 c] => if 0 ≤ c ∧ c < 256 then some (.int .i64 (idxB s c.toNat), h) else none
  | _ => none
def cntSum (args : List V) (h : Heap) : Option (V × Heap) :=
  match args with
  | [.str s, .int .u8 c] => if 0 ≤ c ∧ c < 256 then some (.int .i64 (Int.ofNat (cntB s c.toNat)), h) else none
  | _ => none

section
variable {P : Program} {B : Nat} {w0 w : World} {ρ : Rho} {h : Heap}
theorem idx_snd {f : Nat} {fn : Func} (hf : P.funcs[f]? = some fn) (hname : (fn.name == "runtime.NumGoroutine") = false) (hb : fn.body.isNone = true) (hn : Extern.findNext fn = none) (he : Extern.find fn = some Extern.BytealgIndexByte.indexByte)
    {args : List V} {v : V} {h' : Heap} (hx : idxSum args h = some (v, h')) : HM h h' ∧ ∀ (ρ : Rho) (w : World) (us : Array Value), Rel P B w0 ρ h w → VRs ρ args us.toList → CallSnd P B w0 ρ f us w h v h' := by
  unfold idxSum at hx
  split at hx
  · rename_i s c
    split at hx
    · rename_i hc
      cases hx
      refine ⟨HM.refl h, fun ρ w us r hr => ?_⟩
      obtain ⟨us⟩ := us
      cases hr with
      | cons _ u _ _ hu ht =>
      cases ht with
      | cons _ u2 _ _ hu2 ht =>
      cases ht
      cases hu with
      | str b _ hb2 =>
      cases hu2
      refine .inr ⟨_, w, ?_, ρ, .int _ _, r, New.refl _ _⟩
      rw [run_callFunc_extern hf hname hb hn he, Lib.run_indexByteString]
      rw [idxB_eq _ (by omega), ← show strOf b = b.data.toList.map UInt8.toNat from rfl, ← hb2]
      rfl
    · cases hx
  · cases hx
theorem cnt_snd {f : Nat} {fn : Func} (hf : P.funcs[f]? = some fn) (hname : (fn.name == "runtime.NumGoroutine") = false) (hb : fn.body.isNone = true) (hn : Extern.findNext fn = none) (he : Extern.find fn = some Extern.BytealgCount.count)
    {args : List V} {v : V} {h' : Heap} (hx : cntSum args h = some (v, h')) : HM h h' ∧ ∀ (ρ : Rho) (w : World) (us : Array Value), Rel P B w0 ρ h w → VRs ρ args us.toList → CallSnd P B w0 ρ f us w h v h' := by
  unfold cntSum at hx
  split at hx
  · rename_i s c
    split at hx
    · rename_i hc
      cases hx
      refine ⟨HM.refl h, fun ρ w us r hr => ?_⟩
      obtain ⟨us⟩ := us
      cases hr with
      | cons _ u _ _ hu ht =>
      cases ht with
      | cons _ u2 _ _ hu2 ht =>
      cases ht
      cases hu with
      | str b _ hb2 =>
      cases hu2
      refine .inr ⟨_, w, ?_, ρ, .int _ _, r, New.refl _ _⟩
      rw [run_callFunc_extern hf hname hb hn he, Lib.run_countString]
      rw [cntB_eq _ (by omega), ← show strOf b = b.data.toList.map UInt8.toNat from rfl, ← hb2]
      rfl
    · cases hx
  · cases hx
end

/-! ### strings.Join -/
def strsV : List V → Option (List (List Nat))
  | [] => some []
  | .str s :: r => match strsV r with
    | some l => some (s :: l)
    | none => none
  | _ :: _ => none
def joinL (sep : List Nat) : List (List Nat) → List Nat
  | [] => []
  | [a] => a
  | a :: r => a ++ (sep ++ joinL sep r)
def joinSum (args : List V) (h : Heap) : Option (V × Heap) :=
  match args with
  | [x, .str sep] => match slLen x with
    | some n => match slCells h 1 n x with
      | some cs => match strsV cs with
        | some l => if (l.length ≤ 1000000 ∧ (joinL sep l).length ≤ 1000000) ∧ l.length = n then some (.str (joinL sep l), h) else none
        | none => none
      | none => none
    | none => none
  | _ => none
theorem join_eq (sep : List UInt8) : ∀ xs : List (List UInt8), (Lib.join xs sep).map UInt8.toNat = joinL (sep.map UInt8.toNat) (xs.map fun x => x.map UInt8.toNat)
  | [] => rfl
  | [a] => by simp [Lib.join, List.intercalate, joinL]
  | a :: b :: r => by
    have e : Lib.join (a :: b :: r) sep = a ++ (sep ++ Lib.join (b :: r) sep) := by simp [Lib.join, List.intercalate]
    rw [e, List.map_append, List.map_append, join_eq sep (b :: r)]
    rfl

/-- strings.Join's contract, as the library tells it at this program. -/
structure JoinS (P : Program) (f : Nat) : Prop where
  en : ∀ args w, (callFunc f args).run P w = .ok (.enter f args) w
  none : ∀ (a : Option Addr) (c : Nat) (sep : ByteArray) (w : World), Calls P f #[.slice a 0 c, .string sep] w fun e w' => e = .returned (.string ⟨#[]⟩) ∧ w' = w
  some : ∀ (bk o c : Nat) (xs : List ByteArray) (sep : ByteArray) (w : World), (∀ (j : Nat) x, xs[j]? = Option.some x → w.cell? ⟨bk, o + j, Option.none⟩ = Option.some (.string x)) → bk < w.heap.size → xs.length ≤ 140737488355328 → xs.length ≤ c →
    (Lib.join (xs.map (·.data.toList)) sep.data.toList).length ≤ 140737488355328 →
    Calls P f #[.slice (Option.some ⟨bk, o, Option.none⟩) xs.length c, .string sep] w fun e w' => e = .returned (.string ⟨(Lib.join (xs.map (·.data.toList)) sep.data.toList).toArray⟩) ∧ Below w.heap.size w w'

section
variable {P : Program} {B : Nat} {w0 w : World} {ρ : Rho} {h : Heap}
theorem rds_real (r : Rel P B w0 ρ h w) {b o n : Nat} {cs : List V} {e : Emb} (he : ρ b = some e) (hr : h.rds b o n = some cs) : ∃ us, VRs ρ cs us ∧ ∀ j v, us[j]? = some v → w.cell? ((at_ e o).add j) = some v := by
  unfold Heap.rds at hr
  split at hr
  · rename_i ds st hg
    split at hr
    · rename_i hl
      cases hr
      exact facts_list (w := w) (ρ := ρ) (e := e) ((ds.drop o).take n) o (fun i v hv => by
        refine r.facts he hg (o + i) v ?_
        rw [List.getElem?_take] at hv
        split at hv
        · rwa [List.getElem?_drop] at hv
        · cases hv)
    · cases hr
  · cases hr
theorem sl_real (r : Rel P B w0 ρ h w) {x : V} {ux : Value} {n : Nat} {cs : List V} (hn : slLen x = some n) (hc : slCells h 1 n x = some cs) (hx : VR ρ x ux) :
    ∃ base c us, ux = .slice base n c ∧ n ≤ c ∧ VRs ρ cs us ∧ (n ≠ 0 → ∃ e o, base = some (at_ e o) ∧ ∀ j v, us[j]? = some v → w.cell? ((at_ e o).add j) = some v) := by
  cases hx <;> simp only [slLen, Option.some.injEq] at hn <;> try (cases hn; done)
  · subst hn
    simp only [slCells] at hc
    cases hc
    exact ⟨none, 0, [], rfl, Nat.le_refl _, .nil, fun h => absurd rfl h⟩
  · rename_i b o len cap e a he ha hl
    subst hn
    simp only [slCells] at hc
    by_cases h0 : len = 0
    · rw [if_pos h0] at hc
      cases hc
      exact ⟨some a, cap, [], rfl, hl, .nil, fun h => absurd h0 h⟩
    · rw [if_neg h0, Nat.mul_one] at hc
      obtain ⟨us, q1, q2⟩ := rds_real r he hc
      exact ⟨some a, cap, us, rfl, hl, q1, fun _ => ⟨e, o, by rw [ha (by omega)], q2⟩⟩
  · rename_i b o len cap sz cap' e a he ha hl hcp
    subst hn
    simp only [slCells] at hc
    by_cases h0 : len = 0
    · rw [if_pos h0] at hc
      cases hc
      exact ⟨some a, cap', [], rfl, by omega, .nil, fun h => absurd h0 h⟩
    · rw [if_neg h0, Nat.mul_one] at hc
      obtain ⟨us, q1, q2⟩ := rds_real r he hc
      exact ⟨some a, cap', us, rfl, by omega, q1, fun _ => ⟨e, o, by rw [(ha (by omega)).1], q2⟩⟩
theorem strs_real : ∀ {cs : List V} {l : List (List Nat)} {us : List Value}, strsV cs = some l → VRs ρ cs us → ∃ xs : List ByteArray, us = xs.map Value.string ∧ l = xs.map strOf
  | [], l, us, hl, hv => by
    cases hl; cases hv
    exact ⟨[], rfl, rfl⟩
  | v :: cs, l, us, hl, hv => by
    cases v <;> simp only [strsV] at hl <;> try (cases hl; done)
    rename_i s
    split at hl
    · rename_i l' hl'
      cases hl
      cases hv with
      | cons _ u _ us hu ht =>
      obtain ⟨xs, q1, q2⟩ := strs_real hl' ht
      cases hu with
      | str b _ hb => exact ⟨b :: xs, by rw [q1]; rfl, by rw [q2, hb]; rfl⟩
    · cases hl
theorem join_snd {f : Nat} (J : JoinS P f) {args : List V} {v : V} {h' : Heap} (hx : joinSum args h = some (v, h')) : HM h h' ∧ ∀ (ρ : Rho) (w : World) (us : Array Value), Rel P B w0 ρ h w → VRs ρ args us.toList → CallSnd P B w0 ρ f us w h v h' := by
  unfold joinSum at hx
  split at hx
  rotate_left
  · cases hx
  rename_i x sep
  split at hx
  rotate_left
  · cases hx
  rename_i n hn
  split at hx
  rotate_left
  · cases hx
  rename_i cs hcs
  split at hx
  rotate_left
  · cases hx
  rename_i l hl
  split at hx
  rotate_left
  · cases hx
  rename_i hc
  cases hx
  refine ⟨HM.refl h, fun ρ w us r hr => ?_⟩
  obtain ⟨us⟩ := us
  cases hr with
  | cons _ u _ _ hu ht =>
  cases ht with
  | cons _ u2 _ _ hu2 ht =>
  cases ht
  cases hu2 with
  | str sb _ hsb =>
  obtain ⟨base, c, us, rfl, hnc, q1, q2⟩ := sl_real r hn hcs hu
  obtain ⟨xs, rfl, rfl⟩ := strs_real hl q1
  have hxl : xs.length = n := by simpa using hc.2
  have hj : (Lib.join (xs.map (·.data.toList)) sb.data.toList).map UInt8.toNat = joinL sep (xs.map strOf) := by
    rw [join_eq, hsb, List.map_map]; rfl
  by_cases h0 : n = 0
  · subst h0
    obtain rfl : xs = [] := List.length_eq_zero_iff.1 hxl
    refine snd_calls (J.en _ _) ((J.none base c sb w).mono fun e w' q => ?_)
    obtain ⟨rfl, rfl⟩ := q
    exact ⟨ρ, .str _ _ rfl, r, New.refl _ _⟩
  · obtain ⟨e, o, rfl, hcell⟩ := q2 h0
    have hcell' : ∀ (j : Nat) y, xs[j]? = some y → w.cell? ⟨e.blk, e.off + o + j, none⟩ = some (.string y) := fun j y hy => by
      have := hcell j (.string y) (by rw [List.getElem?_map, hy]; rfl)
      rw [at_add] at this
      simpa [at_, Nat.add_assoc] using this
    have hlt : e.blk < w.heap.size := by
      have h1 : 0 < xs.length := by omega
      have := hcell' 0 xs[0] (List.getElem?_eq_getElem h1)
      rcases Nat.lt_or_ge e.blk w.heap.size with q | q
      · exact q
      · have hn : w.heap[e.blk]? = none := Array.getElem?_eq_none q
        simp [World.cell?, hn] at this
    have hlen : (Lib.join (xs.map (·.data.toList)) sb.data.toList).length = (joinL sep (xs.map strOf)).length := by rw [← hj, List.length_map]
    have hq := J.some e.blk (e.off + o) c xs sb w hcell' hlt (by omega) (by omega) (by rw [hlen]; omega)
    rw [hxl] at hq
    refine snd_calls (J.en _ _) (hq.mono fun e1 w' q => ?_)
    obtain ⟨rfl, hb⟩ := q
    refine ⟨ρ, .str _ _ ?_, r.below_keep hb, New.refl _ _⟩
    rw [← hj]; rfl
end
end
end Abs
end Go.Proofs.YtbjpoelgcehidaaGreatDoor
