/- The second level, plainly: what is kept, and what the sectors have, while records are fed. No program is in sight. The second level, plainly: what Open finds in the sectors, what Find finds. No program is in sight. The law SecondLately, walked. -/
import Derived.Test.YtlgbdjlnbnlphaaGreatDoorD26
namespace Go.Proofs.YtlgbdjlnbnlphaaGreatDoor
namespace Abs
set_option linter.unusedVariables false
set_option linter.unusedSimpArgs false
attribute [local irreducible] WO WC WD StepK Ans Does Runs DoesD

/-- Which record is kept at a place, of the first i. -/
def pl (R : Nat) : Nat → Nat → Option Nat
  | 0, _ => none
  | i + 1, p => if p = i % R then some i else pl R i p
theorem pl_lt {R : Nat} : ∀ {i p j : Nat}, pl R i p = some j → j < i ∧ p = j % R
  | i + 1, p, j, h => by
    simp only [pl] at h
    split at h
    · cases h; rename_i q; exact ⟨Nat.lt_succ_self _, q⟩
    · have := pl_lt h; exact ⟨by omega, this.2⟩
theorem mod_ne {R i j : Nat} (h1 : j < i) (h2 : i - j < R) : j % R ≠ i % R := by
  intro h
  have q := Nat.sub_mod_eq_zero_of_mod_eq (m := i) (n := j) (k := R) h.symm
  rw [Nat.mod_eq_of_lt h2] at q
  omega
/-- Just the last records are kept. -/
theorem pl_iff {R : Nat} (hR : 0 < R) : ∀ (i j : Nat), j < i → (pl R i (j % R) = some j ↔ i ≤ j + R)
  | i + 1, j, h => by
    simp only [pl]
    by_cases e : j = i
    · subst e; rw [if_pos rfl]; simp; omega
    · have hj : j < i := by omega
      have ih := pl_iff hR i j hj
      by_cases hm : j % R = i % R
      · rw [if_pos hm]
        have : ¬ i - j < R := fun q => mod_ne hj q hm
        constructor
        · intro q; simp at q; omega
        · intro q; omega
      · rw [if_neg hm, ih]
        constructor
        · intro q
          by_cases q2 : i = j + R
          · exfalso; apply hm; rw [q2, Nat.add_mod_right]
          · omega
        · intro q; omega
def rec' (fs : List Rec) (j : Nat) : Rec := fs.getD j ([], [])
def entJ (fs : List Rec) (f p j : Nat) : Ent := fdEnt (rec' fs j).1 (rec' fs j).2 (locN f p)
def AF (fs : List Rec) (f R i : Nat) (k : Int) : Option Ent := if 0 ≤ k then (pl R i k.toNat).map fun j => entJ fs f k.toNat j else none
theorem AF_some {fs : List Rec} {f R i : Nat} {k : Int} {e : Ent} (hR : 0 < R) (h : AF fs f R i k = some e) : ∃ p j, k = (p : Nat) ∧ p < R ∧ j < i ∧ p = j % R ∧ pl R i p = some j ∧ e = entJ fs f p j := by
  unfold AF at h
  split at h
  · rw [Option.map_eq_some_iff] at h
    obtain ⟨j, h1, h2⟩ := h
    obtain ⟨h3, h4⟩ := pl_lt h1
    exact ⟨k.toNat, j, by omega, by rw [h4]; exact Nat.mod_lt _ hR, h3, h4, h1, h2.symm⟩
  · cases h
theorem AF_step {fs : List Rec} {f R i : Nat} (k : Int) : AF fs f R (i + 1) k = if k = ((i % R : Nat) : Int) then some (entJ fs f (i % R) i) else AF fs f R i k := by
  unfold AF
  by_cases h : 0 ≤ k
  · rw [if_pos h, if_pos h]
    simp only [pl]
    by_cases e : k = ((i % R : Nat) : Int)
    · rw [if_pos e, if_pos (by omega)]
      have : k.toNat = i % R := by omega
      rw [this]; rfl
    · rw [if_neg e, if_neg (by omega)]
  · rw [if_neg h, if_neg h, if_neg (by omega)]
theorem grpE_congr {A B : List (Int × Ent)} (g : Nat) : ∀ m, (∀ t < m, findI ((7 * g + t : Nat) : Int) A = findI ((7 * g + t : Nat) : Int) B) → grpE A g m = grpE B g m
  | 0, _ => rfl
  | m + 1, h => by
    simp only [grpE, h m (Nat.lt_succ_self m), grpE_congr g m (fun t ht => h t (by omega))]
/-- How many places a group has. -/
abbrev grpM (R g : Nat) : Nat := min 7 (R - 7 * g)
structure Dur (fs : List Rec) (f R i : Nat) (s1 : List (List Nat)) (A : List (Int × Ent)) : Prop where
  tx : ∀ p j, pl R i p = some j → s1.getD (locN f p) [] = (rec' fs j).2
  lg : ∀ g, 7 * g < R → (s1.getD (f + 8 * g) [] = [] ∧ grpE A g (grpM R g) = []) ∨ ∃ q : Int, 0 ≤ q ∧ q ≤ 1000 ∧ s1.getD (f + 8 * g) [] = encF q (grpE A g (grpM R g))
theorem getD_setL (l : List (List Nat)) (a b : Nat) (x : List Nat) : (l.set a x).getD b [] = if a = b ∧ a < l.length then x else l.getD b [] := by
  simp only [List.getD_eq_getElem?_getD, List.getElem?_set]
  by_cases h : a = b
  · subst h
    by_cases q : a < l.length
    · simp [q]
    · simp [q, List.getElem?_eq_none (Nat.le_of_not_lt q)]
  · simp [h]
theorem Dur.text {fs : List Rec} {f R i : Nat} {s1 : List (List Nat)} {A : List (Int × Ent)} (d : Dur fs f R i s1 A) {hd g0 : Nat} (hh : hd = i % R) (hg : g0 = hd / 7) (hl : locN f hd < s1.length) (hl2 : f + 8 * g0 < s1.length) (hR : 0 < R) {T ld : List Nat} {A1 : List (Int × Ent)} {q : Int} (hq : 0 ≤ q ∧ q ≤ 1000)
    (hA : ∀ k : Int, k ≠ hd → findI k A1 = findI k A) (hT : T = encF q (grpE A1 g0 (grpM R g0))) (hld : ld = (rec' fs i).2) (s2 : List (List Nat)) (hs2 : s2.length = s1.length) (h2 : ∀ b, b ≠ f + 8 * g0 → b ≠ locN f hd → s2.getD b [] = s1.getD b []) (h3 : s2.getD (locN f hd) [] = ld) (h4 : s2.getD (f + 8 * g0) [] = T) :
    Dur fs f R (i + 1) s2 A1 := by
  refine ⟨fun p j hp => ?_, fun g hgR => ?_⟩
  · simp only [pl] at hp
    by_cases e : p = hd
    · subst e
      rw [if_pos hh] at hp
      cases hp
      rw [h3, hld]
    · rw [if_neg (by rw [← hh]; exact e)] at hp
      have hl3 : locN f p ≠ locN f hd := by unfold locN; omega
      have hl4 : locN f p ≠ f + 8 * g0 := by unfold locN; omega
      rw [h2 _ hl4 hl3]
      exact d.tx p j hp
  · by_cases e : g = g0
    · subst e
      exact .inr ⟨q, hq.1, hq.2, h4.trans hT⟩
    · have hne : ∀ t < grpM R g, findI ((7 * g + t : Nat) : Int) A1 = findI ((7 * g + t : Nat) : Int) A := fun t ht => hA _ (by
        have : t < 7 := by unfold grpM at ht; omega
        omega)
      rw [grpE_congr g _ hne, h2 _ (by omega) (by unfold locN; omega)]
      exact d.lg g hgR

/-! ### The devices, told by their sectors -/
theorem steps_ws (kp : Nat → Bool) (x : List (Int × Int × List Nat)) : ∀ (l : List (Int × Int × List Nat)) (i : Nat) (D : Dv), Dv.steps kp i l { D with ws := x } = { Dv.steps kp i l D with ws := x }
  | [], i, D => rfl
  | w :: l, i, D => by
    simp only [Dv.steps]
    have e : (if kp i then ({ D with ws := x } : Dv).put w else { D with ws := x }) = { (if kp i then D.put w else D) with ws := x } := by
      split
      · unfold Dv.put; split <;> rfl
      · rfl
    rw [e, steps_ws kp x l (i + 1)]
theorem w_done (D : Dv) (kp : Nat → Bool) (a : Int) (t : List Nat) : ((D.w a t).done kp).s1 = if kp D.ws.length then (D.done kp).s1.set a.toNat t else (D.done kp).s1 := by
  unfold Dv.w Dv.done
  dsimp only
  rw [steps_ws, steps_snoc, Nat.zero_add]
  split
  · dsimp only
    unfold Dv.put
    rw [if_neg (by simp)]
  · rfl
theorem nil_done (D : Dv) (kp : Nat → Bool) (h : D.ws = []) : (D.done kp).s1 = D.s1 := by
  unfold Dv.done; rw [h]; rfl
theorem fl_ws (D : Dv) (kp : Nat → Bool) : (D.done kp).ws = [] := rfl
theorem fdD_s1 (D : Dv) (X : XS) (k : Nat) (key ld : List Nat) (a : Int) (kp : Nat → Bool) :
    ((fdD D X k key ld a).done kp).s1 = (if kp 0 then fun s : List (List Nat) => s.set (((X.f + 8 * k : Nat) : Int)).toNat (logT X (fdA2 X key ld a) (X.seq + 2) k) else id) ((D.fl.s1.set (((X.f + 8 * k : Nat) : Int)).toNat (logT X (fdA1 X) (X.seq + 1) k)).set a.toNat ld) := by
  have e1 : (fdD1 D X k).fl.s1 = D.fl.s1.set (((X.f + 8 * k : Nat) : Int)).toNat (logT X (fdA1 X) (X.seq + 1) k) := by
    unfold fdD1 Dv.fl
    rw [w_done, if_pos rfl]
  have e2 : (fdD2 D X k ld a).fl.s1 = (fdD1 D X k).fl.s1.set a.toNat ld := by
    unfold fdD2
    rw [Dv.fl, w_done, if_pos rfl, show (Dv.done (fun _ => true) (fdD1 D X k).fl).s1 = (fdD1 D X k).fl.s1 from nil_done _ _ rfl]
  unfold fdD
  rw [w_done, show (Dv.done kp (fdD2 D X k ld a).fl).s1 = (fdD2 D X k ld a).fl.s1 from nil_done _ _ rfl, show (fdD2 D X k ld a).fl.ws = [] from rfl, e2, e1]
  simp only [List.length_nil]
  split <;> rfl
/-- What holds while records are fed. -/
structure FInv (fs : List Rec) (f R i : Nat) (D : Dv) (X : XS) : Prop where
  A : ∀ k, findI k X.A = AF fs f R i k
  k1 : Keys1 X.A
  now : Dur fs f R i D.fl.s1 X.A
  was : ∃ A', Keys1 A' ∧ (∀ k e, findI k A' = some e → findI k X.A = some e) ∧ Dur fs f R i D.s1 A'
theorem FInv.new (fs : List Rec) (f n R : Nat) (D : Dv) (hD : D.s1 = List.replicate 40 []) (hw : D.ws = []) : FInv fs f R 0 D ⟨f, n, [], 0, 0⟩ := by
  have hA : ∀ k, findI k ([] : List (Int × Ent)) = AF fs f R 0 k := by
    intro k; unfold AF; simp only [findI, pl]; split <;> rfl
  have hg : ∀ g m, grpE [] g m = [] := by
    intro g m
    induction m with
    | zero => rfl
    | succ m ih => simp only [grpE, findI, ih]
  have d : Dur fs f R 0 D.s1 [] := ⟨fun p j hp => (by cases hp), fun g _ => .inl ⟨by rw [hD]; exact rep_nil _ _, hg _ _⟩⟩
  refine ⟨hA, List.nodup_nil, ?_, [], List.nodup_nil, fun k e h => h, d⟩
  have : D.fl.s1 = D.s1 := nil_done D _ hw
  rw [this]; exact d
theorem FInv.step {fs : List Rec} {f n i hd : Nat} {D : Dv} {X : XS} (v : FInv fs f (roomN n) i D X) (F : FOk f n i hd D X) (hfn : f + n ≤ 40) (hh : hd = i % roomN n) (hi : i ≤ 100) :
    FInv fs f (roomN n) (i + 1) (fdD D X (hd / 7) (rec' fs i).1 (rec' fs i).2 (locN f hd)) (fdXn X (rec' fs i).1 (rec' fs i).2 (locN f hd) hd) := by
  have hr := F.hr
  have ef := F.ef
  have en := F.en
  have eh := F.eh
  have hq0 := F.q0
  have hq1 := F.q1
  have z1 : D.fl.s1.length = 40 := (fl_alk D _).2.1.trans F.z1
  have hl1 : locN f hd < 40 := by unfold locN; unfold roomN at hr; omega
  have hl2 : f + 8 * (hd / 7) < 40 := by unfold roomN at hr; omega
  have hl3 : f + 8 * (hd / 7) ≠ locN f hd := by unfold locN; omega
  have a1 : ∀ k : Int, findI k (fdA1 X) = if k = hd then none else findI k X.A := fun k => by unfold fdA1; rw [findI_del v.k1, eh]
  have a2 : ∀ k : Int, findI k (fdA2 X (rec' fs i).1 (rec' fs i).2 (locN f hd)) = if k = hd then some (entJ fs f hd i) else findI k X.A := fun k => by
    unfold fdA2; rw [findI_upd, eh]
    by_cases q : k = hd
    · rw [if_pos q, if_pos q]; rfl
    · rw [if_neg q, if_neg q, a1, if_neg q]
  have k1' : Keys1 (fdA1 X) := v.k1.del _
  have k2' : Keys1 (fdA2 X (rec' fs i).1 (rec' fs i).2 (locN f hd)) := k1'.upd _ _
  have n1 : (((X.f + 8 * (hd / 7) : Nat) : Int)).toNat = f + 8 * (hd / 7) := by omega
  have n2 : (((locN f hd : Nat) : Int)).toNat = locN f hd := by omega
  have s2 := fdD_s1 D X (hd / 7) (rec' fs i).1 (rec' fs i).2 (locN f hd)
  rw [n1, n2] at s2
  have was : Dur fs f (roomN n) (i + 1) ((D.fl.s1.set (f + 8 * (hd / 7)) (logT X (fdA1 X) (X.seq + 1) (hd / 7))).set (locN f hd) (rec' fs i).2) (fdA1 X) := by
    refine v.now.text hh rfl (by omega) (by omega) (by omega) (q := X.seq + 1) (T := logT X (fdA1 X) (X.seq + 1) (hd / 7)) ⟨by omega, by omega⟩ (fun k hk => by rw [a1, if_neg hk]) (by unfold logT; rw [en]) rfl _ (by simp) (fun b b1 b2 => ?_) ?_ ?_
    · rw [getD_setL, if_neg (by omega), getD_setL, if_neg (by omega)]
    · rw [getD_setL, if_pos ⟨rfl, by simp; omega⟩]
    · rw [getD_setL, if_neg (by omega), getD_setL, if_pos ⟨rfl, by omega⟩]
  refine ⟨fun k => ?_, k2', ?_, fdA1 X, k1', fun k e h => ?_, ?_⟩
  · show findI k (fdA2 X _ _ _) = _
    rw [a2, AF_step, v.A, ← hh]
  · have e : (fdD D X (hd / 7) (rec' fs i).1 (rec' fs i).2 (locN f hd)).fl.s1 = _ := s2 fun _ => true
    rw [e, if_pos rfl]
    refine v.now.text hh rfl (by omega) (by omega) (by omega) (q := X.seq + 2) (T := logT X (fdA2 X (rec' fs i).1 (rec' fs i).2 (locN f hd)) (X.seq + 2) (hd / 7)) ⟨by omega, by omega⟩ (fun k hk => ?_) (by unfold logT; rw [en]; rfl) rfl _ (by simp) (fun b b1 b2 => ?_) ?_ ?_
    · show findI k (fdA2 X _ _ _) = _
      rw [a2, if_neg hk]
    · rw [getD_setL, if_neg (by omega), getD_setL, if_neg (by omega), getD_setL, if_neg (by omega)]
    · rw [getD_setL, if_neg (by omega), getD_setL, if_pos ⟨rfl, by simp; omega⟩]
    · rw [getD_setL, if_pos ⟨rfl, by simp; omega⟩]
  · show findI k (fdA2 X _ _ _) = _
    rw [a1] at h
    rw [a2]
    by_cases q : k = hd
    · rw [if_pos q] at h; cases h
    · rw [if_neg q] at h ⊢; exact h
  · have e : (fdD D X (hd / 7) (rec' fs i).1 (rec' fs i).2 (locN f hd)).s1 = _ := (s2 fun _ => false)
    rw [if_neg (by simp)] at e
    rw [e]; exact was
end Abs
end Go.Proofs.YtlgbdjlnbnlphaaGreatDoor
namespace Go.Proofs.YtlgbdjlnbnlphaaGreatDoor
namespace Abs
set_option linter.unusedVariables false
set_option linter.unusedSimpArgs false
attribute [local irreducible] WO WC WD StepK Ans Does Runs DoesD

theorem ld_find (f g : Nat) (A B : List (Int × Ent)) : ∀ (m : Nat), (∀ t < m, ∀ e, findI ((7 * g + t : Nat) : Int) A = some e → e.loc = ((f + 8 * g + 1 + t : Nat) : Int)) →
    ∀ k : Int, findI k (ldA g f (grpE A g m) B) = if (7 * g ≤ k ∧ k < 7 * g + m) ∧ findI k A ≠ none then findI k A else findI k B
  | 0, _, k => by rw [if_neg (by omega)]; rfl
  | m + 1, h, k => by
    have ih := ld_find f g A B m (fun t ht => h t (by omega)) k
    simp only [grpE]
    cases hf : findI ((7 * g + m : Nat) : Int) A with
    | none =>
      dsimp only
      rw [ih]
      by_cases e : k = ((7 * g + m : Nat) : Int)
      · subst e; rw [if_neg (by omega), if_neg (fun q => q.2 hf)]
      · have : (7 * (g : Int) ≤ k ∧ k < 7 * g + m) ↔ (7 * (g : Int) ≤ k ∧ k < 7 * g + (m + 1 : Nat)) := by omega
        simp only [this]
    | some x =>
      dsimp only
      have hl := h m (by omega) x hf
      have e1 : ldPl g f x = ((7 * g + m : Nat) : Int) := by unfold ldPl; rw [hl]; omega
      have e2 : ldA g f (grpE A g m ++ [x]) B = updI (ldPl g f x) x (ldA g f (grpE A g m) B) := by unfold ldA; rw [List.foldl_append]; rfl
      rw [e2, findI_upd, e1, ih]
      by_cases e : k = ((7 * g + m : Nat) : Int)
      · rw [if_pos e, if_pos ⟨by omega, by rw [e, hf]; simp⟩, e, hf]
      · rw [if_neg e]
        have : (7 * (g : Int) ≤ k ∧ k < 7 * g + m) ↔ (7 * (g : Int) ≤ k ∧ k < 7 * g + (m + 1 : Nat)) := by omega
        simp only [this]
theorem lg_find (f R : Nat) (A : List (Int × Ent)) (lg : Nat → Option (Int × List Ent)) (hloc : ∀ k e, findI k A = some e → ∃ p : Nat, k = p ∧ p < R ∧ e.loc = (locN f p : Nat))
    (hlg : ∀ g, 7 * g < R → match lg g with | none => grpE A g (grpM R g) = [] | some p => p.2 = grpE A g (grpM R g)) : ∀ (G : Nat), (∀ g < G, 7 * g < R) → ∀ k, findI k (lgA f lg G) = if k < 7 * G then findI k A else none
  | 0, _, k => by
    show none = _
    by_cases q : k < 7 * ((0 : Nat) : Int)
    · rw [if_pos q]
      cases hf : findI k A with
      | none => rfl
      | some e => obtain ⟨p, rfl, _⟩ := hloc k e hf; omega
    · rw [if_neg q]
  | G + 1, hG, k => by
    have ih := lg_find f R A lg hloc hlg G (fun g hg => hG g (by omega)) k
    have hgR := hG G (by omega)
    have h1 := hlg G hgR
    have hl : ∀ t < grpM R G, ∀ e, findI ((7 * G + t : Nat) : Int) A = some e → e.loc = ((f + 8 * G + 1 + t : Nat) : Int) := fun t ht e he => by
      obtain ⟨p, hp, _, q⟩ := hloc _ e he
      have : p = 7 * G + t := by omega
      rw [q, this]
      have : t < 7 := by unfold grpM at ht; omega
      unfold locN; omega
    have key := ld_find f G A (lgA f lg G) (grpM R G) hl k
    have fin : (if (7 * (G : Int) ≤ k ∧ k < 7 * G + (grpM R G : Nat)) ∧ findI k A ≠ none then findI k A else if k < 7 * (G : Int) then findI k A else none) = if k < 7 * ((G + 1 : Nat) : Int) then findI k A else none := by
      cases hf : findI k A with
      | none => simp
      | some e =>
        obtain ⟨p, rfl, hp, _⟩ := hloc k e hf
        unfold grpM
        by_cases q1 : (p : Int) < 7 * (G : Int)
        · rw [if_neg (by omega), if_pos q1, if_pos (by omega)]
        · by_cases q2 : (p : Int) < 7 * ((G + 1 : Nat) : Int)
          · rw [if_pos ⟨by omega, by simp⟩, if_pos q2]
          · rw [if_neg (by omega), if_neg q1, if_neg q2]
    cases hlG : lg G with
    | none =>
      rw [hlG] at h1
      dsimp only at h1
      simp only [lgA, hlG]
      rw [h1] at key
      have key : findI k (lgA f lg G) = _ := key
      rw [key, ih]; exact fin
    | some p =>
      rw [hlG] at h1
      dsimp only at h1
      simp only [lgA, hlG]
      rw [h1, key, ih]; exact fin
/-- An entry that is kept is fit. -/
theorem entJ_ok {fs : List Rec} (P : PlainOk fs) {f p j : Nat} (hj : j < fs.length) (hl : locN f p ≤ 511) : (entJ fs f p j).ok := by
  obtain ⟨r, h1, h2, h3, h4, _⟩ := P.1 j hj
  have e : rec' fs j = r := by unfold rec'; rw [List.getD_eq_getElem?_getD, h1]; rfl
  unfold entJ
  rw [e]
  exact ⟨fun q => by have q : r.1 = [] := q; rw [q] at h2; simp at h2, h3, ofF_len _, ⟨by show (0 : Int) ≤ (r.2.length : Nat); omega, by show ((r.2.length : Nat) : Int) ≤ 960; omega⟩, ⟨by show (0 : Int) ≤ (locN f p : Nat); omega, by show ((locN f p : Nat) : Int) ≤ 511; omega⟩⟩
theorem entJ_byt {fs : List Rec} (hb : FedsB fs) {f p j : Nat} (hj : j < fs.length) : (entJ fs f p j).byt := by
  refine ⟨?_, ofF_byt _⟩
  show Byt (rec' fs j).1
  unfold rec'
  rw [List.getD_eq_getElem?_getD, List.getElem?_eq_getElem hj]
  exact hb _ (List.getElem_mem hj)
/-- The logs that Open finds. -/
theorem dur_logs {fs : List Rec} (P : PlainOk fs) (hb : FedsB fs) {f n : Nat} (hfn : f + n ≤ 40) {s1 : List (List Nat)} {i : Nat} (hi : i ≤ fs.length) {A : List (Int × Ent)} (d : Dur fs f (roomN n) i s1 A) (hA : ∀ k e, findI k A = some e → AF fs f (roomN n) i k = some e) (hR : 0 < roomN n)
    (D : Dv) (hs : D.s1 = s1) (hz : s1.length = 40) (hw : D.ws = []) (hl : D.l1 = false) :
    ∃ lg, (∀ g, g < (roomN n + 6) / 7 → LgOk D f n lg g) ∧ ∀ k, findI k (lgA f lg ((roomN n + 6) / 7)) = findI k A := by
  have hloc : ∀ k e, findI k A = some e → ∃ p j : Nat, k = p ∧ p < roomN n ∧ j < fs.length ∧ e = entJ fs f p j := fun k e he => by
    obtain ⟨p, j, h1, h2, h3, _, _, h6⟩ := AF_some hR (hA k e he)
    exact ⟨p, j, h1, h2, by omega, h6⟩
  have h0 : ∀ g, ∃ o : Option (Int × List Ent), 7 * g < roomN n → s1.getD (f + 8 * g) [] = lgT o ∧ (∀ p, o = some p → (0 ≤ p.1 ∧ p.1 ≤ 1000) ∧ p.2 = grpE A g (grpM (roomN n) g)) ∧ match o with | none => grpE A g (grpM (roomN n) g) = [] | some p => p.2 = grpE A g (grpM (roomN n) g) := by
    intro g
    by_cases hg : 7 * g < roomN n
    · rcases d.lg g hg with ⟨q1, q2⟩ | ⟨q, q1, q2, q3⟩
      · exact ⟨none, fun _ => ⟨q1, fun p hp => (by cases hp), q2⟩⟩
      · exact ⟨some (q, _), fun _ => ⟨q3, fun p hp => (by cases hp; exact ⟨⟨q1, q2⟩, rfl⟩), rfl⟩⟩
    · exact ⟨none, fun h => absurd h hg⟩
  obtain ⟨lg, hlg⟩ := Classical.axiomOfChoice h0
  refine ⟨lg, fun g hg => ?_, fun k => ?_⟩
  · have hgR : 7 * g < roomN n := by omega
    obtain ⟨a1, a2, _⟩ := hlg g hgR
    have hg40 : f + 8 * g < 40 := by unfold roomN at hgR; omega
    refine ⟨?_, fun p hp => ?_⟩
    · have hm : D.may 1 ((f + 8 * g : Nat) : Int) 0 = 0 := may_ok (by omega) (by rw [hs, hz]; omega) (by omega) hl
      rw [Dv.rd, if_pos hm]
      have e : D.last 1 ((f + 8 * g : Nat) : Int) = none := by unfold Dv.last; rw [hw]; rfl
      rw [e]
      show (D.s1.getD (((f + 8 * g : Nat) : Int)).toNat [], (0 : Int)) = _
      have e2 : (((f + 8 * g : Nat) : Int)).toNat = f + 8 * g := by omega
      rw [e2, hs, a1]
    · obtain ⟨⟨b1, b2⟩, b3⟩ := a2 p hp
      have mem : ∀ e ∈ p.2, ∃ t < grpM (roomN n) g, ∃ j, j < fs.length ∧ e = entJ fs f (7 * g + t) j := fun e he => by
        rw [b3] at he
        obtain ⟨t, ht, q⟩ := grpE_mem A g _ e he
        obtain ⟨p', j, h1, h2, h3, h4⟩ := hloc _ _ q
        have : p' = 7 * g + t := by omega
        subst this
        exact ⟨t, ht, j, h3, h4⟩
      have hlt : ∀ t < grpM (roomN n) g, locN f (7 * g + t) = f + 8 * g + 1 + t ∧ locN f (7 * g + t) < 40 := fun t ht => by
        have h7 : t < 7 ∧ 7 * g + t < roomN n := by unfold grpM at ht; omega
        unfold locN; unfold roomN at h7; omega
      refine ⟨⟨⟨b1, by omega⟩, ?_, fun e he => ?_⟩, fun e he => ?_, fun e he => ?_⟩
      · rw [b3]; have := grpE_len A g (grpM (roomN n) g); unfold grpM at *; omega
      · obtain ⟨t, ht, j, hj, rfl⟩ := mem e he
        exact entJ_ok P hj (by have := (hlt t ht).2; omega)
      · obtain ⟨t, ht, j, hj, rfl⟩ := mem e he
        exact entJ_byt hb hj
      · obtain ⟨t, ht, j, hj, rfl⟩ := mem e he
        refine ⟨t, ht, ?_⟩
        show ((locN f (7 * g + t) : Nat) : Int) = _
        rw [(hlt t ht).1]
  · rw [lg_find f (roomN n) A lg (fun k e he => by
      obtain ⟨p, j, h1, h2, _, h4⟩ := hloc k e he
      exact ⟨p, h1, h2, by rw [h4]; rfl⟩) (fun g hg => (hlg g hg).2.2) ((roomN n + 6) / 7) (fun g hg => by omega) k]
    by_cases q : k < 7 * (((roomN n + 6) / 7 : Nat) : Int)
    · rw [if_pos q]
    · rw [if_neg q]
      cases hf : findI k A with
      | none => rfl
      | some e => obtain ⟨p, _, rfl, h2, _⟩ := hloc k e hf; omega

/-! ### Find -/
theorem findX_some {A : List (Int × Ent)} {key : List Nat} {n : Int} (h : findX A key = some n) : ∃ e, findI n A = some e ∧ e.key = key ∧ entAt A n = e := by
  unfold findX at h
  have h1 := List.mem_of_find?_eq_some h
  have h2 := List.find?_some h
  have h3 : n ∈ A.map (·.1) := (srtI_perm _).mem_iff.1 h1
  obtain ⟨e, he⟩ := findI_mem h3
  have h4 : entAt A n = e := by unfold entAt; rw [he]; rfl
  refine ⟨e, he, ?_, h4⟩
  rw [h4] at h2
  exact of_decide_eq_true h2
theorem findX_none {A : List (Int × Ent)} {key : List Nat} (h : findX A key = none) {n : Int} {e : Ent} (he : findI n A = some e) : e.key ≠ key := by
  unfold findX at h
  have h1 := List.find?_eq_none.1 h
  have h3 : n ∈ A.map (·.1) := by
    refine Decidable.byContradiction fun hn => ?_
    rw [findI_none.2 hn] at he; cases he
  have h4 := h1 n ((srtI_perm _).mem_iff.2 h3)
  have h5 : entAt A n = e := by unfold entAt; rw [he]; rfl
  rw [h5] at h4
  simpa using h4
theorem rec_key {fs : List Rec} (P : PlainOk fs) {i j : Nat} (hi : i < fs.length) (hj : j < fs.length) (h : (rec' fs i).1 = (rec' fs j).1) : i = j := by
  have hr : ∀ i, i < fs.length → fs[i]? = some (rec' fs i) := fun i hi => by unfold rec'; rw [List.getD_eq_getElem?_getD, List.getElem?_eq_getElem hi]; rfl
  rcases Nat.lt_trichotomy i j with q | q | q
  · obtain ⟨r, h1, _, _, _, h5⟩ := P.1 j hj
    rw [hr j hj] at h1; cases h1
    exact absurd h (h5 i q _ (hr i hi))
  · exact q
  · obtain ⟨r, h1, _, _, _, h5⟩ := P.1 i hi
    rw [hr i hi] at h1; cases h1
    exact absurd h.symm (h5 j q _ (hr j hj))
/-- What is found under a record's key is that record. -/
theorem findX_rec {fs : List Rec} (P : PlainOk fs) {f R i m : Nat} (hR : 0 < R) (hi : i ≤ fs.length) {A : List (Int × Ent)} (hA : ∀ k e, findI k A = some e → AF fs f R i k = some e) (hm : m < fs.length) {k : Int} (h : findX A (rec' fs m).1 = some k) :
    ∃ p : Nat, k = p ∧ p < R ∧ m < i ∧ p = m % R ∧ pl R i p = some m ∧ entAt A k = entJ fs f p m := by
  obtain ⟨e, h1, h2, h3⟩ := findX_some h
  obtain ⟨p, j, h4, h5, h6, h7, h8, h9⟩ := AF_some hR (hA k e h1)
  have hj : j = m := rec_key P (by omega) hm (by rw [← h2, h9]; rfl)
  subst hj
  exact ⟨p, h4, h5, h6, h7, h8, by rw [h3, h9]⟩
theorem findX_is {fs : List Rec} (P : PlainOk fs) {f R i m : Nat} (hR : 0 < R) (hi : i ≤ fs.length) {A : List (Int × Ent)} (hA : ∀ k, findI k A = AF fs f R i k) (hm : m < i) : findX A (rec' fs m).1 ≠ none ↔ i ≤ m + R := by
  rw [← pl_iff hR i m hm]
  constructor
  · intro h
    cases hf : findX A (rec' fs m).1 with
    | none => exact absurd hf h
    | some k =>
      obtain ⟨p, h1, h2, h3, h4, h5, h6⟩ := findX_rec P hR hi (fun k e he => by rw [← hA]; exact he) (by omega) hf
      rw [← h4]; exact h5
  · intro h hf
    have he : findI ((m % R : Nat) : Int) A = some (entJ fs f (m % R) m) := by
      rw [hA]; unfold AF
      rw [if_pos (by omega)]
      have : (((m % R : Nat) : Int)).toNat = m % R := by omega
      rw [this, h]; rfl
    exact findX_none hf he rfl
end Abs
end Go.Proofs.YtlgbdjlnbnlphaaGreatDoor
namespace Go.Proofs.YtlgbdjlnbnlphaaGreatDoor
namespace Abs
set_option linter.unusedVariables false
set_option linter.unusedSimpArgs false
open Go.RowKit
attribute [local irreducible] WO WC WD StepK Ans Does Runs DoesD

theorem rd_flat {D : Dv} {a : Nat} (hw : D.ws = []) (hl : D.l1 = false) (hz : D.s1.length = 40) (ha : a < 40) : D.rd 1 (a : Int) = (D.s1.getD a [], 0) := by
  have hm : D.may 1 (a : Int) 0 = 0 := may_ok (by omega) (by rw [hz]; omega) (by omega) hl
  rw [Dv.rd, if_pos hm]
  have e : D.last 1 (a : Int) = none := by unfold Dv.last; rw [hw]; rfl
  rw [e]; rfl
theorem rec_get {fs : List Rec} {i : Nat} (h : i < fs.length) : fs[i] = rec' fs i := by
  unfold rec'; rw [List.getD_eq_getElem?_getD, List.getElem?_eq_getElem h]; rfl
theorem rec_ok {fs : List Rec} (P : PlainOk fs) {i : Nat} (h : i < fs.length) : 1 ≤ (rec' fs i).1.length ∧ (rec' fs i).1.length ≤ 60 ∧ (rec' fs i).2.length ≤ 960 := by
  obtain ⟨r, h1, h2, h3, h4, _⟩ := P.1 i h
  have e : rec' fs i = r := by rw [← rec_get h]; rw [List.getElem?_eq_getElem h] at h1; cases h1; rfl
  rw [e]; exact ⟨h2, h3, h4⟩
/-- A record of the law's is taken. -/
theorem fed_rec {fs : List Rec} (P : PlainOk fs) (hb : FedsB fs) {f n i hd hd' : Nat} {D D' : Dv} {X X' : XS} {t : Bool} (v : FInv fs f (roomN n) i D X) (F : FOk f n i hd D X) (F' : FOk f n (i + 1) hd' D' X') (hfn : f + n ≤ 40) (hh : hd = i % roomN n) (hi : i < fs.length)
    (h : Fed f n (rec' fs i).1 (rec' fs i).2 D X hd D' X' hd' t) : t = true ∧ hd' = (i + 1) % roomN n ∧ FInv fs f (roomN n) (i + 1) D' X' := by
  have hr := F.hr
  have hR : 0 < roomN n := by omega
  obtain ⟨h1, h2, h3⟩ := rec_ok P hi
  have h30 := P.2
  rcases h with ⟨_, q, _⟩ | ⟨_, _, q, _⟩ | ⟨rfl, _, _, rfl, rfl, rfl⟩
  · exfalso
    rcases q with q | q | q | q
    · rw [q] at h1; simp at h1
    · omega
    · omega
    · cases q
  · exfalso
    cases hf : findX X.A (rec' fs i).1 with
    | none => exact q hf
    | some k =>
      obtain ⟨p, _, _, h4, _⟩ := findX_rec (f := f) (i := i) P hR (by omega) (fun k e he => by rw [← v.A]; exact he) hi hf
      omega
  · refine ⟨rfl, ?_, v.step F hfn hh (by omega)⟩
    rw [hh, Nat.mod_add_mod]
section
variable {C : Cfg} (S : StdX C)
include S
/-- What Find answers of a record. -/
theorem find_rec (hSm : ∀ f args h v h', C.S f args h = some (some (v, h')) → HM h h') {fs : List Rec} (P : PlainOk fs) {f n i m : Nat} (hfn : f + n ≤ 40) (hR : 0 < roomN n) (hi : i ≤ fs.length) (hm : m < fs.length) (nb nb2 : Nat) (h : Heap) (hw : Wf h) (ro : Ro h) (s mb b b0 b1 : Nat) (wv : V) (D : Dv) (X : XS)
    (d : DevAt nb h b b0 b1 wv D) (x : XAt nb2 h s mb b b0 b1 wv X) (hws : D.ws = []) (hl : D.l1 = false) (hz : D.s1.length = 40) (A' : List (Int × Ent)) (du : Dur fs f (roomN n) i D.s1 A') (hA : ∀ k e, findI k X.A = some e → AF fs f (roomN n) i k = some e) :
    Ans C 10 [.ptr (some (s, 0)), .str (rec' fs m).1] h fun r h' => r = (if findX X.A (rec' fs m).1 = none then .tuple [.str [], .bool false] else .tuple [.str (rec' fs m).2, .bool true]) ∧ Grow h h' := by
  have hRn : roomN n ≤ n := by unfold roomN; omega
  have hks : ∀ k ∈ X.A.map (fun p : Int × Ent => p.1), 0 ≤ k ∧ k < (roomN n : Int) := fun k hk => by
    obtain ⟨e, he⟩ := findI_mem hk
    obtain ⟨p, j, h1, h2, _⟩ := AF_some hR (hA k e he)
    omega
  have hlen : X.A.length ≤ roomN n := by
    have := pigeon (roomN n) (X.A.map (fun p : Int × Ent => p.1)) x.mp.1 hks
    rwa [List.length_map] at this
  have hks2 : ∀ k ∈ X.A.map (fun p : Int × Ent => p.1), -9223372036854775808 ≤ k ∧ k ≤ 9223372036854775807 := fun k hk => by have := hks k hk; omega
  obtain ⟨_, _, hm3⟩ := rec_ok P hm
  cases hf : findX X.A (rec' fs m).1 with
  | none =>
    rw [if_pos rfl]
    exact xFind_none S hSm h hw s mb X.A _ (x.cs.rd rfl) x.mp hks2 (by omega) hf
  | some k =>
    rw [if_neg (by simp)]
    obtain ⟨p, h1, h2, h3, h4, h5, h6⟩ := findX_rec P hR hi hA hm hf
    have hp40 : locN f p < 40 := by unfold locN; unfold roomN at h2; omega
    have ht : D.rd 1 (entAt X.A k).loc = ((rec' fs m).2, 0) := by
      rw [h6]
      show D.rd 1 ((locN f p : Nat) : Int) = _
      rw [rd_flat hws hl hz hp40, du.tx p m h5]
    exact xFind_some S hSm h hw s mb X.A _ (x.cs.rd rfl) x.mp hks2 (by omega) nb b b0 b1 wv D (x.cs.rd rfl) d (by rw [hws]; simp) ro k _ hf ht (by rw [h6]; rfl) (by rw [h6]; rfl) (by omega)
end
end Abs
end Go.Proofs.YtlgbdjlnbnlphaaGreatDoor
