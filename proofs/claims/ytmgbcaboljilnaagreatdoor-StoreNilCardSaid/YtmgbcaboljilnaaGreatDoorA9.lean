/- The abstract machine's aggregates, slice expressions, maps and copies are the model's. -/
import Derived.Test.YtmgbcaboljilnaaGreatDoorA8
namespace Go.Proofs.YtmgbcaboljilnaaGreatDoor
namespace Abs
set_option linter.unusedVariables false
set_option linter.unusedSimpArgs false
open Go.RowKit

section
variable {P : Program} {B : Nat} {w0 w : World} {ρ : Rho} {h : Heap}

theorem VRs.set : ∀ {x : List V} {a : List Value} (i : Nat) {v : V} {u : Value}, VRs ρ x a → VR ρ v u → VRs ρ (x.set i v) (a.set i u)
  | _, _, _, _, _, .nil, _ => .nil
  | _, _, 0, _, _, .cons v u x a h t, k => .cons _ _ _ _ k t
  | _, _, i + 1, _, _, .cons v u x a h t, k => .cons _ _ _ _ h (VRs.set i t k)
theorem VRs.splice : ∀ {vs : List V} {us : List Value} (o : Nat) {x : List V} {a : List Value}, VRs ρ vs us → VRs ρ x a → VRs ρ (Abs.splice x o vs) (Abs.splice a o us)
  | _, _, o, _, _, .nil, k => k
  | _, _, o, _, _, .cons v u vs us h t, k => VRs.splice (o + 1) t (VRs.set o k h)

theorem foldl_splice (off : Nat) : ∀ (l : List Value) (k : Nat) (cells : Array Value), ((l.zipIdx k).foldl (fun (cs : Array Value) (p : Value × Nat) => cs.setIfInBounds (off + p.2) p.1) cells).toList = Abs.splice cells.toList (off + k) l
  | [], k, cells => rfl
  | v :: l, k, cells => by
    rw [List.zipIdx_cons, List.foldl_cons, foldl_splice off l (k + 1)]
    simp only [Abs.splice, Array.toList_setIfInBounds, Nat.add_assoc]

theorem fill_sound {place : Nat → Option (Nat × Nat)} : ∀ {parts : List (Nat × Operand)} {ps : List (Nat × Nat × Opd)} (hp : partsC place parts = some ps) {nt : Nat} {tm : TM} {a : Act} (ht : TMR ρ nt tm a.tmps)
    {vs : List (Nat × Nat × V)} (he : evParts tm ps = some vs) {cells cells' : List V} (hf : fillV cells vs = some cells') {c : Array Value} (hc : VRs ρ cells c.toList),
    ∃ c', Instr.fill place c (parts.map fun (i, x) => (i, a.eval x)) = some c' ∧ VRs ρ cells' c'.toList
  | [], ps, hp, nt, tm, a, ht, vs, he, cells, cells', hf, c, hc => by
    cases hp
    cases he
    cases hf
    exact ⟨c, rfl, hc⟩
  | (i, x) :: r, ps, hp, nt, tm, a, ht, vs, he, cells, cells', hf, c, hc => by
    unfold partsC at hp
    split at hp
    · rename_i o s y l h1 h2 h3
      cases hp
      unfold evParts at he
      split at he
      · rename_i v vs' h4 h5
        cases he
        unfold fillV at hf
        split at hf
        · rename_i hk
          have hvx := ev_sound ht h2 h4
          have hcl := hvx.cells
          have hsz : (a.eval x).cells.size = s := by
            have := hcl.length
            simp only [Array.length_toList] at this
            omega
          have hcs : cells.length = c.size := by simpa using hc.length
          have hnew := VRs.splice o hcl hc
          have heq : ((a.eval x).cells.zipIdx.foldl (fun (cs : Array Value) (p : Value × Nat) => cs.setIfInBounds (o + p.2) p.1) c).toList = Abs.splice c.toList o (a.eval x).cells.toList := by
            rw [← Array.foldl_toList, Array.toList_zipIdx]
            have := foldl_splice o (a.eval x).cells.toList 0 c
            simpa using this
          rw [← heq] at hnew
          obtain ⟨c', q1, q2⟩ := fill_sound h3 ht h5 hf hnew
          refine ⟨c', ?_, q2⟩
          simp only [List.map_cons, Instr.fill, h1]
          rw [if_neg]
          · exact q1
          · simp only [hsz, Bool.or_eq_true, bne_iff_ne, ne_eq, not_true_eq_false, decide_eq_true_eq, false_or]
            omega
        · cases hf
      · cases he
    · cases hp

theorem places_sound : ∀ {fs : List Field} {pl : List (Nat × Nat)}, placesC P fs = some pl →
    (fs.mapM (m := Sem) fun f => do pure (f.offset, ← sizeOf f.type)).run P w = .ok pl w
  | [], pl, h => by cases h; rfl
  | f :: r, pl, h => by
    unfold placesC at h
    split at h
    · rename_i s l h1 h2
      cases h
      rw [List.mapM_cons]
      simp only [Sem.run_bind, run_size h1, Result.andThen_ok, Sem.run_pure, places_sound h2]
    · cases h

theorem arrMapM {α β : Type} (f : α → Sem β) (xs : Array α) {l : List β} {w' : World} (h : (xs.toList.mapM f).run P w = .ok l w') : (xs.mapM f).run P w = .ok l.toArray w' := by
  have : xs.mapM f = (List.toArray <$> xs.toList.mapM f : Sem (Array β)) := by
    rw [Array.mapM_eq_mapM_toList]
  rw [this, Sem.run_map, h]
  rfl

/-! ### Slice expressions -/
theorem int_of {x : V} {i : Int} (h : intV x = some i) {u : Value} (hx : VR ρ x u) : ∃ k, u = .int k i := by
  cases hx <;> simp only [intV, Option.some.injEq] at h <;> first | (cases h; done) | (subst h; exact ⟨_, rfl⟩)

inductive VRo (ρ : Rho) : Option V → Option Value → Prop where
  | none : VRo ρ none none
  | some (v : V) (u : Value) (h : VR ρ v u) : VRo ρ (some v) (some u)

theorem evo_sound {nt : Nat} {tm : TM} {a : Act} (ht : TMR ρ nt tm a.tmps) {x : Option Operand} {y : Option Opd} (hc : opdO x = some y) {v : Option V} (hv : evo tm y = some v) : VRo ρ v (x.map a.eval) := by
  unfold opdO at hc
  split at hc
  · cases hc
    cases hv
    exact .none
  · split at hc
    · rename_i q hq
      cases hc
      unfold evo at hv
      split at hv
      · rename_i h1; cases h1
      · rename_i z h1
        cases h1
        split at hv
        · rename_i v' hv'
          cases hv
          exact .some _ _ (ev_sound ht hq hv')
        · cases hv
    · cases hc

theorem bound_sound {i : Int} {k : IntKind} {y : Nat} {code : BoundsCode} (h : 0 ≤ i ∧ i ≤ y) : (Instr.sliceBound (.int k i) y code).run P w = .ok i.toNat w := by
  simp only [Instr.sliceBound, asIntOf, Sem.run_bind, Sem.run_pure, Result.andThen_ok, h, and_self, if_true]

theorem bounds_none {isSl : Bool} {len cap cap' : Nat} {lo hi : Option V} {l hh : Nat} (hb : boundsA len cap lo hi = some (l, hh)) (hc : cap ≤ cap') (hlc : len ≤ cap) {ulo uhi : Option Value} (h1 : VRo ρ lo ulo) (h2 : VRo ρ hi uhi) :
    (Instr.sliceBounds isSl len cap' ulo uhi none).run P w = .ok (l, hh, cap') w ∧ l ≤ hh ∧ hh ≤ cap := by
  unfold boundsA at hb
  cases h2 with
  | none =>
    simp only at hb
    cases h1 with
    | none =>
      simp only [Option.some.injEq, Prod.mk.injEq] at hb
      obtain ⟨rfl, rfl⟩ := hb
      exact ⟨by simp [Instr.sliceBounds], by omega, hlc⟩
    | some v u hv =>
      simp only at hb
      split at hb
      · rename_i i hi
        split at hb
        · rename_i hk
          simp only [Option.some.injEq, Prod.mk.injEq] at hb
          obtain ⟨rfl, rfl⟩ := hb
          obtain ⟨k, rfl⟩ := int_of hi hv
          refine ⟨?_, by omega, hlc⟩
          simp only [Instr.sliceBounds, Sem.run_bind, Sem.run_pure, Result.andThen_ok, bound_sound hk]
        · cases hb
      · cases hb
  | some v u hv =>
    simp only at hb
    cases hi : intV v with
    | none => rw [hi] at hb; cases hb
    | some i =>
    rw [hi] at hb
    simp only at hb
    obtain ⟨k, rfl⟩ := int_of hi hv
    by_cases hk : 0 ≤ i ∧ i ≤ (cap : Int)
    · rw [if_pos hk] at hb
      simp only at hb
      have hk' : 0 ≤ i ∧ i ≤ (cap' : Int) := ⟨hk.1, by omega⟩
      cases h1 with
      | none =>
        simp only [Option.some.injEq, Prod.mk.injEq] at hb
        obtain ⟨rfl, rfl⟩ := hb
        refine ⟨?_, by omega, by omega⟩
        simp only [Instr.sliceBounds, Sem.run_bind, Sem.run_pure, Result.andThen_ok, bound_sound hk']
      | some v2 u2 hv2 =>
        simp only at hb
        split at hb
        · rename_i j hj
          split at hb
          · rename_i hk2
            simp only [Option.some.injEq, Prod.mk.injEq] at hb
            obtain ⟨rfl, rfl⟩ := hb
            obtain ⟨k2, rfl⟩ := int_of hj hv2
            refine ⟨?_, by omega, by omega⟩
            simp only [Instr.sliceBounds, Sem.run_bind, Sem.run_pure, Result.andThen_ok, bound_sound hk', bound_sound hk2, Option.isSome_none, Bool.false_eq_true, if_false]
          · cases hb
        · cases hb
    · rw [if_neg hk] at hb
      cases hb

theorem bounds_max {len cap : Nat} {m : Int} {lo hi : Option V} {l hh : Nat} (hb : boundsA len m.toNat lo hi = some (l, hh)) (hm : 0 ≤ m ∧ m ≤ cap) (hs : hi.isSome = true) {km : IntKind} {ulo uhi : Option Value} (h1 : VRo ρ lo ulo) (h2 : VRo ρ hi uhi) :
    (Instr.sliceBounds true len cap ulo uhi (some (.int km m))).run P w = .ok (l, hh, m.toNat) w ∧ l ≤ hh ∧ hh ≤ m.toNat := by
  unfold boundsA at hb
  cases h2 with
  | none => cases hs
  | some v u hv =>
    simp only at hb
    cases hi : intV v with
    | none => rw [hi] at hb; cases hb
    | some i =>
    rw [hi] at hb
    simp only at hb
    obtain ⟨k, rfl⟩ := int_of hi hv
    by_cases hk : 0 ≤ i ∧ i ≤ (m.toNat : Int)
    · rw [if_pos hk] at hb
      simp only at hb
      cases h1 with
      | none =>
        simp only [Option.some.injEq, Prod.mk.injEq] at hb
        obtain ⟨rfl, rfl⟩ := hb
        refine ⟨?_, by omega, by omega⟩
        simp only [Instr.sliceBounds, Sem.run_bind, Sem.run_pure, Result.andThen_ok, bound_sound hm, bound_sound hk]
      | some v2 u2 hv2 =>
        simp only at hb
        split at hb
        · rename_i j hj
          split at hb
          · rename_i hk2
            simp only [Option.some.injEq, Prod.mk.injEq] at hb
            obtain ⟨rfl, rfl⟩ := hb
            obtain ⟨k2, rfl⟩ := int_of hj hv2
            refine ⟨?_, by omega, by omega⟩
            simp only [Instr.sliceBounds, Sem.run_bind, Sem.run_pure, Result.andThen_ok, bound_sound hm, bound_sound hk, bound_sound hk2, Option.isSome_some, if_true]
          · cases hb
        · cases hb
    · rw [if_neg hk] at hb
      cases hb

theorem sliceSl_sound {t e : TypeId} {sz : Nat} (ht : P.underlying t = some (.slice e)) (hs : sizeC P e = some sz) {x v : V} {lo hi mx : Option V} (hv : sliceSlA sz x lo hi mx = some v) {ux : Value} {ulo uhi umx : Option Value}
    (hx : VR ρ x ux) (h1 : VRo ρ lo ulo) (h2 : VRo ρ hi uhi) (h3 : VRo ρ mx umx) : ∃ u, (Instr.sliceAt t ux ulo uhi umx).run P w = .ok u w ∧ VR ρ v u := by
  have hrun : ∀ (A : Option Addr) (len cap l hh m : Nat), ux = .slice A len cap → (Instr.sliceBounds true len cap ulo uhi umx).run P w = .ok (l, hh, m) w →
      (Instr.sliceAt t ux ulo uhi umx).run P w = .ok (.slice (if m = l then A else A.map (·.add (l * sz))) (hh - l) (m - l)) w := by
    intro A len cap l hh m hux hb
    subst hux
    simp only [Instr.sliceAt, Sem.run_bind, run_und ht, Result.andThen_ok, Instr.slice, hb, run_size hs, Sem.run_pure]
  unfold sliceSlA at hv
  split at hv
  · rename_i A len cap
    have hlen : len ≤ cap ∧ ∃ A', ux = .slice A' len cap ∧ (A = none → A' = none ∧ cap = 0) ∧ (∀ b o, A = some (b, o) → ∃ e a, ρ b = some e ∧ A' = some a ∧ (cap ≠ 0 → a = at_ e o)) := by
      cases hx with
      | sliceNil => exact ⟨Nat.le_refl _, none, rfl, fun _ => ⟨rfl, rfl⟩, fun b o h => by cases h⟩
      | slice b o _ _ em a he ha hl => exact ⟨hl, some a, rfl, (fun h => by cases h), fun b' o' h => by cases h; exact ⟨em, a, he, rfl, ha⟩⟩
    obtain ⟨hlc, A', rfl, hA1, hA2⟩ := hlen
    have fin : ∀ l hh m : Nat, l ≤ hh → hh ≤ m → m ≤ cap → VR ρ (.slice (A.map fun p => (p.1, p.2 + l * sz)) (hh - l) (m - l)) (.slice (if m = l then A' else A'.map (·.add (l * sz))) (hh - l) (m - l)) := by
      intro l hh m q1 q2 q3
      cases A with
      | none =>
        obtain ⟨rfl, rfl⟩ := hA1 rfl
        have : m = 0 := by omega
        subst this
        have : l = 0 := by omega
        subst this
        have : hh = 0 := by omega
        subst this
        simpa using VR.sliceNil
      | some p =>
        obtain ⟨b, o⟩ := p
        obtain ⟨em, a, he, rfl, ha⟩ := hA2 b o rfl
        by_cases hml : m = l
        · rw [if_pos hml]
          exact .slice _ _ _ _ em a he (fun h => by omega) (by omega)
        · rw [if_neg hml]
          exact .slice _ _ _ _ em _ he (fun h => by rw [ha (by omega)]; exact at_add _ _ _) (by omega)
    cases h3 with
    | none =>
      simp only at hv
      split at hv
      · rename_i l hh hb
        cases hv
        obtain ⟨q1, q2, q3⟩ := bounds_none (P := P) (w := w) (isSl := true) hb (Nat.le_refl _) hlc h1 h2
        exact ⟨_, hrun _ _ _ _ _ _ rfl q1, fin _ _ _ q2 q3 (Nat.le_refl _)⟩
      · cases hv
    | some vm um hm =>
      simp only at hv
      split at hv
      · rename_i m hmi
        obtain ⟨km, rfl⟩ := int_of hmi hm
        split at hv
        · rename_i hk
          split at hv
          · rename_i l hh hb
            cases hv
            obtain ⟨q1, q2, q3⟩ := bounds_max (P := P) (w := w) hb ⟨hk.1, hk.2.1⟩ hk.2.2 (km := km) h1 h2
            exact ⟨_, hrun _ _ _ _ _ _ rfl q1, fin _ _ _ q2 q3 (by omega)⟩
          · cases hv
        · cases hv
      · cases hv
  · rename_i b o len cap z
    split at hv
    · rename_i hz
      cases hx with
      | oslice _ _ _ _ _ cap' em a he ha hl hcap =>
      cases h3 with
      | none =>
        simp only at hv
        split at hv
        · rename_i l hh hb
          cases hv
          obtain ⟨q1, q2, q3⟩ := bounds_none (P := P) (w := w) (isSl := true) hb hcap hl h1 h2
          refine ⟨_, hrun _ _ _ _ _ _ rfl q1, ?_⟩
          by_cases hml : cap' = l
          · rw [if_pos hml]
            exact .oslice _ _ _ _ _ _ em a he (fun h => by omega) (by omega) (by omega)
          · rw [if_neg hml]
            refine .oslice _ _ _ _ _ _ em _ he (fun h => ?_) (by omega) (by omega)
            obtain ⟨g1, g2⟩ := ha (by omega)
            refine ⟨by rw [g1]; exact at_add _ _ _, ?_⟩
            rcases hz with rfl | rfl
            · refine g2.imp id fun g2 => ?_
              have : l * z + (cap' - l) * z = cap' * z := by rw [← Nat.add_mul]; congr 1; omega
              omega
            · exact .inl rfl
        · cases hv
      | some vm um hm =>
        simp only at hv
        split at hv
        · rename_i m hmi
          obtain ⟨km, rfl⟩ := int_of hmi hm
          split at hv
          · rename_i hk
            split at hv
            · rename_i l hh hb
              cases hv
              obtain ⟨q1, q2, q3⟩ := bounds_max (P := P) (w := w) (cap := cap') hb ⟨hk.1, by omega⟩ hk.2.2 (km := km) h1 h2
              refine ⟨_, hrun _ _ _ _ _ _ rfl q1, ?_⟩
              by_cases hml : m.toNat = l
              · rw [if_pos hml]
                exact .slice _ _ _ _ em a he (fun h => by omega) (by omega)
              · rw [if_neg hml]
                exact .slice _ _ _ _ em _ he (fun h => by rw [(ha (by omega)).1]; exact at_add _ _ _) (by omega)
            · cases hv
          · cases hv
        · cases hv
    · cases hv
  · cases hv
end
end Abs
end Go.Proofs.YtmgbcaboljilnaaGreatDoor
