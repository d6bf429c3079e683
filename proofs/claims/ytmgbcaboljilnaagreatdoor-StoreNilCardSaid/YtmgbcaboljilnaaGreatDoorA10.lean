/- The abstract machine's indexing, copies, conversions and maps are the model's. -/
import Derived.Test.YtmgbcaboljilnaaGreatDoorA9
import Derived.Laws.MakeOwn
import Derived.Laws.BytesString
import Derived.Lib.ConvBytes
import Derived.Laws.IdiomMaps
namespace Go.Proofs.YtmgbcaboljilnaaGreatDoor
namespace Abs
set_option linter.unusedVariables false
set_option linter.unusedSimpArgs false
open Go.RowKit

section
variable {P : Program} {B : Nat} {w0 w : World} {ρ : Rho} {h : Heap}

theorem extract_strOf (s : ByteArray) (l hh : Nat) : strOf (s.extract l hh) = ((strOf s).drop l).take (hh - l) := by
  simp [strOf, ByteArray.data_extract, List.extract_eq_take_drop, List.map_take, List.map_drop]

theorem bounds_str {len : Nat} {lo hi : Option V} {l hh : Nat} (hb : boundsA len len lo hi = some (l, hh)) {isSl : Bool} {ulo uhi : Option Value} (h1 : VRo ρ lo ulo) (h2 : VRo ρ hi uhi) :
    (Instr.sliceBounds isSl len len ulo uhi none).run P w = .ok (l, hh, len) w ∧ l ≤ hh ∧ hh ≤ len := bounds_none hb (Nat.le_refl _) (Nat.le_refl _) h1 h2

theorem sliceStr_sound {t : TypeId} (ht : P.underlying t = some .string) {x v : V} {lo hi : Option V} (hv : sliceStrA x lo hi = some v) {ux : Value} {ulo uhi : Option Value}
    (hx : VR ρ x ux) (h1 : VRo ρ lo ulo) (h2 : VRo ρ hi uhi) : ∃ u, (Instr.sliceAt t ux ulo uhi none).run P w = .ok u w ∧ VR ρ v u := by
  unfold sliceStrA at hv
  split at hv
  · rename_i s
    cases hx with
    | str b _ hs =>
    subst hs
    have hl : (strOf b).length = b.size := by simp [strOf]
    rw [hl] at hv
    split at hv
    · rename_i l hh hb
      cases hv
      obtain ⟨q1, q2, q3⟩ := bounds_str (P := P) (w := w) (isSl := false) hb h1 h2
      exact ⟨.string (b.extract l hh), by simp only [Instr.sliceAt, Sem.run_bind, run_und ht, Result.andThen_ok, Instr.slice, Option.isSome_none, Bool.false_eq_true, if_false, Sem.run_pure, q1], .str _ _ (extract_strOf b l hh).symm⟩
    · cases hv
  · cases hv

theorem sliceArr_sound {t e : TypeId} {n sz : Nat} (ht : P.underlying t = some (.array n e)) (hs : sizeC P e = some sz) {x v : V} {lo hi : Option V} (hv : sliceArrA n sz x lo hi = some v) {ux : Value} {ulo uhi : Option Value}
    (hx : VR ρ x ux) (h1 : VRo ρ lo ulo) (h2 : VRo ρ hi uhi) : ∃ u, (Instr.sliceAt t ux ulo uhi none).run P w = .ok u w ∧ VR ρ v u := by
  unfold sliceArrA at hv
  split at hv
  · rename_i b o
    cases hx with
    | ptr _ _ em a he ha =>
    split at hv
    · rename_i l hh hb
      cases hv
      obtain ⟨q1, q2, q3⟩ := bounds_str (P := P) (w := w) (isSl := false) hb h1 h2
      refine ⟨.slice (some (if n = l then a else a.add (l * sz))) (hh - l) (n - l), by simp only [Instr.sliceAt, Sem.run_bind, run_und ht, Result.andThen_ok, Instr.sureAddr, q1, run_size hs, Sem.run_pure], ?_⟩
      refine .slice _ _ _ _ em _ he (fun hne => ?_) (by omega)
      rw [if_neg (by omega), ha, at_add]
    · cases hv
  · cases hv

theorem idxSl_sound {t e : TypeId} {sz : Nat} (ht : P.underlying t = some (.slice e)) (hs : sizeC P e = some sz) {x i v : V} (hv : idxSlA sz x i = some v) {ux ui : Value} (hx : VR ρ x ux) (hi : VR ρ i ui) :
    ∃ u, (Instr.indexAt t ux ui).run P w = .ok u w ∧ VR ρ v u := by
  unfold idxSlA at hv
  split at hv
  · rename_i n hn
    obtain ⟨k, rfl⟩ := int_of hn hi
    split at hv
    · rename_i b o len cap
      cases hx with
      | slice _ _ _ _ em a he ha hl =>
      split at hv
      · rename_i hk
        cases hv
        refine ⟨.pointer (some (a.add (n.toNat * sz))), ?_, .ptr _ _ em _ he (by rw [ha (by omega), at_add])⟩
        simp only [Instr.indexAt, asIntOf, Sem.run_bind, Sem.run_pure, Result.andThen_ok, run_und ht, hk, and_self, if_true, run_size hs]
      · cases hv
    · rename_i b o len cap z
      cases hx with
      | oslice _ _ _ _ _ cap' em a he ha hl hc =>
      split at hv
      · rename_i hk
        cases hv
        refine ⟨.pointer (some (a.add (n.toNat * sz))), ?_, .ptr _ _ em _ he (by rw [(ha (by omega)).1, at_add])⟩
        simp only [Instr.indexAt, asIntOf, Sem.run_bind, Sem.run_pure, Result.andThen_ok, run_und ht, hk, and_self, if_true, run_size hs]
      · cases hv
    · cases hv
  · cases hv

theorem idxArr_sound {t e : TypeId} {n sz : Nat} (ht : P.underlying t = some (.array n e)) (hs : sizeC P e = some sz) {x i v : V} (hv : idxArrA n sz x i = some v) {ux ui : Value} (hx : VR ρ x ux) (hi : VR ρ i ui) :
    ∃ u, (Instr.indexAt t ux ui).run P w = .ok u w ∧ VR ρ v u := by
  unfold idxArrA at hv
  split at hv
  · rename_i m b o hn
    obtain ⟨k, rfl⟩ := int_of hn hi
    cases hx with
    | ptr _ _ em a he ha =>
    split at hv
    · rename_i hk
      cases hv
      refine ⟨.pointer (some (a.add (m.toNat * sz))), ?_, .ptr _ _ em _ he (by rw [ha, at_add])⟩
      simp only [Instr.indexAt, asIntOf, Sem.run_bind, Sem.run_pure, Result.andThen_ok, run_und ht, Instr.sureAddr, hk, and_self, if_true, run_size hs]
    · cases hv
  · cases hv

theorem atStr_sound {t : TypeId} (ht : P.underlying t = some .string) {x i v : V} (hv : atStrA x i = some v) {ux ui : Value} (hx : VR ρ x ux) (hi : VR ρ i ui) :
    ∃ u, (Instr.index t ux ui).run P w = .ok u w ∧ VR ρ v u := by
  unfold atStrA at hv
  split at hv
  · rename_i s n hn
    obtain ⟨k, rfl⟩ := int_of hn hi
    cases hx with
    | str b _ hs =>
    subst hs
    split at hv
    · rename_i h0
      split at hv
      · rename_i c hc
        cases hv
        have hc' : ∃ d, b[n.toNat]? = some d ∧ d.toNat = c := by
          simp only [strOf, List.getElem?_map, Option.map_eq_some_iff] at hc
          obtain ⟨d, hd, rfl⟩ := hc
          refine ⟨d, ?_, rfl⟩
          have hlt : n.toNat < b.size := by
            have := (List.getElem?_eq_some_iff.1 hd).1
            simpa using this
          show (if hh : n.toNat < b.size then some (b[n.toNat]'hh) else none) = some d
          rw [dif_pos hlt]
          have := (List.getElem?_eq_some_iff.1 hd).2
          rw [← this]
          rfl
        obtain ⟨d, hd, rfl⟩ := hc'
        refine ⟨_, ?_, .int _ _⟩
        simp only [Instr.index, asIntOf, Sem.run_bind, Sem.run_pure, Result.andThen_ok, run_und ht, h0, if_true, hd]
      · cases hv
    · cases hv
  · cases hv

theorem atArr_sound {t e : TypeId} {n sz : Nat} {g : Option Nat} (ht : P.underlying t = some (.array n e)) (hs : sizeC P e = some sz) (hg : aggC P e = some g) {x i v : V} (hv : atArrA n sz g x i = some v) {ux ui : Value} (hx : VR ρ x ux) (hi : VR ρ i ui) :
    ∃ u, (Instr.index t ux ui).run P w = .ok u w ∧ VR ρ v u := by
  unfold atArrA at hv
  split at hv
  · rename_i cs m hn
    obtain ⟨k, rfl⟩ := int_of hn hi
    cases hx with
    | agg _ a ha =>
    split at hv
    · rename_i hk
      obtain ⟨u, q1, q2⟩ := part_sound (P := P) (w := w) hg ha hv
      refine ⟨u, ?_, q2⟩
      simp only [Instr.index, asIntOf, Sem.run_bind, Sem.run_pure, Result.andThen_ok, run_und ht, hk, and_self, if_true, run_size hs, q1]
    · cases hv
  · cases hv

theorem slLen_of {x : V} {n : Nat} (hn : slLen x = some n) {ux : Value} (hx : VR ρ x ux) : ∃ A c, ux = .slice A n c := by
  cases hx <;> simp only [slLen, Option.some.injEq] at hn <;> first | (cases hn; done) | (subst hn; exact ⟨_, _, rfl⟩)

theorem copy_sound (r : Rel P B w0 ρ h w) {t u e ty : TypeId} {sz : Nat} (ht : P.underlying t = some (.slice e)) (hs : sizeC P e = some sz) {x y v : V} {h' : Heap} (hv : copyA h sz x y = some (v, h')) {ux uy : Value} (hx : VR ρ x ux) (hy : VR ρ y uy) :
    ∃ uv w', (Builtin.copy_ #[t, u] ty #[ux, uy]).run P w = .ok uv w' ∧ VR ρ v uv ∧ Rel P B w0 ρ h' w' := by
  unfold copyA at hv
  split at hv
  · rename_i n m hn hm
    split at hv
    · rename_i items hi
      obtain ⟨us, q1, q2⟩ := slCells_sound (P := P) r hi hy ⟨m, hm, Nat.min_le_left _ _⟩
      obtain ⟨A, c, rfl⟩ := slLen_of hn hx
      obtain ⟨A2, c2, rfl⟩ := slLen_of hm hy
      have hrun : ∀ w', (match A with | some a => (storeCells a us).run P w = .ok () w' | none => w' = w) →
          (Builtin.copy_ #[t, u] ty #[.slice A n c, .slice A2 m c2]).run P w = .ok (.int .i64 (min m n : Nat)) w' := by
        intro w' hw
        have q2' : (Builtin.firstCells sz (Nat.min m n) (.slice A2 m c2)).run P w = .ok us.toArray w := q2
        cases A with
        | none =>
          subst hw
          simp only [Builtin.copy_, List.getElem?_toArray, List.getElem?_cons_zero, List.getElem?_cons_succ, Sem.run_bind, run_und ht, Result.andThen_ok, Builtin.lenOf, Sem.run_pure, run_size hs, q2', goInt]
        | some a =>
          simp only at hw
          simp only [Builtin.copy_, List.getElem?_toArray, List.getElem?_cons_zero, List.getElem?_cons_succ, Sem.run_bind, run_und ht, Result.andThen_ok, Builtin.lenOf, Sem.run_pure, run_size hs, q2', goInt, hw]
      have hus0 : min m n = 0 → us = [] := by
        intro h0
        have : items = [] := by
          unfold slCells at hi
          split at hi
          · cases hi; rfl
          · rw [if_pos h0] at hi; cases hi; rfl
          · rw [if_pos h0] at hi; cases hi; rfl
          · cases hi
        subst this
        cases q1; rfl
      split at hv
      · rename_i b o l c'
        cases hx with
        | slice _ _ _ _ em a he ha hl =>
        split at hv
        · rename_i h0
          cases hv
          refine ⟨_, w, hrun w ?_, by rw [h0]; exact .int _ _, r⟩
          simp only [hus0 h0]; rfl
        · rename_i h0
          split at hv
          · rename_i h2 hw
            cases hv
            obtain ⟨w', g1, g2⟩ := r.wr (P := P) hw he q1
            refine ⟨_, w', hrun w' ?_, .int _ _, g2⟩
            rw [ha (by omega)]; exact g1
          · cases hv
      · rename_i b o l c' z
        cases hx with
        | oslice _ _ _ _ _ cap' em a he ha hl hc =>
        split at hv
        · rename_i h0
          cases hv
          refine ⟨_, w, hrun w ?_, by rw [h0]; exact .int _ _, r⟩
          simp only [hus0 h0]; rfl
        · rename_i h0
          split at hv
          · rename_i h2 hw
            cases hv
            obtain ⟨w', g1, g2⟩ := r.wr (P := P) hw he q1
            refine ⟨_, w', hrun w' ?_, .int _ _, g2⟩
            rw [(ha (by omega)).1]; exact g1
          · cases hv
      · cases hx
        cases hv
        exact ⟨_, w, hrun w rfl, .int _ _, r⟩
      · cases hv
    · cases hv
  · cases hv

theorem reps_length : ∀ (n : Nat) (z : List V), (reps n z).length = n * z.length
  | 0, z => by simp [reps]
  | n + 1, z => by simp [reps, reps_length n z, Nat.add_mul, Nat.add_comm]
theorem zeroCells_toList (z : Array Value) : ∀ n : Nat, (Builtin.zeroCells z n).toList = (List.replicate n z.toList).flatten
  | 0 => by simp [Builtin.zeroCells]
  | n + 1 => by
    have ih := zeroCells_toList z n
    simp only [Builtin.zeroCells, Array.toList_map, Array.toList_range] at ih ⊢
    rw [Nat.add_mul, Nat.one_mul, List.range_add, List.map_append, ih, List.replicate_succ', List.flatten_append]
    congr 1
    apply List.ext_getElem?
    intro i
    by_cases hi : i < z.size
    · have : (n * z.size + i) % z.size = i := by rw [Nat.mul_comm, Nat.mul_add_mod, Nat.mod_eq_of_lt hi]
      simp [hi, this]
    · simp [hi]
theorem reps_sound {zs : List V} {z : Array Value} (hz : VRs ρ zs z.toList) : ∀ n : Nat, VRs ρ (reps n zs) (List.replicate n z.toList).flatten
  | 0 => .nil
  | n + 1 => by
    rw [List.replicate_succ, List.flatten_cons]
    exact hz.append (reps_sound hz n)

theorem clear_sound (r : Rel P B w0 ρ h w) {t e ty : TypeId} {sz : Nat} {zs : List V} (ht : P.underlying t = some (.slice e)) (hs : sizeC P e = some sz) (hz : zeroC P e = some zs) {x v : V} {h' : Heap} (hv : clearA h sz zs x = some (v, h')) {ux : Value} (hx : VR ρ x ux) :
    ∃ uv w', (Builtin.clear_ #[t] ty #[ux]).run P w = .ok uv w' ∧ VR ρ v uv ∧ Rel P B w0 ρ h' w' := by
  obtain ⟨z, hzv, hzr⟩ := zeroC_val hz
  unfold clearA at hv
  split at hv
  · cases hv
  · rename_i hn
    cases hv
    obtain ⟨A, c, rfl⟩ := slLen_of hn hx
    refine ⟨.tuple #[], w, ?_, .tuple _ _ .nil, r⟩
    cases A <;> simp [Builtin.clear_, run_und ht]
  · rename_i n hn0 hn
    obtain ⟨A, c, rfl⟩ := slLen_of hn hx
    have hnz : n ≠ 0 := fun h0 => by subst h0; exact hn0 rfl
    have hcs : VRs ρ (reps n zs) (Builtin.zeroCells z.cells n).toList := by rw [zeroCells_toList]; exact reps_sound (hzr ρ) n
    obtain ⟨n', rfl⟩ : ∃ m, n = m + 1 := ⟨n - 1, by omega⟩
    split at hv
    · rename_i b o l c'
      cases hx with
      | slice _ _ _ _ em a he ha hl =>
      split at hv
      · rename_i h2 hw
        cases hv
        obtain ⟨w', g1, g2⟩ := r.wr (P := P) hw he hcs
        refine ⟨.tuple #[], w', ?_, .tuple _ _ .nil, g2⟩
        rw [ha (by omega)]
        simp [Builtin.clear_, run_und ht, run_zero hzv, g1]
      · cases hv
    · rename_i b o l c' zz
      cases hx with
      | oslice _ _ _ _ _ cap' em a he ha hl hc =>
      split at hv
      · rename_i h2 hw
        cases hv
        obtain ⟨w', g1, g2⟩ := r.wr (P := P) hw he hcs
        refine ⟨.tuple #[], w', ?_, .tuple _ _ .nil, g2⟩
        rw [(ha (by omega)).1]
        simp [Builtin.clear_, run_und ht, run_zero hzv, g1]
      · cases hv
    · cases hv
end
end Abs
end Go.Proofs.YtmgbcaboljilnaaGreatDoor
