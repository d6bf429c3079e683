/- The abstract machine's single operations are the model's. -/
import Derived.Test.YtmgbcaboljilnaaGreatDoorA6
import Derived.Laws.Strings
import Derived.Laws.StructEq
namespace Go.Proofs.YtmgbcaboljilnaaGreatDoor
namespace Abs
set_option linter.unusedVariables false
set_option linter.unusedSimpArgs false
open Go.RowKit

section
variable {P : Program} {B : Nat} {w0 w : World} {ρ : Rho} {h : Heap}

theorem run_und {t : TypeId} {d : TypeDesc} (hd : P.underlying t = some d) : (underlying t).run P w = .ok d w := by
  simp only [underlying, Sem.run_bind, run_program, Result.andThen_ok, hd, Sem.run_pure]
theorem run_size {t : TypeId} {n : Nat} (hd : sizeC P t = some n) : (sizeOf t).run P w = .ok n w := by
  unfold sizeC at hd
  cases hi : P.info? t with
  | none => rw [hi] at hd; cases hd
  | some i =>
    rw [hi] at hd
    simp only [Option.map_some, Option.some.injEq] at hd
    simp only [sizeOf, typeInfo, Sem.run_bind, run_program, Result.andThen_ok, hi, Sem.run_pure, hd]
theorem run_info {t : TypeId} {n : Nat} (hd : bytesC P t = some n) : ∃ i, (typeInfo t).run P w = .ok i w ∧ i.bytes = n := by
  unfold bytesC at hd
  cases hi : P.info? t with
  | none => rw [hi] at hd; cases hd
  | some i =>
    rw [hi] at hd
    simp only [Option.map_some, Option.some.injEq] at hd
    exact ⟨i, by simp only [typeInfo, Sem.run_bind, run_program, Result.andThen_ok, hi, Sem.run_pure], hd⟩
theorem run_zero {t : TypeId} {z : Value} (hd : zeroVal P t = some z) : (zeroValue t).run P w = .ok z w := by
  unfold zeroVal at hd
  cases hi : P.info? t with
  | none => rw [hi] at hd; cases hd
  | some i =>
    rw [hi] at hd
    simp only [Option.bind_some] at hd
    simp only [zeroValue, typeInfo, Sem.run_bind, run_program, Result.andThen_ok, hi, Sem.run_pure, hd]
theorem zeroC_val {t : TypeId} {zs : List V} (hd : zeroC P t = some zs) : ∃ z, zeroVal P t = some z ∧ ∀ ρ, VRs ρ zs z.cells.toList := by
  unfold zeroC at hd
  split at hd
  · rename_i z hz
    exact ⟨z, hz, fun ρ => ofVs_sound ρ hd⟩
  · cases hd

theorem aggC_none {t : TypeId} (hd : aggC P t = some none) : (isAgg t).run P w = .ok false w := by
  unfold aggC at hd
  split at hd
  · split at hd <;> cases hd
  · split at hd <;> cases hd
  · rename_i d h1 h2 hu
    simp only [isAgg, Sem.run_bind, run_und hu, Result.andThen_ok]
    rfl
  · cases hd
theorem aggC_some {t : TypeId} {n : Nat} (hd : aggC P t = some (some n)) : (isAgg t).run P w = .ok true w ∧ sizeC P t = some n := by
  unfold aggC at hd
  split at hd
  · rename_i fs hu
    split at hd
    · rename_i m hm
      cases hd
      exact ⟨by simp only [isAgg, Sem.run_bind, run_und hu, Result.andThen_ok, Sem.run_pure], hm⟩
    · cases hd
  · rename_i l e hu
    split at hd
    · rename_i m hm
      cases hd
      exact ⟨by simp only [isAgg, Sem.run_bind, run_und hu, Result.andThen_ok, Sem.run_pure], hm⟩
    · cases hd
  · cases hd
  · cases hd

theorem load_sound (r : Rel P B w0 ρ h w) {t : TypeId} {g : Option Nat} (hg : aggC P t = some g) {a : V} {ua : Value} (ha : VR ρ a ua) {v : V} (hv : loadA h g a = some v) :
    ∃ p, ua = .pointer (some p) ∧ ∃ u, (loadVar t p).run P w = .ok u w ∧ VR ρ v u := by
  unfold loadA at hv
  split at hv
  · rename_i b o
    cases ha with
    | ptr _ _ e p he hp =>
    refine ⟨p, rfl, ?_⟩
    subst hp
    split at hv
    · obtain ⟨u, hu, hr⟩ := r.rd he hv
      refine ⟨u, ?_, hr⟩
      simp only [loadVar, Sem.run_bind, aggC_none hg, Result.andThen_ok, Bool.false_eq_true, if_false, run_load, hu]
    · rename_i n
      split at hv
      · rename_i cs hcs
        cases hv
        obtain ⟨hl, us, h1, h2⟩ := r.rds (P := P) he hcs
        obtain ⟨ga, gs⟩ := aggC_some (w := w) hg
        refine ⟨.agg us.toArray, ?_, .agg _ _ (by simpa using h1)⟩
        simp only [loadVar, Sem.run_bind, ga, Result.andThen_ok, if_true, run_size gs, h2, Sem.run_pure]
      · cases hv
  · cases hv

theorem store_sound (r : Rel P B w0 ρ h w) {t : TypeId} {n : Nat} (hn : sizeC P t = some n) {a x : V} {ua ux : Value} (ha : VR ρ a ua) (hx : VR ρ x ux) {h' : Heap} (hv : storeA h n a x = some h') :
    ∃ p, ua = .pointer (some p) ∧ ∃ w', (storeVar t p ux).run P w = .ok () w' ∧ Rel P B w0 ρ h' w' := by
  unfold storeA at hv
  split at hv
  · rename_i b o
    cases ha with
    | ptr _ _ e p he hp =>
    refine ⟨p, rfl, ?_⟩
    subst hp
    split at hv
    · rename_i hl
      obtain ⟨w', h1, h2⟩ := r.wr (P := P) hv he hx.cells
      refine ⟨w', ?_, h2⟩
      have hs : ux.cells.size = n := by
        have := hx.cells.length
        simp only [Array.length_toList] at this
        omega
      simp only [storeVar, Sem.run_bind, run_size hn, Result.andThen_ok, hs, ne_eq, not_true_eq_false, if_false, h1]
    · cases hv
  · cases hv

/-! ### Numbers, strings -/
theorem strOf_append (s t : ByteArray) : strOf (s ++ t) = strOf s ++ strOf t := by
  simp [strOf, ByteArray.data_append]
theorem toNat_inj {a b : List UInt8} (h : a.map UInt8.toNat = b.map UInt8.toNat) : a = b := by
  induction a generalizing b with
  | nil => cases b with
    | nil => rfl
    | cons y b => simp at h
  | cons x a ih => cases b with
    | nil => simp at h
    | cons y b =>
      simp only [List.map_cons, List.cons.injEq] at h
      rw [ih h.2, UInt8.toNat_inj.1 h.1]
theorem bytesLess_eq : ∀ (a b : List UInt8), Op.bytesLess a b = lessL (a.map UInt8.toNat) (b.map UInt8.toNat)
  | _, [] => by simp [Op.bytesLess, lessL]
  | [], _ :: _ => by simp [Op.bytesLess, lessL]
  | a :: x, b :: y => by
    have he : (a == b) = (a.toNat == b.toNat) := by
      rw [Bool.eq_iff_iff]; simp [UInt8.toNat_inj]
    have hl : decide (a < b) = decide (a.toNat < b.toNat) := by simp [UInt8.lt_iff_toNat_lt]
    simp only [Op.bytesLess, lessL, List.map_cons, bytesLess_eq x y, he, hl]
theorem strEq (s t : ByteArray) : (s.toList == t.toList) = beqL (strOf s) (strOf t) := by
  rw [Bool.eq_iff_iff, beqL_iff]
  simp only [beq_iff_eq, strOf]
  constructor
  · intro h; rw [ByteArray.toList_eq, ByteArray.toList_eq] at h; rw [h]
  · intro h; rw [ByteArray.toList_eq, ByteArray.toList_eq]; exact toNat_inj h

theorem guard_flat (op : BinOp) (t : TypeId) (x y : Operand) {a b : Value} (h1 : ¬ (a = .nilIface ∧ b = .nilIface)) (h2 : ∀ c d, ¬ (a = .agg c ∧ b = .agg d)) : (eqGuard op t x y a b).run P w = .ok () w := by
  unfold eqGuard
  split
  · simp only [Bool.not_true, Bool.false_eq_true, if_false]
    split
    · exact absurd ⟨rfl, rfl⟩ h1
    · exact absurd ⟨rfl, rfl⟩ (h2 _ _)
    · rfl
  · simp only [Bool.not_true, Bool.false_eq_true, if_false]
    split
    · exact absurd ⟨rfl, rfl⟩ h1
    · exact absurd ⟨rfl, rfl⟩ (h2 _ _)
    · rfl
  · rfl

theorem bin_sound {op : BinOp} {t : TypeId} {ox oy : Operand} {x y v : V} {ux uy : Value} (hv : binA op x y = some v) (hx : VR ρ x ux) (hy : VR ρ y uy) :
    ∃ u, (do eqGuard op t ox oy ux uy; binOp op t ux uy : Sem Value).run P w = .ok u w ∧ VR ρ v u := by
  unfold binA at hv
  split at hv
  · rename_i k a k' b
    cases hx
    cases hy
    simp only [Sem.run_bind, guard_flat (P := P) (w := w) op t ox oy (a := .int k a) (b := .int k' b) (by simp) (by simp), Result.andThen_ok]
    cases op
    case shl =>
      simp only [shiftA] at hv
      split at hv
      · cases hv
      · rename_i hn
        cases hv
        exact ⟨_, by simp only [binOp, Op.shift, hn, if_false, Sem.run_pure], .int _ _⟩
    case shr =>
      simp only [shiftA] at hv
      split at hv
      · cases hv
      · rename_i hn
        cases hv
        exact ⟨_, by simp only [binOp, Op.shift, hn, if_false, Sem.run_pure], .int _ _⟩
    case quo =>
      simp only at hv
      split at hv
      · rename_i hk
        obtain ⟨rfl, hb⟩ := hk
        cases hv
        exact ⟨_, by simp only [binOp, Op.intDiv, ne_eq, not_true_eq_false, if_false, hb, Sem.run_pure], .int _ _⟩
      · cases hv
    case rem =>
      simp only at hv
      split at hv
      · rename_i hk
        obtain ⟨rfl, hb⟩ := hk
        cases hv
        exact ⟨_, by simp only [binOp, Op.intDiv, ne_eq, not_true_eq_false, if_false, hb, Sem.run_pure], .int _ _⟩
      · cases hv
    all_goals
      simp only at hv
      split at hv
      · rename_i hk
        subst hk
        cases hv
        refine ⟨_, by (simp only [binOp, ne_eq, not_true_eq_false, if_false]; rfl), ?_⟩
        constructor
      · cases hv
  · rename_i a b
    cases hx with
    | str s _ hs =>
    cases hy with
    | str s' _ hs' =>
    subst hs hs'
    simp only [Sem.run_bind, guard_flat (P := P) (w := w) op t ox oy (a := .string s) (b := .string s') (by simp) (by simp), Result.andThen_ok]
    have he := strEq s s'
    have hl : Op.bytesLess s.toList s'.toList = lessL (strOf s) (strOf s') := by
      rw [bytesLess_eq, ByteArray.toList_eq, ByteArray.toList_eq]; rfl
    cases op <;> simp only at hv
    case add =>
      split at hv
      · rename_i hk
        cases hv
        have hn : ¬ (((s.size + s'.size : Nat) : Int) > IntKind.i64.max) := by
          have h1 : (strOf s).length = s.size := by simp [strOf]
          have h2 : (strOf s').length = s'.size := by simp [strOf]
          rw [h1, h2] at hk
          have : IntKind.i64.max = 9223372036854775807 := by decide
          rw [this]; omega
        exact ⟨.string (s ++ s'), by simp only [binOp, Op.stringOp, hn, if_false, Sem.run_pure], .str _ _ (strOf_append s s').symm⟩
      · cases hv
    all_goals first
      | (cases hv; done)
      | (cases hv; exact ⟨_, by simp only [binOp, Op.stringOp, he, hl, Sem.run_pure], .bool _⟩)
  · cases hv

theorem part_sound {t : TypeId} {g : Option Nat} (hg : aggC P t = some g) {xs : List V} {a : Array Value} (hx : VRs ρ xs a.toList) {off : Nat} {v : V} (hv : aggOf g xs off = some v) :
    ∃ u, (part t a off).run P w = .ok u w ∧ VR ρ v u := by
  unfold aggOf at hv
  split at hv
  · obtain ⟨u, hu, hr⟩ := hx.get _ _ hv
    refine ⟨u, ?_, hr⟩
    have hu' : a[off]? = some u := by simpa using hu
    simp only [part, Sem.run_bind, aggC_none hg, Result.andThen_ok, Bool.false_eq_true, if_false, hu', Sem.run_pure]
  · rename_i n
    split at hv
    · rename_i hl
      cases hv
      obtain ⟨ga, gs⟩ := aggC_some (w := w) hg
      refine ⟨.agg (a.extract off (off + n)), ?_, .agg _ _ ?_⟩
      · simp only [part, Sem.run_bind, ga, Result.andThen_ok, if_true, run_size gs, Sem.run_pure]
      · have := (hx.drop off).take n
        rw [Array.toList_extract, List.extract_eq_take_drop]
        simpa using this
    · cases hv

theorem flatC {n : Nat} {t : TypeId} {k : FK} (ht : eqdC P (n + 1) t = some (.flat k)) :
    match k with
    | .bool => P.underlying t = some .bool
    | .int => ∃ i, P.underlying t = some (.int i)
    | .str => P.underlying t = some .string
    | .ptr => ∃ e m, P.underlying t = some (.pointer e) ∧ sizeC P e = some (m + 1)
    | .slice => ∃ e, P.underlying t = some (.slice e)
    | .map => ∃ e f, P.underlying t = some (.map e f)
    | .func => ∃ a b c, P.underlying t = some (.func a b c) := by
  unfold eqdC at ht
  split at ht
  all_goals rename_i hu
  all_goals first
    | (cases ht; done)
    | (cases ht; exact hu)
    | (cases ht; exact ⟨_, hu⟩)
    | (cases ht; exact ⟨_, _, hu⟩)
    | (cases ht; exact ⟨_, _, _, hu⟩)
    | skip
  · split at ht
    · rename_i hs; cases ht; exact ⟨_, _, hu, hs⟩
    · cases ht
  · split at ht
    · cases ht
    · split at ht <;> cases ht

theorem flat_sound {k : FK} {x y : V} {b : Bool} {ux uy : Value} (hv : flatEq k x y = some b) (hx : VR ρ x ux) (hy : VR ρ y uy) (d n : Nat) {t : TypeId} (ht : eqdC P (n + 1) t = some (.flat k)) :
    (Op.equalIn (d + 1) t ux uy).run P w = .ok b w := by
  have hc := flatC ht
  unfold flatEq at hv
  split at hv
  · cases hx; cases hy; cases hv
    exact run_equalIn_bool w d t _ _ hc
  · obtain ⟨i, hu⟩ := hc
    cases hx; cases hy
    split at hv
    · rename_i hk; subst hk; cases hv
      exact run_equalIn_int w d t _ i _ _ hu
    · cases hv
  · cases hx with
    | str s _ hs =>
    cases hy with
    | str s' _ hs' =>
    cases hv
    rw [run_equalIn_string w d t _ _ hc, strEq, hs, hs']
  · obtain ⟨e, m, hu, hs⟩ := hc
    cases hx
    cases hv
    cases hy <;> simp only [Op.equalIn, Sem.run_bind, run_und hu, Result.andThen_ok] <;> rfl
  · obtain ⟨e, m, hu, hs⟩ := hc
    cases hx; cases hy
    cases hv
    simp only [Op.equalIn, Sem.run_bind, run_und hu, Result.andThen_ok]; rfl
  · obtain ⟨e, m, hu, hs⟩ := hc
    cases hx with
    | ptr _ _ e1 a1 h1 h1' =>
    cases hy with
    | ptr _ _ e2 a2 h2 h2' =>
    split at hv
    · rename_i hb
      subst hb
      cases hv
      rw [h1] at h2
      cases h2
      subst h1' h2'
      simp only [Op.equalIn, Sem.run_bind, run_und hu, Result.andThen_ok, run_size hs, ne_eq, Nat.add_one_ne_zero, not_false_eq_true, if_true]
      simp only [sameAddr, at_]
      simp
      rw [Bool.eq_iff_iff]
      simp
    · cases hv
  · obtain ⟨e, hu⟩ := hc
    cases hx
    cases hv
    cases hy <;> simp only [Op.equalIn, Sem.run_bind, run_und hu, Result.andThen_ok] <;> rfl
  · obtain ⟨e, hu⟩ := hc
    cases hx; cases hy; cases hv
    simp only [Op.equalIn, Sem.run_bind, run_und hu, Result.andThen_ok]; rfl
  · obtain ⟨e, hu⟩ := hc
    cases hx; cases hy; cases hv
    simp only [Op.equalIn, Sem.run_bind, run_und hu, Result.andThen_ok]; rfl
  · obtain ⟨e, hu⟩ := hc
    cases hx; cases hy; cases hv
    simp only [Op.equalIn, Sem.run_bind, run_und hu, Result.andThen_ok]; rfl
  · obtain ⟨e, f, hu⟩ := hc
    cases hx
    cases hv
    cases hy <;> simp only [Op.equalIn, Sem.run_bind, run_und hu, Result.andThen_ok] <;> rfl
  · obtain ⟨e, f, hu⟩ := hc
    cases hx; cases hy; cases hv
    simp only [Op.equalIn, Sem.run_bind, run_und hu, Result.andThen_ok]; rfl
  · obtain ⟨e, f, g, hu⟩ := hc
    cases hx; cases hy; cases hv
    simp only [Op.equalIn, Sem.run_bind, run_und hu, Result.andThen_ok]; rfl
  · obtain ⟨e, f, g, hu⟩ := hc
    cases hx; cases hy; cases hv
    simp only [Op.equalIn, Sem.run_bind, run_und hu, Result.andThen_ok]; rfl
  · obtain ⟨e, f, g, hu⟩ := hc
    cases hx; cases hy; cases hv
    simp only [Op.equalIn, Sem.run_bind, run_und hu, Result.andThen_ok]; rfl
  · cases hv

mutual
theorem eqA_sound : ∀ (n : Nat) {d : EqD} {t : TypeId} (ht : eqdC P n t = some d) {x y : V} {b : Bool} (hv : eqA d x y = some b) {ux uy : Value} (hx : VR ρ x ux) (hy : VR ρ y uy) (k : Nat) (hk : n ≤ k),
    (Op.equalIn k t ux uy).run P w = .ok b w
  | 0, d, t, ht, x, y, b, hv, ux, uy, hx, hy, k, hk => by unfold eqdC at ht; cases ht
  | n + 1, .flat f, t, ht, x, y, b, hv, ux, uy, hx, hy, k, hk => by
    obtain ⟨k, rfl⟩ : ∃ m, k = m + 1 := ⟨k - 1, by omega⟩
    unfold eqA at hv
    exact flat_sound hv hx hy k n ht
  | n + 1, .struct fs, t, ht, x, y, b, hv, ux, uy, hx, hy, k, hk => by
    obtain ⟨k, rfl⟩ : ∃ m, k = m + 1 := ⟨k - 1, by omega⟩
    have hq : ∃ fields, P.underlying t = some (.struct fields) ∧ P.stoodInHeld t = false ∧ eqdsC P n fields.toList = some fs := by
      unfold eqdC at ht
      split at ht <;> try (cases ht; done)
      · split at ht <;> cases ht
      · rename_i fields hu
        split at ht
        · cases ht
        · rename_i hs
          split at ht
          · rename_i l hl
            cases ht
            exact ⟨_, hu, by simpa using hs, hl⟩
          · cases ht
    obtain ⟨fields, hu, hs, hl⟩ := hq
    cases x <;> try (unfold eqA at hv; cases hv; done)
    rename_i xs
    cases y <;> try (unfold eqA at hv; cases hv; done)
    rename_i ys
    unfold eqA at hv
    cases hx with
    | agg _ a ha =>
    cases hy with
    | agg _ c hc =>
    have hf : P.fieldsOf t = fields := by unfold Program.fieldsOf; rw [hu]
    rw [run_equalIn_struct w k t a c (by rw [hf]; exact hu) hs, hf]
    exact eqAs_sound n hl hv ha hc k (by omega)
theorem eqAs_sound : ∀ (n : Nat) {fields : List Field} {fs : List (Nat × Option Nat × EqD)} (hl : eqdsC P n fields = some fs) {xs ys : List V} {b : Bool} (hv : eqAs fs xs ys = some b) {a c : Array Value} (ha : VRs ρ xs a.toList) (hc : VRs ρ ys c.toList) (k : Nat) (hk : n ≤ k),
    (Op.eqFields k a c fields).run P w = .ok b w
  | 0, _, _, hl, _, _, _, _, _, _, _, _, _, _ => by unfold eqdsC at hl; cases hl
  | n + 1, [], fs, hl, xs, ys, b, hv, a, c, ha, hc, k, hk => by
    unfold eqdsC at hl
    cases hl
    unfold eqAs at hv
    cases hv
    rfl
  | n + 1, f :: r, fs, hl, xs, ys, b, hv, a, c, ha, hc, k, hk => by
    unfold eqdsC at hl
    unfold Op.eqFields
    split at hl
    · rename_i hn
      rw [if_neg (by simpa using hn)]
      exact eqAs_sound n hl hv ha hc k (by omega)
    · rename_i hn
      rw [if_pos hn]
      split at hl
      · rename_i g d l hg hd hr
        cases hl
        unfold eqAs at hv
        split at hv
        · rename_i x y hx hy
          obtain ⟨u1, h1, q1⟩ := part_sound (P := P) (w := w) hg ha hx
          obtain ⟨u2, h2, q2⟩ := part_sound (P := P) (w := w) hg hc hy
          simp only [Sem.run_bind, h1, Result.andThen_ok, h2]
          split at hv
          · rename_i he
            rw [eqA_sound n hd he q1 q2 k (by omega)]
            simp only [Result.andThen_ok, Bool.not_true, Bool.false_eq_true, if_false]
            exact eqAs_sound n hr hv ha hc k (by omega)
          · rename_i he
            cases hv
            rw [eqA_sound n hd he q1 q2 k (by omega)]
            simp only [Result.andThen_ok, Bool.not_false, if_true, Sem.run_pure]
          · cases hv
        · cases hv
      · cases hl
end
end
end Abs
end Go.Proofs.YtmgbcaboljilnaaGreatDoor
