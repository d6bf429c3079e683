/- The abstract machine's appends are the model's. -/
import Derived.Test.YtmgbcaboljilnaaGreatDoorA7
import Derived.Laws.AppendOwn
namespace Go.Proofs.YtmgbcaboljilnaaGreatDoor
namespace Abs
set_option linter.unusedVariables false
set_option linter.unusedSimpArgs false
open Go.RowKit

section
variable {P : Program} {B : Nat} {w0 w : World} {ρ : Rho} {h : Heap}

/-- What an append's second operand has. -/
structure Items (P : Program) (w : World) (size n : Nat) (x : Value) (us : List Value) : Prop where
  len : ∀ w, (Builtin.lenOf x).run P w = .ok n w
  cells : (Builtin.firstCells size n x).run P w = .ok us.toArray w
  cells' : (Builtin.firstCells size n x).run P w.drew = .ok us.toArray w.drew

/-- An append's types: the second operand's is no integer's (that would be a count of zeros). -/
def appTypes (P : Program) (t u e : TypeId) : Prop := P.underlying t = some (.slice e) ∧ ((∃ d, P.underlying u = some (.slice d)) ∨ P.underlying u = some .string)

theorem info_of {t : TypeId} {size bytes : Nat} (hs : sizeC P t = some size) (hb : bytesC P t = some bytes) : ∃ i, P.info? t = some i ∧ i.size = size ∧ i.bytes = bytes := by
  unfold sizeC at hs
  unfold bytesC at hb
  cases hi : P.info? t with
  | none => rw [hi] at hs; cases hs
  | some i =>
    rw [hi] at hs hb
    simp only [Option.map_some, Option.some.injEq] at hs hb
    exact ⟨i, rfl, hs, hb⟩

theorem app_room {t u e ty : TypeId} (ht : appTypes P t u e) {size bytes n : Nat} (hs : sizeC P e = some size) (hb : bytesC P e = some bytes) {base : Option Addr} {sLen sCap : Nat} {x : Value} {us : List Value} (hx : Items P w size n x us)
    (hr : sLen + n ≤ sCap) {w' : World} (hw : match base with | some a => (storeCells (a.add (sLen * size)) us).run P w = .ok () w' | none => w' = w) :
    (Builtin.append_ #[t, u] ty #[.slice base sLen sCap, x]).run P w = .ok (.slice base (sLen + n) sCap) w' := by
  obtain ⟨h1, h2⟩ := ht
  obtain ⟨i, hi, rfl, rfl⟩ := info_of hs hb
  have hl := hx.len w
  have hc := hx.cells
  rcases h2 with ⟨d, h2⟩ | h2 <;> cases base with
  | none =>
    subst hw
    simp [Builtin.append_, run_und h1, run_und h2, sizeOf, typeInfo, hi, hl, hr, hc]
  | some a =>
    simp only at hw
    simp [Builtin.append_, run_und h1, run_und h2, sizeOf, typeInfo, hi, hl, hr, hc, hw]

theorem app_grow {t u e ty : TypeId} (ht : appTypes P t u e) {size bytes n : Nat} (hs : sizeC P e = some size) (hb : bytesC P e = some bytes) (z : Value) (hz : zeroVal P e = some z)
    {base : Option Addr} {sLen sCap : Nat} {x : Value} {us olds : List Value} (hx : Items P w size n x us) (hb0 : bytes ≠ 0)
    (ho : (Builtin.firstCells size sLen (.slice base sLen sCap)).run P w.drew = .ok olds.toArray w.drew)
    (hr : ¬ sLen + n ≤ sCap) (hroom : roomy (sLen + n) bytes = true) :
    ∃ c : Nat, sLen + n ≤ c ∧ c < 2 ^ 63 ∧ (Builtin.append_ #[t, u] ty #[.slice base sLen sCap, x]).run P w =
      .ok (.slice (some ⟨w.heap.size, 0, none⟩) (sLen + n) c) (w.drew.alloc (.cells ((olds ++ us).toArray ++ Builtin.zeroCells z.cells (c - (sLen + n))) e)) := by
  obtain ⟨h1, h2⟩ := ht
  obtain ⟨i, hi, rfl, rfl⟩ := info_of hs hb
  have hiz : i.zero = some z := by unfold zeroVal at hz; rw [hi] at hz; simpa using hz
  have hl := hx.len w
  have hc := hx.cells'
  have hrm : (2 * (sLen + n) + 2000) * i.bytes ≤ 281474976710656 := by simpa [roomy] using hroom
  have hnc := nextslicecap_le (need := sLen + n) (old := sCap) (by omega)
  have hmul : Builtin.nextslicecap (sLen + n) sCap * i.bytes ≤ 281474976710656 := Nat.le_trans (Nat.mul_le_mul_right _ (by omega)) hrm
  have h48 : ¬ (281474976710656 < Builtin.nextslicecap (sLen + n) sCap * i.bytes) := by omega
  have hsmall : sLen + n ≤ 281474976710656 := by
    have : (sLen + n) * 1 ≤ (2 * (sLen + n) + 2000) * i.bytes := Nat.mul_le_mul (by omega) (by omega)
    omega
  have h63 : ¬ (9223372036854775807 < ((sLen : Int) + (n : Int))) := by omega
  refine ⟨grownCap w (sLen + n) sCap e, grownCap_ge _ _ _ _, ?_, ?_⟩
  · unfold grownCap
    simp only [Question.cut]
    have : w.tape w.drawn (.appendCap (sLen + n) sCap e) % (2 ^ 63 - (sLen + n)) < 2 ^ 63 - (sLen + n) := Nat.mod_lt _ (by omega)
    omega
  · rcases h2 with ⟨d, h2⟩ | h2
    · simp [Builtin.append_, run_und h1, run_und h2, sizeOf, typeInfo, zeroValue, hi, hiz, hl, hr, h63, h48, hb0, Question.forced, hc, ho, newRow, grownCap]
      congr 2; apply Array.ext'; simp [List.append_assoc]
    · simp [Builtin.append_, run_und h1, run_und h2, sizeOf, typeInfo, zeroValue, hi, hiz, hl, hr, h63, h48, hb0, Question.forced, hc, ho, newRow, grownCap]
      congr 2; apply Array.ext'; simp [List.append_assoc]

/-- The cells of a slice's first n elements, on both sides. -/
theorem slCells_sound (r : Rel P B w0 ρ h w) {sz n : Nat} {x : V} {cs : List V} (hc : slCells h sz n x = some cs) {ux : Value} (hx : VR ρ x ux) (hn : ∃ m, slLen x = some m ∧ n ≤ m) :
    ∃ us, VRs ρ cs us ∧ (Builtin.firstCells sz n ux).run P w = .ok us.toArray w := by
  obtain ⟨m, hm, hnm⟩ := hn
  unfold slCells at hc
  split at hc
  · cases hx
    cases hc
    exact ⟨[], .nil, rfl⟩
  · rename_i b o l c
    simp only [slLen, Option.some.injEq] at hm
    subst hm
    cases hx with
    | slice _ _ _ _ e a he ha hl =>
    split at hc
    · rename_i h0
      cases hc
      subst h0
      exact ⟨[], .nil, by simp [Builtin.firstCells, loadCells, loadCellsFrom]⟩
    · rename_i h0
      obtain ⟨hl', us, h1, h2⟩ := r.rds (P := P) he hc
      rw [ha (by omega)]
      exact ⟨us, h1, h2⟩
  · rename_i b o l c s
    simp only [slLen, Option.some.injEq] at hm
    subst hm
    cases hx with
    | oslice _ _ _ _ _ cap' e a he ha hl hcap =>
    split at hc
    · rename_i h0
      cases hc
      subst h0
      exact ⟨[], .nil, by simp [Builtin.firstCells, loadCells, loadCellsFrom]⟩
    · rename_i h0
      obtain ⟨hl', us, h1, h2⟩ := r.rds (P := P) he hc
      rw [(ha (by omega)).1]
      exact ⟨us, h1, h2⟩
  · cases hc

theorem items_slice (r : Rel P B w0 ρ h w) {sz n : Nat} {x : V} {cs : List V} (hc : slCells h sz n x = some cs) {ux : Value} (hx : VR ρ x ux) (hn : slLen x = some n) :
    ∃ us, VRs ρ cs us ∧ Items P w sz n ux us := by
  obtain ⟨us, h1, h2⟩ := slCells_sound (P := P) r hc hx ⟨n, hn, Nat.le_refl _⟩
  obtain ⟨us', h1', h2'⟩ := slCells_sound (P := P) r.drew hc hx ⟨n, hn, Nat.le_refl _⟩
  have hl : ∀ w, (Builtin.lenOf ux).run P w = .ok n w := by
    intro w
    cases hx <;> simp only [slLen, Option.some.injEq] at hn <;> first | (cases hn; done) | (subst hn; rfl)
  refine ⟨us, h1, hl, h2, ?_⟩
  have hx2 : ∃ A l c, ux = .slice A l c := by
    cases hx <;> simp only [slLen] at hn <;> first | (cases hn; done) | exact ⟨_, _, _, rfl⟩
  obtain ⟨A, l, c, rfl⟩ := hx2
  cases A with
  | none =>
    simp only [Builtin.firstCells, Sem.run_pure] at h2 ⊢
    have : (#[] : Array Value) = us.toArray := by cases h2; rfl
    rw [this]
  | some a =>
    simp only [Builtin.firstCells] at h2 h2' ⊢
    have hul : us.length = us'.length := by rw [← VRs.length h1, ← VRs.length h1']
    have e1 : us.length = n * sz ∨ n = 0 := by
      by_cases h0 : n = 0
      · exact .inr h0
      · refine .inl ?_
        rw [← VRs.length h1]
        unfold slCells at hc
        split at hc
        · cases hx
        · rw [if_neg h0] at hc
          cases hx with
          | slice _ _ _ _ e a he ha hl => exact (r.rds (P := P) he hc).1
        · rw [if_neg h0] at hc
          cases hx with
          | oslice _ _ _ _ _ cap' e a he ha hl hcap => exact (r.rds (P := P) he hc).1
        · cases hc
    have : us.toArray = us'.toArray := by
      have key : ∀ (m i : Nat) (acc : Array Value) (v v' : Array Value) (W : World), (loadCellsFrom a i m acc).run P W = .ok v W → (loadCellsFrom a i m acc).run P W.drew = .ok v' W.drew → v = v' := by
        intro m
        induction m with
        | zero => intro i acc v v' W q1 q2; simp [loadCellsFrom] at q1 q2; rw [← q1, ← q2]
        | succ m ih =>
          intro i acc v v' W q1 q2
          simp only [loadCellsFrom, Sem.run_bind, run_load, World.cell?_drew] at q1 q2
          cases hcell : W.cell? (a.add i) with
          | some u =>
            rw [hcell] at q1 q2
            simp only [Result.andThen_ok] at q1 q2
            exact ih _ _ _ _ _ q1 q2
          | none =>
            rw [hcell] at q1 q2
            simp only at q1 q2
            cases hfar : W.farLoad P (a.add i) (Mode.plain == .atomic) with
            | error e => rw [hfar] at q1; cases q1
            | ok p =>
              rw [hfar] at q1
              have hfar' : W.drew.farLoad P (a.add i) (Mode.plain == .atomic) = .ok p := hfar
              rw [hfar'] at q2
              simp only [Result.andThen_ok] at q1 q2
              exact ih _ _ _ _ _ q1 q2
      exact key _ _ _ _ _ _ h2 h2'
    rw [this]; exact h2'

theorem Rel.none_at (r : Rel P B w0 ρ h w) : ρ h.size = none := by
  cases hx : ρ h.size with
  | none => rfl
  | some e' => exact absurd (r.dom _ _ hx) (Nat.lt_irrefl _)

/-- What is new is new. -/
def New (ρ ρ' : Rho) (n : Nat) : Prop := RLe ρ ρ' ∧ ∀ b e, ρ' b = some e → ρ b = some e ∨ n ≤ b
theorem New.refl (ρ : Rho) (n : Nat) : New ρ ρ n := ⟨RLe.refl ρ, fun b e h => .inl h⟩
theorem New.with_ {ρ : Rho} {n b : Nat} {e : Emb} (h : ρ b = none) (hn : n ≤ b) : New ρ (Rho.with_ ρ b e) n :=
  ⟨with_le h, fun x e' hx => by
    by_cases hxb : x = b
    · subst hxb; exact .inr hn
    · unfold Rho.with_ at hx; rw [if_neg hxb] at hx; exact .inl hx⟩
theorem New.trans {a b c : Rho} {n m : Nat} (h : New a b n) (k : New b c m) (hnm : n ≤ m) : New a c n :=
  ⟨h.1.trans k.1, fun x e hx => by
    rcases k.2 x e hx with h1 | h1
    · exact h.2 x e h1
    · exact .inr (Nat.le_trans hnm h1)⟩

/-- A new row: the first cells known, the others zeros. -/
theorem grown_sound (r : Rel P B w0 ρ h w) {cs : List V} {us : List Value} (hv : VRs ρ cs us) {S : List Nat} {fz sz need c : Nat} {ty2 : Option Nat} (hl : cs.length = need * sz) (hc : need ≤ c) (z : Array Value) (hz : z.size = sz) (el : TypeId) (hty : ∀ t, ty2 = some t → el = t) :
    let e : Emb := ⟨w.heap.size, 0, (us.toArray ++ Builtin.zeroCells z (c - need)).size⟩
    Rel P B w0 (Rho.with_ ρ h.size e) (h.push (.cells cs (.tip S fz ty2))) (w.alloc (.cells (us.toArray ++ Builtin.zeroCells z (c - need)) el)) ∧
    VR (Rho.with_ ρ h.size e) (.oslice h.size 0 need need sz) (.slice (some ⟨w.heap.size, 0, none⟩) need c) := by
  have hul : us.length = need * sz := by rw [← VRs.length hv]; exact hl
  refine ⟨?_, ?_⟩
  · refine (r.push _).new r.none_at (by rw [Heap.size_push]; omega) (by rw [Heap.get_push, if_pos rfl]) _ _ ?_ ?_ ?_
    · simp only [Array.toList_append, List.toList_toArray]
      rw [List.take_append_of_le_length (by rw [← VRs.length hv]; exact Nat.le_refl _), VRs.length hv, List.take_length]
      exact hv
    · simp only [Array.size_append, List.size_toArray]; omega
    · exact hty
  · refine .oslice _ _ _ _ _ _ _ _ with_same (fun _ => ⟨by simp [at_], .inr ?_⟩) (Nat.le_refl _) hc
    simp only [Array.size_append, List.size_toArray, size_zeroCells, hz, hul]
    have : need * sz + (c - need) * sz = c * sz := by rw [← Nat.add_mul]; congr 1; omega
    omega

theorem core_sound (r : Rel P B w0 ρ h w) {t u e ty : TypeId} (ht : appTypes P t u e) {sz bytes n : Nat} (hs : sizeC P e = some sz) (hb : bytesC P e = some bytes) {zs : List V} (hz : zeroC P e = some zs) (hzl : zs.length = sz)
    {x : V} {ux uy : Value} (hx : VR ρ x ux) {items : List V} {us : List Value} (hv : VRs ρ items us) (hi : Items P w sz n uy us) (hil : items.length = n * sz) (h1 : items.all V.one = true) (hb0 : bytes ≠ 0) (hsz : sz ≠ 0)
    {tyK : Option Nat} (htK : ∀ t, tyK = some t → e = t) {v : V} {h' : Heap} (hc : appendCore h sz bytes tyK x n items = some (v, h')) :
    ∃ uv w' ρ', (Builtin.append_ #[t, u] ty #[ux, uy]).run P w = .ok uv w' ∧ VR ρ' v uv ∧ Rel P B w0 ρ' h' w' ∧ New ρ ρ' h.size := by
  obtain ⟨z, hzv, hzr⟩ := zeroC_val hz
  have hzs : z.cells.size = sz := by
    have := (hzr ρ).length
    simp only [Array.length_toList] at this
    omega
  have h0 : n = 0 → us = [] := by
    intro h0
    subst h0
    have := VRs.length hv
    rw [hil] at this
    exact List.length_eq_zero_iff.1 (by omega)
  have grow : ∀ (base : Option Addr) (sLen sCap : Nat) (old : List V) (olds : List Value), ux = .slice base sLen sCap → VRs ρ old olds → (Builtin.firstCells sz sLen ux).run P w.drew = .ok olds.toArray w.drew →
      old.length = sLen * sz → ¬ sLen + n ≤ sCap → roomy (sLen + n) bytes = true → ∀ (hh : Heap), Rel P B w0 ρ hh w → hh.size = h.size → ∀ S fz (ty2 : Option Nat), (∀ t, ty2 = some t → e = t) →
      ∃ uv w' ρ', (Builtin.append_ #[t, u] ty #[ux, uy]).run P w = .ok uv w' ∧ VR ρ' (.oslice h.size 0 (sLen + n) (sLen + n) sz) uv ∧ Rel P B w0 ρ' (hh.push (.cells (old ++ items) (.tip S fz ty2))) w' ∧ New ρ ρ' h.size := by
    intro base sLen sCap old olds hux ho hof hol hnot hroom hh rr hsz S fz ty2 h2
    subst hux
    obtain ⟨c, hc1, hc2, hrun⟩ := app_grow (P := P) (w := w) (ty := ty) ht hs hb z hzv hi hb0 hof hnot hroom
    have hg := grown_sound rr.drew (ho.append hv) (S := S) (fz := fz) (sz := sz) (need := sLen + n) (c := c) (by rw [List.length_append, hol, hil, Nat.add_mul]) hc1 z.cells hzs e h2
    rw [hsz] at hg
    exact ⟨_, _, _, hrun, hg.2, hg.1, New.with_ (by rw [← hsz]; exact rr.none_at) (Nat.le_refl _)⟩
  unfold appendCore at hc
  split at hc
  · -- a nil slice
    rename_i l c0
    cases hx
    split at hc
    · rename_i hn
      cases hc
      subst hn
      exact ⟨.slice none 0 0, w, ρ, app_room ht hs hb (base := none) hi (by omega) rfl, .sliceNil, r, New.refl _ _⟩
    · rename_i hn
      split at hc
      · rename_i hroom
        cases hc
        have := grow none 0 0 [] [] rfl .nil rfl (by simp) (by omega) (by simpa using hroom) h r rfl [] 0 tyK htK
        simpa using this
      · cases hc
  · -- a slice whose capacity is known
    rename_i b o len cap
    cases hx with
    | slice _ _ _ _ em a he ha hl =>
    split at hc
    · rename_i hr
      split at hc
      · rename_i hn
        cases hc
        subst hn
        refine ⟨_, w, ρ, app_room ht hs hb (base := some a) hi (by omega) ?_, .slice b o len cap em a he ha hl, r, New.refl _ _⟩
        simp only [h0 rfl]
        rfl
      · rename_i hn
        split at hc
        · rename_i h2 hw
          cases hc
          obtain ⟨w', q1, q2⟩ := r.wr (P := P) hw he hv
          refine ⟨_, w', ρ, app_room ht hs hb (base := some a) hi hr ?_, .slice b o (len + n) cap em a he ha hr, q2, New.refl _ _⟩
          rw [ha (by omega)]
          show (storeCells ((at_ em o).add (len * sz)) us).run P w = _
          rw [at_add]
          exact q1
        · cases hc
    · rename_i hr
      split at hc
      · rename_i hroom
        split at hc
        · rename_i old hold
          cases hc
          have hx' : VR ρ (.slice (some (b, o)) len cap) (.slice (some a) len cap) := .slice b o len cap em a he ha hl
          obtain ⟨olds, g1, g2⟩ := slCells_sound (P := P) r.drew hold hx' ⟨len, rfl, Nat.le_refl _⟩
          have hol : old.length = len * sz := by
            unfold slCells at hold
            simp only at hold
            split at hold
            · rename_i hz0; cases hold; simp [hz0]
            · exact (r.rds (P := P) he hold).1
          exact grow (some a) len cap old olds rfl g1 g2 hol hr hroom h r rfl [] 0 tyK htK
        · cases hc
      · cases hc
  · -- a slice whose capacity is not known
    rename_i b o len cap zz
    cases hx with
    | oslice _ _ _ _ _ cap' em a he ha hl hcap =>
    split at hc
    · rename_i hr
      split at hc
      · rename_i hn
        cases hc
        subst hn
        refine ⟨_, w, ρ, app_room ht hs hb (base := some a) hi (by omega) ?_, .oslice b o len cap zz cap' em a he ha hl hcap, r, New.refl _ _⟩
        simp only [h0 rfl]
        rfl
      · rename_i hn
        split at hc
        · rename_i h2 hw
          cases hc
          obtain ⟨w', q1, q2⟩ := r.wr (P := P) hw he hv
          refine ⟨_, w', ρ, app_room ht hs hb (base := some a) hi (by omega) ?_, .oslice b o (len + n) cap zz cap' em a he ha hr hcap, q2, New.refl _ _⟩
          rw [(ha (by omega)).1]
          show (storeCells ((at_ em o).add (len * sz)) us).run P w = _
          rw [at_add]
          exact q1
        · cases hc
    · rename_i hr
      split at hc
      · rename_i hk
        obtain ⟨hzz, hlen, hroom⟩ := hk
        subst hzz
        split at hc
        · rename_i cs S fz ty2 hg
          split at hc
          · rename_i hk2
            obtain ⟨hend, hfz⟩ := hk2
            cases hc
            have hcap0 : cap' ≠ 0 := by omega
            obtain ⟨haa, hlim0⟩ := ha hcap0
            have hlim := hlim0.resolve_left hsz
            have ho : o ≤ cs.length := by omega
            by_cases hin : len + n ≤ cap'
            · -- in place
              have hmul : (len + n) * zz ≤ cap' * zz := Nat.mul_le_mul_right _ hin
              rw [Nat.add_mul] at hmul
              have hul : us.length = n * zz := by rw [← VRs.length hv]; exact hil
              have hone : ∀ q ∈ us, q.oneCell' = true := by
                intro q hq
                obtain ⟨i, hi1, hi2⟩ := List.getElem_of_mem hq
                have hi3 : i < items.length := by rw [VRs.length hv]; exact hi1
                obtain ⟨q', g1, g2⟩ := hv.get i items[i] (List.getElem?_eq_getElem hi3)
                rw [List.getElem?_eq_getElem hi1] at g1
                cases g1
                rw [← hi2]
                exact g2.one (List.all_eq_true.1 h1 _ (List.getElem_mem hi3))
              obtain ⟨w', q1, q2, q3, q4⟩ := Rel.beyonds (P := P) us cs.length r he hg (Nat.le_refl _) hfz (by omega) hone (at_ em cs.length) 0 (by simp [Addr.add])
              have rs := q2.shared (tyK := tyK) he hg ho hfz (by omega) hv q3
              refine ⟨_, w', _, app_room ht hs hb (base := some a) hi hin ?_, ?_, rs, New.with_ r.none_at (Nat.le_refl _)⟩
              · rw [haa]
                show (storeCells ((at_ em o).add (len * zz)) us).run P w = _
                rw [at_add, hend]; exact q1
              · refine .oslice _ _ _ _ _ _ _ _ with_same (fun _ => ⟨by rw [haa]; simp [at_], .inr ?_⟩) (Nat.le_refl _) hin
                simp only; omega
            · -- in a new block
              have hx' : VR ρ (.oslice b o len cap zz) (.slice (some a) len cap') := .oslice b o len cap zz cap' em a he ha hl hcap
              have hold : slCells h zz len (.oslice b o len cap zz) = some (cs.drop o) := by
                unfold slCells
                simp only [if_neg hlen, Heap.rds, hg]
                rw [if_pos (by omega), List.take_of_length_le (by rw [List.length_drop]; omega)]
              obtain ⟨olds, g1, g2⟩ := slCells_sound (P := P) r.drew hold hx' ⟨len, rfl, Nat.le_refl _⟩
              exact grow (some a) len cap' (cs.drop o) olds rfl g1 g2 (by rw [List.length_drop]; omega) hin hroom (h.put b (.cells cs .sup)) (r.demote (r.dom _ _ he) hg) rfl (b :: S) (fz - o) (joinTy tyK ty2 o) (fun t ht => htK t (joinTy_some ht).1)
          · cases hc
        · cases hc
      · cases hc
  · cases hc
end
end Abs
end Go.Proofs.YtmgbcaboljilnaaGreatDoor
