/- The abstract machine's steps over unsafe: a builder's own address, its bytes as a string. -/
import Derived.Test.YtmgbcaboljilnaaGreatDoorA11
import Derived.Lib.UnsafeStr
import Derived.Lib.Builder
namespace Go.Proofs.YtmgbcaboljilnaaGreatDoor
namespace Abs
set_option linter.unusedVariables false
set_option linter.unusedSimpArgs false
open Go.RowKit

section
variable {P : Program} {B : Nat} {w0 w : World} {ρ : Rho} {h : Heap}

theorem heap_freeze_ne (w : World) (a : Addr) (n k : Nat) (hk : k ≠ a.block) : (w.freeze a n).heap[k]? = w.heap[k]? := by
  unfold World.freeze
  split
  · rfl
  · simp only [Array.getElem?_modify]
    rw [if_neg (Ne.symm hk)]

theorem heap_freeze_at (w : World) (a : Addr) (n : Nat) {c : Array Value} {el : TypeId} {fr : Nat × Nat} (hn : n ≠ 0) (hc : w.heap[a.block]? = some (.cells c el fr)) :
    (w.freeze a n).heap[a.block]? = some (.cells c el (if fr.1 == fr.2 then (a.off, a.off + n) else (min fr.1 a.off, max fr.2 (a.off + n)))) := by
  unfold World.freeze
  rw [if_neg hn]
  simp only [Array.getElem?_modify]
  rw [if_pos trivial, hc]
  rfl

theorem size_freeze (w : World) (a : Addr) (n : Nat) : (w.freeze a n).heap.size = w.heap.size := by
  unfold World.freeze
  split
  · rfl
  · simp

theorem cell_freeze (w : World) (a : Addr) (n : Nat) (q : Addr) : (w.freeze a n).cell? q = w.cell? q := by
  by_cases hn : n = 0
  · unfold World.freeze; rw [if_pos hn]
  unfold World.cell?
  by_cases hk : q.block = a.block
  · rw [hk]
    cases hh : w.heap[a.block]? with
    | none =>
      have : (w.freeze a n).heap[a.block]? = none := by
        rw [Array.getElem?_eq_none_iff, size_freeze]
        exact Array.getElem?_eq_none_iff.1 hh
      rw [this]
    | some o =>
      cases o with
      | cells c el fr => rw [heap_freeze_at w a n hn hh]
      | _ =>
        unfold World.freeze
        rw [if_neg hn]
        simp only [Array.getElem?_modify]
        rw [if_pos trivial, hh]
        rfl
  · rw [heap_freeze_ne w a n _ hk]

/-- The head of a row is frozen. -/
theorem Rel.frozen (r : Rel P B w0 ρ h w) {b : Nat} {e : Emb} {cs : List V} {S : List Nat} {fz : Nat} {t : Nat} (hb : ρ b = some e) (hg : h.get b = some (.cells cs (.tip S fz (some t)))) (n : Nat) (hn : n ≠ 0) :
    Rel P B w0 ρ (h.put b (.cells cs (.tip S (max fz n) (some t)))) (w.freeze ⟨e.blk, 0, none⟩ n) := by
  obtain ⟨o0, hg0, hr0⟩ := r.obj b e hb
  rw [hg] at hg0
  cases hg0
  obtain ⟨hB, hcf, hown⟩ := hr0
  obtain ⟨⟨c, el, fr, hc, hs, hf, hty⟩, hroom⟩ := hown
  obtain ⟨rfl, hoff⟩ := hty t rfl
  have facts : ∀ {e' : Emb} {ds : List V}, CellFacts ρ w e' ds → CellFacts ρ (w.freeze ⟨e.blk, 0, none⟩ n) e' ds := fun hh i v hi => by
    obtain ⟨u, q1, q2⟩ := hh i v hi
    exact ⟨u, by rw [cell_freeze]; exact q1, q2⟩
  refine ⟨r.dom, fun x e' hx => ?_, ?_, fun x e' o' h1 h2 h3 => ?_, fun x hx => ?_, Lib.below_freeze r.below (by exact hB) n, by rw [size_freeze]; exact r.base, r.glob⟩
  · rw [Heap.get_put]
    by_cases hxb : x = b
    · subst hxb
      rw [hb] at hx
      cases hx
      refine ⟨.cells cs (.tip S (max fz n) (some el)), by rw [if_pos rfl], hB, facts hcf, ⟨⟨c, el, _, heap_freeze_at w ⟨e.blk, 0, none⟩ n hn hc, hs, ?_, fun t' ht' => by cases ht'; exact ⟨rfl, hoff⟩⟩, hroom⟩⟩
      have hm : fz ≤ max fz n ∧ n ≤ max fz n := ⟨Nat.le_max_left _ _, Nat.le_max_right _ _⟩
      rw [hoff] at hf ⊢
      refine .inr (.inl ?_)
      rcases hf with q | q | ⟨q, _⟩
      · simp only [q, beq_self_eq_true, if_true]; omega
      · by_cases hfr : fr.1 = fr.2
        · simp only [hfr, beq_self_eq_true, if_true]; omega
        · have : (fr.1 == fr.2) = false := by simpa using hfr
          simp only [this, Bool.false_eq_true, if_false]; omega
      · cases q
    · rw [if_neg hxb]
      obtain ⟨o', h1, h2⟩ := r.obj x e' hx
      refine ⟨o', h1, ?_⟩
      by_cases hbk : e'.blk = e.blk
      · cases o' with
        | dead => trivial
        | cells ds st =>
          have hs := r.sep b x e e' _ _ S hb hx (Ne.symm hxb) hg rfl h1 rfl hbk
          cases st with
          | ro => exact absurd (h2.1) (by rw [hbk]; omega)
          | tip S' fz' ty' => exact absurd hs.2.1 (by simp [Obj.sups])
          | sup => exact facts h2
        | map _ _ _ | loop _ _ _ _ _ _ _ | dfr =>
          have hs := r.sep b x e e' _ _ S hb hx (Ne.symm hxb) hg rfl h1 rfl hbk
          exact absurd hs.2.1 (by simp [Obj.sups])
      · exact h2.heap (heap_freeze_ne _ _ _ _ hbk)
  · intro x x' e1 e2 o1 o2 S' h1 h2 h3 h4 h5 h6 h7 h8
    rw [Heap.get_put] at h4 h6
    by_cases hx : x = b
    · subst hx
      rw [if_pos rfl] at h4
      cases h4
      cases h5
      rw [if_neg (Ne.symm h3)] at h6
      have := r.sep x x' e1 e2 (.cells cs (.tip S fz (some el))) o2 S h1 h2 h3 hg rfl h6 h7 h8
      exact this
    · rw [if_neg hx] at h4
      by_cases hx' : x' = b
      · subst hx'
        rw [if_pos rfl] at h6
        cases h6
        exact absurd (r.sep x x' e1 e2 o1 _ S' h1 h2 h3 h4 h5 hg rfl h8).2.1 (by simp [Obj.sups])
      · rw [if_neg hx'] at h6
        exact r.sep x x' e1 e2 o1 o2 S' h1 h2 h3 h4 h5 h6 h7 h8
  · rw [Heap.get_put] at h2
    rw [size_freeze]
    by_cases hxb : x = b
    · subst hxb; exact r.live x e' _ h1 hg rfl
    · rw [if_neg hxb] at h2; exact r.live x e' o' h1 h2 h3
  · rw [Heap.get_put, if_neg (by have : h.size ≤ x := hx; have := r.dom b e hb; omega)]
    exact r.fresh x hx

theorem liesAt_self {t : TypeId} {count : Nat} (hc : P.cellsOf t ≠ 0) (hn : 1 ≤ count) : liesAt P P.depth t count 0 t 1 = true := by
  have hd : P.depth = (2 * (P.types.size + Made.depth) + 1) + 1 := rfl
  rw [hd]
  simp only [liesAt, Bool.or_eq_true]
  left
  rw [hd]
  simp [rowAt, hc, hn, sameLayout]

theorem sliceData_sound {x v : V} (hv : sliceDataA x = some v) {ux : Value} (hx : VR ρ x ux) (ts : Array TypeId) (ty : TypeId) :
    ∃ u, (Builtin.unsafeSliceData_ ts ty #[ux]).run P w = .ok u w ∧ VR ρ v u := by
  cases hx with
  | sliceNil => cases hv; exact ⟨_, rfl, .ptrNil⟩
  | slice b o len cap e a he ha hl =>
    simp only [sliceDataA] at hv
    split at hv
    · cases hv
    · rename_i hc
      cases hv
      exact ⟨_, Lib.run_unsafeSliceData_row w ts ty a len cap hc, .ptr b o e a he (ha hc)⟩
  | oslice b o len cap sz cap' e a he ha hl hcap =>
    simp only [sliceDataA] at hv
    split at hv
    · cases hv
    · rename_i hc
      cases hv
      have hc' : cap' ≠ 0 := by omega
      exact ⟨_, Lib.run_unsafeSliceData_row w ts ty a len cap' hc', .ptr b o e a he (ha hc').1⟩
  | _ => cases hv

theorem run_loadInts : ∀ (ns : List Int) (a : Addr) (acc : ByteArray), (∀ j n, ns[j]? = some n → w.cell? (a.add j) = some (.int .u8 n)) →
    (loadBytes a acc ns.length).run P w = .ok (ns.foldl (fun r n => r.push (UInt8.ofNat n.toNat)) acc) w
  | [], a, acc, _ => rfl
  | n :: ns, a, acc, h => by
    have h0 : w.cell? a = some (.int .u8 n) := by
      have := h 0 n rfl
      simpa [Addr.add] using this
    have ih := run_loadInts ns (a.add 1) (acc.push n.toNat.toUInt8) (fun j y hy => by
      have := h (j + 1) y (by simpa using hy)
      have e : (a.add 1).add j = a.add (j + 1) := by
        unfold Addr.add
        by_cases hj : j = 0
        · subst hj; simp
        · simp [hj]; omega
      rw [e]; exact this)
    simp only [List.length_cons, loadBytes, Sem.run_bind, run_load, h0, Result.andThen]
    rw [ih]
    rfl

/-- unsafe.String over the head of a row of bytes. -/
theorem unsStr_sound (r : Rel P B w0 ρ h w) {x n v : V} {h' : Heap} {bt : Nat} (hv : unsStrA h bt x n = some (v, h')) {ux un : Value} (hx : VR ρ x ux) (hn : VR ρ n un) (pt it ty : TypeId) (hp : P.underlying pt = some (.pointer bt)) (hc : P.cellsOf bt = 1) :
    ∃ u w', (Builtin.unsafeString_ #[pt, it] ty #[ux, un]).run P w = .ok u w' ∧ VR ρ v u ∧ Rel P B w0 ρ h' w' := by
  have hmax : IntKind.i64.max = 9223372036854775807 := rfl
  unfold unsStrA at hv
  split at hv
  · rename_i n
    cases hn
    split at hv
    · cases hx
      split at hv
      · rename_i h0
        cases hv
        subst h0
        exact ⟨_, w, Lib.run_unsafeString_none w pt it ty none, .str _ _ rfl, r⟩
      · cases hv
    · rename_i b o
      cases hx with
      | ptr _ _ e a he ha =>
      split at hv
      · rename_i h0
        cases hv
        subst h0
        exact ⟨_, w, Lib.run_unsafeString_none w pt it ty (some a), .str _ _ rfl, r⟩
      · rename_i h0
        split at hv
        · rename_i cs S fz ty2 hg
          split at hv
          · rename_i hcond
            obtain ⟨hpos, hle, rfl, rfl, hmx⟩ := hcond
            split at hv
            · rename_i l hl
              cases hv
              obtain ⟨o0, hg0, hr0⟩ := r.obj b e he
              rw [hg] at hg0
              cases hg0
              obtain ⟨hB, hcf, hown⟩ := hr0
              obtain ⟨⟨c, el, fr, hcell, hs, hf, hty⟩, hroom⟩ := hown
              obtain ⟨rfl, hoff⟩ := hty _ rfl
              have hsh : w.shape? e.blk = some (el, c.size) := by unfold World.shape?; rw [hcell]
              have hcs : ∃ us, VRs ρ (cs.take n.toNat) us ∧ ∀ j u, us[j]? = some u → w.cell? (at_ e j) = some u := by
                have := r.rds (P := P) (n := n.toNat) (o := 0) (cs := cs.take n.toNat) he (by simp only [Heap.rds, hg]; rw [if_pos (by omega)]; simp)
                have key : ∀ (ds : List V) (o : Nat), (∀ i v, ds[i]? = some v → ∃ u, w.cell? (at_ e (o + i)) = some u ∧ VR ρ v u) → ∃ us, VRs ρ ds us ∧ ∀ j u, us[j]? = some u → w.cell? (at_ e (o + j)) = some u := by
                  intro ds
                  induction ds with
                  | nil => intro o _; exact ⟨[], .nil, fun j u hj => by simp at hj⟩
                  | cons d ds ih =>
                    intro o hh
                    obtain ⟨u, q1, q2⟩ := hh 0 d rfl
                    obtain ⟨us, g1, g2⟩ := ih (o + 1) (fun i v hi => by
                      obtain ⟨u, q1, q2⟩ := hh (i + 1) v (by simpa using hi)
                      exact ⟨u, by rw [show o + 1 + i = o + (i + 1) by omega]; exact q1, q2⟩)
                    refine ⟨u :: us, .cons _ _ _ _ q2 g1, fun j u' hj => ?_⟩
                    cases j with
                    | zero => simp at hj; subst hj; exact q1
                    | succ j => rw [show o + (j + 1) = o + 1 + j by omega]; exact g2 j u' (by simpa using hj)
                obtain ⟨us, g1, g2⟩ := key (cs.take n.toNat) 0 (fun i v hi => by
                  have hi' : cs[i]? = some v := by
                    rw [List.getElem?_take] at hi
                    split at hi
                    · exact hi
                    · cases hi
                  obtain ⟨u, q1, q2⟩ := hcf i v hi'
                  exact ⟨u, by rw [Nat.zero_add]; exact q1, q2⟩)
                exact ⟨us, g1, fun j u hj => by have := g2 j u hj; rwa [Nat.zero_add] at this⟩
              obtain ⟨us, g1, g2⟩ := hcs
              obtain ⟨ns, q1, q2⟩ := u8s_sound hl g1
              subst q1
              have hlen : ns.length = n.toNat := by
                have := g1.length
                simp only [List.length_take, List.length_map] at this
                omega
              have ea : a = ⟨e.blk, 0, none⟩ := by rw [ha]; simp [at_, hoff]
              have hload := run_loadInts (P := P) (w := w) ns ⟨e.blk, 0, none⟩ .empty (fun j m hj => by
                have := g2 j (.int .u8 m) (by rw [List.getElem?_map, hj]; rfl)
                have e2 : (⟨e.blk, 0, none⟩ : Addr).add j = at_ e j := by
                  unfold Addr.add at_
                  by_cases hj0 : j = 0
                  · subst hj0; simp [hoff]
                  · simp [hj0, hoff]
                rw [e2]; exact this)
              rw [hlen] at hload
              have hlies := Lib.liesAt_bytes (P := P) hc (c.size / P.cellsOf el) n.toNat (by rw [hc, Nat.div_one]; omega)
              have hdef : Builtin.unsafeString_ #[pt, it] ty #[.pointer (some ⟨e.blk, 0, none⟩), .int .i64 n] =
                  (do
                    let n ← asInt (.int .i64 n)
                    if n < 0 then runtimePanic (.error "unsafe.String: len out of range")
                    if n > IntKind.i64.max then unsupported (.unsafePointer "String: a length above the largest int")
                    if n = 0 then pure (.string .empty)
                    else if ← variablesAt ⟨e.blk, 0, none⟩ (← elemOf pt) n.toNat then do
                      let s ← loadBytes ⟨e.blk, 0, none⟩ .empty n.toNat
                      freeze ⟨e.blk, 0, none⟩ n.toNat
                      pure (.string s)
                    else unsupported (.unsafePointer "String: not so many bytes at ptr")) := rfl
              refine ⟨.string (ns.foldl (fun r n => r.push (UInt8.ofNat n.toNat)) .empty), w.freeze ⟨e.blk, 0, none⟩ n.toNat, ?_, ?_, r.frozen he hg n.toNat (by omega)⟩
              · rw [ea, hdef]
                have hneg : ¬ n < 0 := by omega
                have h63 : ¬ (9223372036854775807 : Int) < n := by omega
                have hz : ¬ n = 0 := h0
                simp [asInt, asIntOf, hmax, h63, hneg, hz, variablesAt, hsh, elemOf, run_underlying hp, hlies, hload]
              · refine .str _ _ ?_
                rw [push_strOf, q2]
                rfl
            · cases hv
          · cases hv
        · cases hv
    · cases hv
  · cases hv

/-- *T to unsafe.Pointer. -/
theorem unsP_sound (r : Rel P B w0 ρ h w) {x : V} (hv : unsPA h x = true) {ux : Value} (hx : VR ρ x ux) {src dst t : TypeId} {n : Nat} (hs : P.underlying src = some (.pointer t)) (hd : P.underlying dst = some .unsafePointer) (ht : sizeC P t = some (n + 1)) :
    (convert src dst ux).run P w = .ok ux w := by
  unfold unsPA at hv
  split at hv
  · rename_i b o
    cases hx with
    | ptr _ _ e a he ha =>
    split at hv
    · rename_i cs S fz ty hg
      have ho := of_decide_eq_true hv
      obtain ⟨o0, hg0, hr0⟩ := r.obj b e he
      rw [hg] at hg0
      cases hg0
      obtain ⟨hB, hcf, ⟨⟨c, el, fr, hcell, hs', hf, hty⟩, hroom⟩⟩ := hr0
      obtain ⟨j, hj, hjs⟩ := Option.map_eq_some_iff.1 ht
      subst ha
      exact Lib.run_to_unsafe w (at_ e o) hs hd hj (by omega) (e := el) (cells := c.size) (by show w.shape? e.blk = _; unfold World.shape?; rw [hcell]) (by show e.off + o < _; omega)
    · cases hv
  · cases hv

/-- unsafe.Pointer to *U, where a variable of type U was laid. -/
theorem ofUns_sound (r : Rel P B w0 ρ h w) {u n : Nat} {x : V} (hv : ofUnsA h u (n + 1) x = true) {ux : Value} (hx : VR ρ x ux) {src dst : TypeId} (hs : P.underlying src = some .unsafePointer) (hd : P.underlying dst = some (.pointer u)) (ht : sizeC P u = some (n + 1))
    (hcl : P.cellsOf u = n + 1) : (convert src dst ux).run P w = .ok ux w := by
  unfold ofUnsA at hv
  split at hv
  · rename_i b o
    cases hx with
    | ptr _ _ e a he ha =>
    split at hv
    · rename_i cs S fz ty hg
      obtain ⟨rfl, rfl, hle⟩ := of_decide_eq_true hv
      obtain ⟨o0, hg0, hr0⟩ := r.obj b e he
      rw [hg] at hg0
      cases hg0
      obtain ⟨hB, hcf, ⟨⟨c, el, fr, hcell, hs', hf, hty⟩, hroom⟩⟩ := hr0
      obtain ⟨rfl, hoff⟩ := hty _ rfl
      obtain ⟨j, hj, hjs⟩ := Option.map_eq_some_iff.1 ht
      subst ha
      refine Lib.run_from_unsafe w (at_ e 0) hs hd hj (e := el) (cells := c.size) (by show w.shape? e.blk = _; unfold World.shape?; rw [hcell]) ?_
      show liesAt P P.depth el (c.size / P.cellsOf el) (e.off + 0) el 1 = true
      rw [hoff]
      exact liesAt_self (by omega) (by rw [hcl]; exact (Nat.one_le_div_iff (by omega)).2 (by omega))
    · cases hv
  · cases hv
end
end Abs
end Go.Proofs.YtmgbcaboljilnaaGreatDoor
