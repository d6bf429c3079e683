/- The abstract machine: rules for more operations: arrays in place, strings' bytes, unsafe's steps. The abstract machine: a contract whose answer names no new memory serves as a summary. The abstract machine: summaries that hand back a block of their own; maps' keys, sorted. The abstract machine once more, in a form that Lean's kernel runs quickly; it is the machine. (Written by tools/mkfast.py.) -/
import Derived.Test.YtbjpoelgcehidaaGreatDoorA25
import Derived.Lib.SlKeysI
import Derived.Sort.OwnSorted
namespace Go.Proofs.YtbjpoelgcehidaaGreatDoor
namespace Abs
noncomputable section
set_option linter.unusedVariables false
set_option linter.unusedSimpArgs false
open Go.RowKit

namespace StepK
variable {e : List (Nat × V)} {h h' : Heap} {x y z : Opd} {a b v : V}
theorem idxArr {n sz : Nat} (hx : evE e x = some a) (hy : evE e y = some b) (hi : idxArrA n sz a b = some v) : StepK e h (.idxArr n sz x y) v h := fun tm hs => by simp only [opK, hs.ev hx, hs.ev hy, hi]
theorem atArr {n sz : Nat} {g : Option Nat} (hx : evE e x = some a) (hy : evE e y = some b) (hi : atArrA n sz g a b = some v) : StepK e h (.atArr n sz g x y) v h := fun tm hs => by simp only [opK, hs.ev hx, hs.ev hy, hi]
theorem atStr (hx : evE e x = some a) (hy : evE e y = some b) (hi : atStrA a b = some v) : StepK e h (.atStr x y) v h := fun tm hs => by simp only [opK, hs.ev hx, hs.ev hy, hi]
theorem inv {k : IntKind} {n : Int} (hx : evE e x = some (.int k n)) : StepK e h (.inv x) (.int k (k.wrap (BitVec.ofInt k.bits (if k.signed then -1 else k.max) ^^^ BitVec.ofInt k.bits n).toNat)) h := fun tm hs => by simp only [opK, hs.ev hx]
theorem neg {k : IntKind} {n : Int} (hx : evE e x = some (.int k n)) : StepK e h (.neg x) (.int k (k.wrap (0 - n))) h := fun tm hs => by simp only [opK, hs.ev hx]
theorem sliceStr {lo hi : Option Opd} {l' h2 : Option V} (hx : evE e x = some a) (h1 : evoE e lo = some l') (h3 : evoE e hi = some h2) (h5 : sliceStrA a l' h2 = some v) : StepK e h (.sliceStr x lo hi) v h := fun tm hs => by simp only [opK, hs.ev hx, hs.evo h1, hs.evo h3, h5]
theorem appendS {ty : Option Nat} (hx : evE e x = some a) (hy : evE e y = some b) (ha : appendSA h ty a b = some (v, h')) : StepK e h (.appendS ty x y) v h' := fun tm hs => by simp only [opK, hs.ev hx, hs.ev hy, ha]
theorem sliceData (hx : evE e x = some a) (ha : sliceDataA a = some v) : StepK e h (.sliceData x) v h := fun tm hs => by simp only [opK, hs.ev hx, ha]
theorem unsStr {t : Nat} (hx : evE e x = some a) (hy : evE e y = some b) (ha : unsStrA h t a b = some (v, h')) : StepK e h (.unsStr t x y) v h' := fun tm hs => by simp only [opK, hs.ev hx, hs.ev hy, ha]
theorem unsP (hx : evE e x = some a) (ha : unsPA h a = true) : StepK e h (.unsP x) a h := fun tm hs => by simp only [opK, hs.ev hx, ha, if_true]
theorem ofUns {u n : Nat} (hx : evE e x = some a) (ha : ofUnsA h u n a = true) : StepK e h (.ofUns u n x) a h := fun tm hs => by simp only [opK, hs.ev hx, ha, if_true]
theorem makeMap : StepK e h .makeMap (.map (some h.size)) (h.push (.map [] [] 0)) := fun tm hs => by simp only [opK]
theorem toBytes {s : List Nat} (hx : evE e x = some (.str s)) : StepK e h (.toBytes x) (.oslice h.size 0 s.length s.length 0) (h.push (.cells (bytesV s) (.tip [] 0 none))) := fun tm hs => by simp only [opK, hs.ev hx]
theorem same {s : List Nat} (hx : evE e x = some (.str s)) : StepK e h (.same x) (.str s) h := fun tm hs => by simp only [opK, hs.ev hx]
theorem makeSl {sz bytes : Nat} {zs : List V} (hx : evE e x = some a) (hy : evE e y = some b) (ha : makeSlA h sz bytes zs a b = some (v, h')) : StepK e h (.makeSl sz bytes zs x y) v h' := fun tm hs => by simp only [opK, hs.ev hx, hs.ev hy, ha]
end StepK

/-- An array in a block of a call's own: one cell is written. -/
theorem wr_cell {h : Heap} {b i : Nat} {cs : List V} {v : V} {ty : Option Nat} (hg : h.get b = some (.cells cs (.tip [] 0 ty))) (hi : i < cs.length) (hv : V.one v = true) : h.wr b i [v] = some (h.put b (.cells (cs.set i v) (.tip [] 0 ty))) := by
  simp only [Heap.wr, hg]
  rw [if_pos ⟨Nat.zero_le _, by simp only [List.length_singleton]; omega, by simp [hv]⟩]
  rfl
theorem splice_all {α : Type} : ∀ (us : List α) (p cs : List α), us.length = cs.length → splice (p ++ cs) p.length us = p ++ us
  | [], p, cs, h => by
    have : cs = [] := List.length_eq_zero_iff.1 (by simpa using h.symm)
    subst this; rfl
  | u :: us, p, [], h => by simp at h
  | u :: us, p, c :: cs, h => by
    unfold splice
    have e : (p ++ c :: cs).set p.length u = (p ++ [u]) ++ cs := by
      rw [List.set_append_right _ _ (Nat.le_refl _), Nat.sub_self, List.set_cons_zero, List.append_assoc]; rfl
    rw [e]
    have := splice_all us (p ++ [u]) cs (by simpa using h)
    rw [List.length_append, List.length_singleton] at this
    rw [this, List.append_assoc]; rfl
/-- .. all of them. -/
theorem wr_all {h : Heap} {b : Nat} {cs us : List V} {ty : Option Nat} (hg : h.get b = some (.cells cs (.tip [] 0 ty))) (hl : us.length = cs.length) (hv : us.all V.one = true) : h.wr b 0 us = some (h.put b (.cells us (.tip [] 0 ty))) := by
  simp only [Heap.wr, hg]
  rw [if_pos ⟨Nat.zero_le _, by omega, hv⟩]
  have := splice_all us [] cs hl
  simp only [List.nil_append, List.length_nil] at this
  rw [this]
  rfl
theorem rd_cell {h : Heap} {b i : Nat} {cs : List V} {st : St} (hg : h.get b = some (.cells cs st)) : h.rd b i = cs[i]? := by simp only [Heap.rd, hg]
theorem idxArr_at {n sz b o : Nat} {k : IntKind} {i : Int} (h0 : 0 ≤ i) (h1 : i < n) : idxArrA n sz (.ptr (some (b, o))) (.int k i) = some (.ptr (some (b, o + i.toNat * sz))) := by
  simp only [idxArrA, intV]
  rw [if_pos ⟨h0, h1⟩]
theorem bin_shr {k k' : IntKind} {a n : Int} (hn : 0 ≤ n) : binA .shr (.int k a) (.int k' n) = some (.int k (a.fdiv (2 ^ (min n.toNat k.bits)))) := by
  simp only [binA, shiftA]
  rw [if_neg (by omega)]
theorem bin_shl {k k' : IntKind} {a n : Int} (hn : 0 ≤ n) : binA .shl (.int k a) (.int k' n) = some (.int k (k.wrap (a * 2 ^ (min n.toNat k.bits)))) := by
  simp only [binA, shiftA]
  rw [if_neg (by omega)]
end
end Abs
end Go.Proofs.YtbjpoelgcehidaaGreatDoor
namespace Go.Proofs.YtbjpoelgcehidaaGreatDoor
namespace Abs
noncomputable section
set_option linter.unusedVariables false
set_option linter.unusedSimpArgs false
open Go.RowKit

section
variable {P : Program} {B : Nat} {w0 : World}

theorem Rel.cutG {ρ ρ' : Rho} {h h1 : Heap} {w w' : World} (r : Rel P B w0 ρ h w) (r1 : Rel P B w0 ρ' h1 w') (hn : New ρ ρ' h.size) (hg : ∀ b o, h.get b = some o → h1.get b = some o) : Rel P B w0 ρ h w' := by
  have nar : ∀ b e, b < h.size → ρ' b = some e → ρ b = some e := fun b e hb he => (hn.2 b e he).resolve_right (by omega)
  refine ⟨r.dom, fun b e hb => ?_, ?_, fun b e o h1' h2 h3 => ?_, r.fresh, r1.below, r1.base, r.glob⟩
  · obtain ⟨o, q1, q2⟩ := r.obj b e hb
    obtain ⟨o', g1, g2⟩ := r1.obj b e (hn.1 b e hb)
    rw [hg b o q1] at g1
    cases g1
    exact ⟨o, q1, ORel.narrow nar r.dom q2 g2⟩
  · intro b b' e e' o o' S q1 q2 q3 q4 q5 q6 q7 q8
    exact r1.sep b b' e e' o o' S (hn.1 _ _ q1) (hn.1 _ _ q2) q3 (hg b o q4) q5 (hg b' o' q6) q7 q8
  · exact r1.live b e o (hn.1 _ _ h1') (hg b o h2) h3

/-- What a call came to, without the memory that it left behind. -/
theorem snd_cut {ρ : Rho} {h h' : Heap} {w : World} {v : V} {f : Nat} {us : Array Value} (r : Rel P B w0 ρ h w) (hx : CallSnd P B w0 ρ f us w h v h') (hv : v.scopd h.size = true) (hg : ∀ b o, h.get b = some o → h'.get b = some o) : CallSnd P B w0 ρ f us w h v h := by
  have conv : ∀ u w', Ret P B w0 ρ h.size v h' u w' → Ret P B w0 ρ h.size v h u w' := by
    rintro u w' ⟨ρ', q1, q2, q3⟩
    exact ⟨ρ, q1.narrow (fun b e hb he => (q3.2 b e he).resolve_right (by omega)) hv, r.cutG q2 q3 hg, New.refl _ _⟩
  rcases hx with ⟨q1, q2⟩ | ⟨u, w', q1, q2⟩
  · refine .inl ⟨q1, fun m => ?_⟩
    obtain ⟨g1, g2⟩ := q2 m
    refine ⟨g1, fun cs hcs => ?_⟩
    obtain ⟨e, w', fr, q3, q4, q5, q6⟩ := g2 cs hcs
    refine ⟨e, w', fr, ?_, q4, q5, q6⟩
    cases e with
    | returned u => exact conv u w' q3
    | panicked c => exact q3.elim
    | outgrown => exact q3.elim
  · exact .inr ⟨u, w', q1, conv u w' q2⟩

theorem pure_sum {C : Cfg} (hT : TableOk P C) (hS : SumOk P B w0 C) {f : Nat} {args : List V} {val : V} {h : Heap} (hx : Ans C f args h fun v h' => v = val ∧ Grow h h') (hv : val.scopd h.size = true)
    {ρ : Rho} {w : World} {us : Array Value} (r : Rel P B w0 ρ h w) (hr : VRs ρ args us.toList) : CallSnd P B w0 ρ f us w h val h := by
  obtain ⟨v, h', ⟨n, hn⟩, rfl, g⟩ := hx
  exact snd_cut r ((run_sound hT hS n).1.fn f args h v h' hn ρ w us r hr) hv g.ext
end
/-! ### Short names, for texts that a program of mine expands -/
section
variable {C : Cfg} {e : List (Nat × V)} {h : Heap} {l : List AOp} {ld : List DOp} {d q idx : Nat} {anc : List Nat} {P : List (Nat × (Heap → Prop))} {x y z : Opd} {a b v : V} {Q : List (Nat × V) → Heap → Prop}
theorem omv  (hx : evE e x = some v) (hq : WO C l ((d, v) :: e) h Q) : WO C (⟨some d, none, .mv x⟩ :: l) e h Q := WO.ops (StepK.mv hx) hq
theorem dmv  (hx : evE e x = some v) (hq : WD C (q + 1) ld P ((d, v) :: e) h Q) : WD C q (⟨⟨some d, none, .mv x⟩, idx, anc⟩ :: ld) P e h Q := WD.pure (StepK.mv hx) rfl hq
theorem ols {n : Nat} (hx : evE e x = some a) (hl : slLen a = some n) (hq : WO C l ((d, (.int .i64 n)) :: e) h Q) : WO C (⟨some d, none, .lenSl x⟩ :: l) e h Q := WO.ops (StepK.lenSl hx hl) hq
theorem dls {n : Nat} (hx : evE e x = some a) (hl : slLen a = some n) (hq : WD C (q + 1) ld P ((d, (.int .i64 n)) :: e) h Q) : WD C q (⟨⟨some d, none, .lenSl x⟩, idx, anc⟩ :: ld) P e h Q := WD.pure (StepK.lenSl hx hl) rfl hq
theorem ofa {bk o off : Nat} (hx : evE e x = some (.ptr (some (bk, o)))) (hq : WO C l ((d, (.ptr (some (bk, o + off)))) :: e) h Q) : WO C (⟨some d, none, .fieldAddr off x⟩ :: l) e h Q := WO.ops (StepK.fieldAddr hx) hq
theorem dfa {bk o off : Nat} (hx : evE e x = some (.ptr (some (bk, o)))) (hq : WD C (q + 1) ld P ((d, (.ptr (some (bk, o + off)))) :: e) h Q) : WD C q (⟨⟨some d, none, .fieldAddr off x⟩, idx, anc⟩ :: ld) P e h Q := WD.pure (StepK.fieldAddr hx) rfl hq
theorem old {bk o : Nat} (hx : evE e x = some (.ptr (some (bk, o)))) (hl : h.rd bk o = some v) (hq : WO C l ((d, v) :: e) h Q) : WO C (⟨some d, none, .load none x⟩ :: l) e h Q := WO.ops (StepK.load1 hx hl) hq
theorem oad {m n : Int} (hx : evE e x = some (.int .i64 m)) (hy : evE e y = some (.int .i64 n)) (h1 : -9223372036854775808 ≤ m + n ∧ m + n < 9223372036854775808) (hq : WO C l ((d, (.int .i64 (m + n))) :: e) h Q) : WO C (⟨some d, none, .bin .add x y⟩ :: l) e h Q := WO.ops (StepK.add hx hy h1) hq
theorem dad {m n : Int} (hx : evE e x = some (.int .i64 m)) (hy : evE e y = some (.int .i64 n)) (h1 : -9223372036854775808 ≤ m + n ∧ m + n < 9223372036854775808) (hq : WD C (q + 1) ld P ((d, (.int .i64 (m + n))) :: e) h Q) : WD C q (⟨⟨some d, none, .bin .add x y⟩, idx, anc⟩ :: ld) P e h Q := WD.pure (StepK.add hx hy h1) rfl hq
theorem osb {m n : Int} (hx : evE e x = some (.int .i64 m)) (hy : evE e y = some (.int .i64 n)) (h1 : -9223372036854775808 ≤ m - n ∧ m - n < 9223372036854775808) (hq : WO C l ((d, (.int .i64 (m - n))) :: e) h Q) : WO C (⟨some d, none, .bin .sub x y⟩ :: l) e h Q := WO.ops (StepK.sub hx hy h1) hq
theorem dsb {m n : Int} (hx : evE e x = some (.int .i64 m)) (hy : evE e y = some (.int .i64 n)) (h1 : -9223372036854775808 ≤ m - n ∧ m - n < 9223372036854775808) (hq : WD C (q + 1) ld P ((d, (.int .i64 (m - n))) :: e) h Q) : WD C q (⟨⟨some d, none, .bin .sub x y⟩, idx, anc⟩ :: ld) P e h Q := WD.pure (StepK.sub hx hy h1) rfl hq
theorem obn {op : BinOp} (hx : evE e x = some a) (hy : evE e y = some b) (hb : binA op a b = some v) (hq : WO C l ((d, v) :: e) h Q) : WO C (⟨some d, none, .bin op x y⟩ :: l) e h Q := WO.ops (StepK.bin hx hy hb) hq
theorem dbn {op : BinOp} (hx : evE e x = some a) (hy : evE e y = some b) (hb : binA op a b = some v) (hq : WD C (q + 1) ld P ((d, v) :: e) h Q) : WD C q (⟨⟨some d, none, .bin op x y⟩, idx, anc⟩ :: ld) P e h Q := WD.pure (StepK.bin hx hy hb) rfl hq
theorem opt  (hx : evE e x = some (.bool true)) (hy : evE e y = some v) (hq : WO C l ((d, v) :: e) h Q) : WO C (⟨some d, none, .pick x y z⟩ :: l) e h Q := WO.ops (StepK.pickT hx hy) hq
theorem dpt  (hx : evE e x = some (.bool true)) (hy : evE e y = some v) (hq : WD C (q + 1) ld P ((d, v) :: e) h Q) : WD C q (⟨⟨some d, none, .pick x y z⟩, idx, anc⟩ :: ld) P e h Q := WD.pure (StepK.pickT hx hy) rfl hq
theorem opf  (hx : evE e x = some (.bool false)) (hy : evE e z = some v) (hq : WO C l ((d, v) :: e) h Q) : WO C (⟨some d, none, .pick x y z⟩ :: l) e h Q := WO.ops (StepK.pickF hx hy) hq
theorem dpf  (hx : evE e x = some (.bool false)) (hy : evE e z = some v) (hq : WD C (q + 1) ld P ((d, v) :: e) h Q) : WD C q (⟨⟨some d, none, .pick x y z⟩, idx, anc⟩ :: ld) P e h Q := WD.pure (StepK.pickF hx hy) rfl hq
theorem ont {t : Bool} (hx : evE e x = some (.bool t)) (hq : WO C l ((d, (.bool (!t))) :: e) h Q) : WO C (⟨some d, none, .not x⟩ :: l) e h Q := WO.ops (StepK.not hx) hq
theorem dnt {t : Bool} (hx : evE e x = some (.bool t)) (hq : WD C (q + 1) ld P ((d, (.bool (!t))) :: e) h Q) : WD C q (⟨⟨some d, none, .not x⟩, idx, anc⟩ :: ld) P e h Q := WD.pure (StepK.not hx) rfl hq
theorem oeq {neg t : Bool} {dd : EqD} (hx : evE e x = some a) (hy : evE e y = some b) (hb : eqA dd a b = some t) (hq : WO C l ((d, (.bool (if neg then !t else t))) :: e) h Q) : WO C (⟨some d, none, .eq neg dd x y⟩ :: l) e h Q := WO.ops (StepK.eq hx hy hb) hq
theorem deq {neg t : Bool} {dd : EqD} (hx : evE e x = some a) (hy : evE e y = some b) (hb : eqA dd a b = some t) (hq : WD C (q + 1) ld P ((d, (.bool (if neg then !t else t))) :: e) h Q) : WD C q (⟨⟨some d, none, .eq neg dd x y⟩, idx, anc⟩ :: ld) P e h Q := WD.pure (StepK.eq hx hy hb) rfl hq
theorem oex {i : Nat} {vs : List V} (hx : evE e x = some (.tuple vs)) (hi : vs[i]? = some v) (hq : WO C l ((d, v) :: e) h Q) : WO C (⟨some d, none, .extract i x⟩ :: l) e h Q := WO.ops (StepK.extract hx hi) hq
theorem dex {i : Nat} {vs : List V} (hx : evE e x = some (.tuple vs)) (hi : vs[i]? = some v) (hq : WD C (q + 1) ld P ((d, v) :: e) h Q) : WD C q (⟨⟨some d, none, .extract i x⟩, idx, anc⟩ :: ld) P e h Q := WD.pure (StepK.extract hx hi) rfl hq
theorem obu {zs cs : List V} {ps : List (Nat × Nat × Opd)} {us : List (Nat × Nat × V)} (hp : evPartsE e ps = some us) (hf : fillV zs us = some cs) (hq : WO C l ((d, (.agg cs)) :: e) h Q) : WO C (⟨some d, none, .build zs ps⟩ :: l) e h Q := WO.ops (StepK.build hp hf) hq
theorem dbu {zs cs : List V} {ps : List (Nat × Nat × Opd)} {us : List (Nat × Nat × V)} (hp : evPartsE e ps = some us) (hf : fillV zs us = some cs) (hq : WD C (q + 1) ld P ((d, (.agg cs)) :: e) h Q) : WD C q (⟨⟨some d, none, .build zs ps⟩, idx, anc⟩ :: ld) P e h Q := WD.pure (StepK.build hp hf) rfl hq
theorem omf {fn : Fn} {f1 c1 : List Opd} {fs cs : List V} (h1 : evsE e f1 = some fs) (h2 : evsE e c1 = some cs) (hq : WO C l ((d, (.func fn fs cs)) :: e) h Q) : WO C (⟨some d, none, .mkFn fn f1 c1⟩ :: l) e h Q := WO.ops (StepK.mkFn h1 h2) hq
theorem dmf {fn : Fn} {f1 c1 : List Opd} {fs cs : List V} (h1 : evsE e f1 = some fs) (h2 : evsE e c1 = some cs) (hq : WD C (q + 1) ld P ((d, (.func fn fs cs)) :: e) h Q) : WD C q (⟨⟨some d, none, .mkFn fn f1 c1⟩, idx, anc⟩ :: ld) P e h Q := WD.pure (StepK.mkFn h1 h2) rfl hq
theorem ofd {off : Nat} {n : Option Nat} {cs : List V} (hx : evE e x = some (.agg cs)) (hf : aggOf n cs off = some v) (hq : WO C l ((d, v) :: e) h Q) : WO C (⟨some d, none, .field off n x⟩ :: l) e h Q := WO.ops (StepK.field hx hf) hq
theorem dfd {off : Nat} {n : Option Nat} {cs : List V} (hx : evE e x = some (.agg cs)) (hf : aggOf n cs off = some v) (hq : WD C (q + 1) ld P ((d, v) :: e) h Q) : WD C q (⟨⟨some d, none, .field off n x⟩, idx, anc⟩ :: ld) P e h Q := WD.pure (StepK.field hx hf) rfl hq
theorem olt {s : List Nat} (hx : evE e x = some (.str s)) (hq : WO C l ((d, (.int .i64 s.length)) :: e) h Q) : WO C (⟨some d, none, .lenStr x⟩ :: l) e h Q := WO.ops (StepK.lenStr hx) hq
theorem dlt {s : List Nat} (hx : evE e x = some (.str s)) (hq : WD C (q + 1) ld P ((d, (.int .i64 s.length)) :: e) h Q) : WD C q (⟨⟨some d, none, .lenStr x⟩, idx, anc⟩ :: ld) P e h Q := WD.pure (StepK.lenStr hx) rfl hq
theorem onk {p : Nat × Nat} (hx : evE e x = some (.ptr (some p))) (hq : WO C l ((d, (.ptr (some p))) :: e) h Q) : WO C (⟨some d, none, .nilck x⟩ :: l) e h Q := WO.ops (StepK.nilck hx) hq
theorem dnk {p : Nat × Nat} (hx : evE e x = some (.ptr (some p))) (hq : WD C (q + 1) ld P ((d, (.ptr (some p))) :: e) h Q) : WD C q (⟨⟨some d, none, .nilck x⟩, idx, anc⟩ :: ld) P e h Q := WD.pure (StepK.nilck hx) rfl hq
theorem omn {k k' : IntKind} {m n : Int} (hx : evE e x = some (.int k m)) (hy : evE e y = some (.int k' n)) (hq : WO C l ((d, (.int k (if n < m then n else m))) :: e) h Q) : WO C (⟨some d, none, .min2 x y⟩ :: l) e h Q := WO.ops (StepK.min2 hx hy) hq
theorem dmn {k k' : IntKind} {m n : Int} (hx : evE e x = some (.int k m)) (hy : evE e y = some (.int k' n)) (hq : WD C (q + 1) ld P ((d, (.int k (if n < m then n else m))) :: e) h Q) : WD C q (⟨⟨some d, none, .min2 x y⟩, idx, anc⟩ :: ld) P e h Q := WD.pure (StepK.min2 hx hy) rfl hq
theorem omx {k k' : IntKind} {m n : Int} (hx : evE e x = some (.int k m)) (hy : evE e y = some (.int k' n)) (hq : WO C l ((d, (.int k (if n > m then n else m))) :: e) h Q) : WO C (⟨some d, none, .max2 x y⟩ :: l) e h Q := WO.ops (StepK.max2 hx hy) hq
theorem dmx {k k' : IntKind} {m n : Int} (hx : evE e x = some (.int k m)) (hy : evE e y = some (.int k' n)) (hq : WD C (q + 1) ld P ((d, (.int k (if n > m then n else m))) :: e) h Q) : WD C q (⟨⟨some d, none, .max2 x y⟩, idx, anc⟩ :: ld) P e h Q := WD.pure (StepK.max2 hx hy) rfl hq
end
end
end Abs
end Go.Proofs.YtbjpoelgcehidaaGreatDoor
namespace Go.Proofs.YtbjpoelgcehidaaGreatDoor
namespace Abs
noncomputable section
set_option linter.unusedVariables false
set_option linter.unusedSimpArgs false
open Go.RowKit Go.Maps Go.MapKept
open Go.WideElems (rd rg)

section
variable {P : Program} {B : Nat} {w0 w : World} {ρ : Rho} {h : Heap}

/-- An abstract block that has no place yet is given one that lies there already. -/
theorem Rel.layAt (r : Rel P B w0 ρ h w) {b : Nat} {o : Obj} (hb : ρ b = none) (hlt : b < h.size) (hg : h.get b = some o) (e : Emb) (hw : e.blk < w.heap.size)
    (hfree : ∀ b' e' o', ρ b' = some e' → h.get b' = some o' → o'.alive = true → e'.blk ≠ e.blk) (hrel : ORel P B (Rho.with_ ρ b e) w e o) : Rel P B w0 (Rho.with_ ρ b e) h w := by
  have hle : RLe ρ (Rho.with_ ρ b e) := with_le hb
  have old : ∀ {x : Nat} {e' : Emb}, Rho.with_ ρ b e x = some e' → x ≠ b → ρ x = some e' := by
    intro x e' hx hne
    unfold Rho.with_ at hx
    rwa [if_neg hne] at hx
  have new : ∀ {e' : Emb}, Rho.with_ ρ b e b = some e' → e' = e := by
    intro e' hx
    rw [with_same] at hx
    cases hx; rfl
  refine ⟨fun x e' hx => ?_, fun x e' hx => ?_, ?_, fun x e' o' h1 h2 h3 => ?_, r.fresh, r.below, r.base, r.glob.mono hle⟩
  · by_cases hne : x = b
    · subst hne; exact hlt
    · exact r.dom x e' (old hx hne)
  · by_cases hne : x = b
    · subst hne
      rw [new hx]
      exact ⟨o, hg, hrel⟩
    · obtain ⟨o', h1, h2⟩ := r.obj x e' (old hx hne)
      exact ⟨o', h1, h2.mono hle⟩
  · intro x x' e1 e2 o1 o2 S h1 h2 h3 h4 h5 h6 h7 h8
    by_cases hx : x = b
    · subst hx
      have hx' : x' ≠ x := Ne.symm h3
      rw [new h1] at h8
      exact absurd h8 (hfree x' e2 o2 (old h2 hx') h6 h7)
    · by_cases hx' : x' = b
      · subst hx'
        rw [new h2] at h8
        have ha : o1.alive = true := by cases o1 <;> first | rfl | (cases h5; done)
        exact absurd h8.symm (hfree x e1 o1 (old h1 hx) h4 ha)
      · exact r.sep x x' e1 e2 o1 o2 S (old h1 hx) (old h2 hx') h3 h4 h5 h6 h7 h8
  · by_cases hx : x = b
    · subst hx
      rw [new h1]; exact hw
    · exact r.live x e' o' (old h1 hx) h2 h3

/-- A function whose contract is told by the library. -/
theorem snd_calls {f : Nat} {us : Array Value} {v : V} {h' : Heap} (he : (callFunc f us).run P w = .ok (.enter f us) w) (hc : Calls P f us w fun e w' => RetE P B w0 ρ h.size v h' e w') : CallSnd P B w0 ρ f us w h v h' :=
  .inl ⟨he, fun n => callsIn_wide.2 hc⟩

/-- What it hands back is a new slice, or nil. -/
theorem ret_row (r : Rel P B w0 ρ h w) {w' : World} {el : TypeId} {v : Value} {xs : List Value} {cs : List V} (hb : Below w.heap.size w w') (ho : w'.ownsRow w.heap.size el 1 v xs.length xs) (hx : VRs ρ cs xs) :
    (cs = [] → v = .slice none 0 0 → Ret P B w0 ρ h.size (.slice none 0 0) h v w') ∧ (v ≠ .slice none 0 0 → Ret P B w0 ρ h.size (.oslice h.size 0 cs.length cs.length 1) (h.push (.cells cs (.tip [] 0 none))) v w') := by
  refine ⟨fun _ hv => ⟨ρ, by rw [hv]; exact .sliceNil, r.below_keep hb, New.refl _ _⟩, fun hv => ?_⟩
  obtain ⟨_, ⟨rfl, _⟩ | ⟨g, cap, cur, rfl, hg, hgb, hn, hcm, hcap, htake⟩⟩ := ho
  · exact absurd rfl hv
  have r1 := (r.below_keep hb).push (.cells cs (.tip [] 0 none))
  have hnone : ρ h.size = none := r.none_at
  have hgl : g < w'.heap.size := (Array.getElem?_eq_some_iff.1 hgb).1
  have hlen := hx.length
  have r2 := r1.layAt (b := h.size) (o := .cells cs (.tip [] 0 none)) hnone (by rw [Heap.size_push]; omega) (by rw [Heap.get_push, if_pos rfl]) ⟨g, 0, cap⟩ hgl
    (fun b' e' o' h1 h2 h3 he => by
      have hlt := r.dom b' e' h1
      rw [Heap.get_push, if_neg (by omega)] at h2
      have := r.live b' e' o' h1 h2 h3
      simp only at he
      omega)
    ⟨Nat.le_trans r.base hg, fun i v hi => by
      obtain ⟨u, q1, q2⟩ := hx.get i v hi
      refine ⟨u, ?_, q2.mono (with_le hnone)⟩
      have hin : i < xs.length := (List.getElem?_eq_some_iff.1 q1).1
      have : cur.toList[i]? = some u := by
        rw [Nat.mul_one] at htake
        rw [← htake, List.getElem?_take, if_pos hin] at q1
        exact q1
      unfold at_ World.cell?
      simp only [hgb, Nat.zero_add]
      simpa using this, ⟨⟨cur, el, (0, 0), hgb, by rw [hcap, Nat.mul_one], .inl rfl, fun t ht => by cases ht⟩, by simp only [Nat.zero_add]; omega⟩⟩
  refine ⟨_, ?_, r2, New.with_ hnone (Nat.le_refl _)⟩
  rw [← hlen]
  exact VR.oslice h.size 0 cs.length cs.length 1 cap ⟨g, 0, cap⟩ ⟨g, 0, none⟩ with_same (fun _ => ⟨rfl, .inr ⟨by simp, by unfold maxLen at hcm; omega⟩⟩) (Nat.le_refl _) (by omega)
end

/-! ### Keys -/
def insI (x : Int) : List Int → List Int
  | [] => [x]
  | y :: r => if x ≤ y then x :: y :: r else y :: insI x r
def srtI : List Int → List Int
  | [] => []
  | x :: r => insI x (srtI r)
def insS (x : List Nat) : List (List Nat) → List (List Nat)
  | [] => [x]
  | y :: r => if lessL x y then x :: y :: r else y :: insS x r
def srtS : List (List Nat) → List (List Nat)
  | [] => []
  | x :: r => insS x (srtS r)
def incI : List Int → Bool
  | a :: b :: r => decide (a < b) && incI (b :: r)
  | _ => true
def incS : List (List Nat) → Bool
  | a :: b :: r => lessL a b && incS (b :: r)
  | _ => true
def incN (cl : Nat) : List Nat → Bool
  | a :: b :: r => decide (a < b) && incN cl (b :: r)
  | [a] => decide (a < cl)
  | [] => true
def intsOf : List (V × V) → Option (List Int)
  | [] => some []
  | (.int .i64 n, _) :: r => match intsOf r with
    | some l => some (n :: l)
    | none => none
  | _ :: _ => none
def strsOf : List (V × V) → Option (List (List Nat))
  | [] => some []
  | (.str n, _) :: r => match strsOf r with
    | some l => some (n :: l)
    | none => none
  | _ :: _ => none
def i64Ok (n : Int) : Bool := decide (-9223372036854775808 ≤ n) && decide (n ≤ 9223372036854775807)

def keysSum (fI mt : Nat) (args : List V) (h : Heap) : Option (V × Heap) :=
  match args with
  | [.map m] => some (.func (.func fI) [] [.ptr (some (h.size, 0))], h.push (.cells [.map m] (.tip [] 0 (some mt))))
  | _ => none
def rowOf (h : Heap) (l : List V) : V × Heap := match l with
  | [] => (.slice none 0 0, h)
  | l => (.oslice h.size 0 l.length l.length 1, h.push (.cells l (.tip [] 0 none)))
def boxedMap (fI mt : Nat) (args : List V) (h : Heap) : Option (Option Nat) :=
  match args with
  | [.func (.func f) [] [.ptr (some (b, 0))]] => if f = fI then match h.get b with
      | some (.cells [.map m] (.tip [] _ (some t))) => if t = mt then some m else none
      | _ => none
    else none
  | _ => none
def sortedISum (fI mt : Nat) (args : List V) (h : Heap) : Option (V × Heap) :=
  match boxedMap fI mt args h with
  | some none => some (.slice none 0 0, h)
  | some (some mb) => match h.get mb with
    | some (.map es bs cl) => match intsOf es with
      | some l => if (incN cl bs && incI (srtI l) && l.all i64Ok && decide (l.length ≤ 1000000)) = true then some (rowOf h ((srtI l).map fun n => .int .i64 n)) else none
      | none => none
    | _ => none
  | none => none
def sortedSSum (fI mt : Nat) (args : List V) (h : Heap) : Option (V × Heap) :=
  match boxedMap fI mt args h with
  | some none => some (.slice none 0 0, h)
  | some (some mb) => match h.get mb with
    | some (.map es bs cl) => match strsOf es with
      | some l => if (incN cl bs && incS (srtS l) && l.all (fun s => decide (s.length ≤ 1000000)) && decide (l.length ≤ 1000000)) = true then some (rowOf h ((srtS l).map .str)) else none
      | none => none
    | _ => none
  | none => none

theorem insI_perm (x : Int) : ∀ l, (insI x l).Perm (x :: l)
  | [] => .refl _
  | y :: r => by
    unfold insI
    split
    · exact .refl _
    · exact ((insI_perm x r).cons y).trans (.swap x y r)
theorem srtI_perm : ∀ l, (srtI l).Perm l
  | [] => .refl _
  | x :: r => (insI_perm x _).trans ((srtI_perm r).cons x)
theorem insS_perm (x : List Nat) : ∀ l, (insS x l).Perm (x :: l)
  | [] => .refl _
  | y :: r => by
    unfold insS
    split
    · exact .refl _
    · exact ((insS_perm x r).cons y).trans (.swap x y r)
theorem srtS_perm : ∀ l, (srtS l).Perm l
  | [] => .refl _
  | x :: r => (insS_perm x _).trans ((srtS_perm r).cons x)
theorem incI_pw : ∀ l, incI l = true → l.Pairwise (· < ·)
  | [], _ => .nil
  | [a], _ => by simp
  | a :: b :: r, h => by
    simp only [incI, Bool.and_eq_true, decide_eq_true_eq] at h
    have ih := incI_pw (b :: r) h.2
    refine List.pairwise_cons.2 ⟨fun x hx => ?_, ih⟩
    rcases List.mem_cons.1 hx with rfl | hx
    · exact h.1
    · exact Int.lt_trans h.1 ((List.pairwise_cons.1 ih).1 x hx)
theorem incN_pw (cl : Nat) : ∀ l, incN cl l = true → l.Pairwise (· < ·) ∧ ∀ x ∈ l, x < cl
  | [], _ => ⟨.nil, by simp⟩
  | [a], h => ⟨by simp, by simpa [incN] using h⟩
  | a :: b :: r, h => by
    simp only [incN, Bool.and_eq_true, decide_eq_true_eq] at h
    obtain ⟨ih, ih2⟩ := incN_pw cl (b :: r) h.2
    refine ⟨List.pairwise_cons.2 ⟨fun x hx => ?_, ih⟩, fun x hx => ?_⟩
    · rcases List.mem_cons.1 hx with rfl | hx
      · exact h.1
      · exact Nat.lt_trans h.1 ((List.pairwise_cons.1 ih).1 x hx)
    · rcases List.mem_cons.1 hx with rfl | hx
      · exact Nat.lt_trans h.1 (ih2 b List.mem_cons_self)
      · exact ih2 x hx
theorem lessL_trans : ∀ {a b c : List Nat}, lessL a b = true → lessL b c = true → lessL a c = true
  | _, [], _, h, _ => by cases ‹List Nat› <;> simp [lessL] at h
  | _, _ :: _, [], _, h => by simp [lessL] at h
  | [], _ :: _, _ :: _, _, _ => by simp [lessL]
  | x :: a, y :: b, z :: c, h1, h2 => by
    simp only [lessL, Bool.or_eq_true, decide_eq_true_eq, Bool.and_eq_true, beq_iff_eq] at h1 h2 ⊢
    rcases h1 with h1 | ⟨h1, h1'⟩ <;> rcases h2 with h2 | ⟨h2, h2'⟩
    · exact .inl (by omega)
    · exact .inl (by omega)
    · exact .inl (by omega)
    · exact .inr ⟨by omega, lessL_trans h1' h2'⟩
theorem lessL_irrefl : ∀ a : List Nat, lessL a a = false
  | [] => rfl
  | x :: a => by simp [lessL, lessL_irrefl a]
theorem incS_pw : ∀ l, incS l = true → l.Pairwise (fun a b => lessL a b = true)
  | [], _ => .nil
  | [a], _ => by simp
  | a :: b :: r, h => by
    simp only [incS, Bool.and_eq_true] at h
    have ih := incS_pw (b :: r) h.2
    refine List.pairwise_cons.2 ⟨fun x hx => ?_, ih⟩
    rcases List.mem_cons.1 hx with rfl | hx
    · exact h.1
    · exact lessL_trans h.1 ((List.pairwise_cons.1 ih).1 x hx)

theorem sort_only_i {ss r : List Int} (hp : ss.Perm r) (hr : r.Pairwise (· < ·)) : ss.mergeSort leI = r := by
  have tr : ∀ a b c : Int, leI a b = true → leI b c = true → leI a c = true := fun a b c h1 h2 => by simp only [leI, decide_eq_true_eq] at *; exact Int.le_trans h1 h2
  have to : ∀ a b : Int, (leI a b || leI b a) = true := fun a b => by simp only [leI, Bool.or_eq_true, decide_eq_true_eq]; exact Int.le_total a b
  refine List.Perm.eq_of_pairwise (le := fun a b => leI a b = true) (fun a b _ _ h1 h2 => ?_) (List.pairwise_mergeSort tr to ss) (hr.imp fun {a b} h => by simp only [leI, decide_eq_true_eq]; omega) ((List.mergeSort_perm ss leI).trans hp)
  simp only [leI, decide_eq_true_eq] at h1 h2
  exact Int.le_antisymm h1 h2

theorem less_u8 : ∀ {x y : List UInt8}, lessL (x.map UInt8.toNat) (y.map UInt8.toNat) = true → x < y
  | _, [], h => by cases ‹List UInt8› <;> simp [lessL] at h
  | [], _ :: _, _ => by simp
  | a :: x, b :: y, h => by
    simp only [List.map_cons, lessL, Bool.or_eq_true, decide_eq_true_eq, Bool.and_eq_true, beq_iff_eq] at h
    rw [List.cons_lt_cons_iff]
    rcases h with h | ⟨h, h'⟩
    · exact .inl (UInt8.lt_iff_toNat_lt.2 h)
    · exact .inr ⟨UInt8.toNat_inj.1 h, less_u8 h'⟩
theorem sort_only_s {ss : List (List UInt8)} {r : List (List UInt8)} (hp : ss.Perm r) (hr : r.Pairwise (fun a b => lessL (a.map UInt8.toNat) (b.map UInt8.toNat) = true)) : ss.mergeSort (fun x y => decide (x ≤ y)) = r := by
  have hpw : r.Pairwise (fun a b => (fun x y : List UInt8 => decide (x ≤ y)) a b = true) := hr.imp fun {a b} h => by simp only [decide_eq_true_eq]; exact List.le_of_lt (less_u8 h)
  have : ss.mergeSort (fun x y => decide (x ≤ y)) = r.mergeSort (fun x y => decide (x ≤ y)) := mergeSort_of_perm hp
  rw [this]
  exact List.mergeSort_of_pairwise hpw

theorem perm_map_back0 {α β : Type} {f : α → β} {m l' : List β} (h : m.Perm l') : ∀ l : List α, l' = l.map f → ∃ ys : List α, m = ys.map f ∧ ys.Perm l := by
  induction h with
  | nil => intro l hl; exact ⟨[], rfl, by cases l with | nil => exact .refl _ | cons => simp at hl⟩
  | cons x h ih =>
    intro l hl
    cases l with
    | nil => simp at hl
    | cons a l =>
      simp only [List.map_cons, List.cons.injEq] at hl
      obtain ⟨ys, h1, h2⟩ := ih l hl.2
      exact ⟨a :: ys, by simp [hl.1, h1], h2.cons a⟩
  | swap x y l0 =>
    intro l hl
    cases l with
    | nil => simp at hl
    | cons a l => cases l with
      | nil => simp at hl
      | cons b l =>
        simp only [List.map_cons, List.cons.injEq] at hl
        exact ⟨b :: a :: l, by simp [hl.1, hl.2.1, hl.2.2], .swap a b l⟩
  | trans h1 h2 ih1 ih2 =>
    intro l hl
    obtain ⟨ys, k1, k2⟩ := ih2 l hl
    obtain ⟨zs, k3, k4⟩ := ih1 ys k1
    exact ⟨zs, k3, k4.trans k2⟩
theorem perm_map_back {α β : Type} {f : α → β} {l : List α} {m : List β} (h : m.Perm (l.map f)) : ∃ ys : List α, m = ys.map f ∧ ys.Perm l := perm_map_back0 h l rfl
theorem insert_perm {H : Type} (x : Lit × DataW H) : ∀ l, (DataW.insert x l).Perm (x :: l)
  | [] => .refl _
  | y :: r => by
    unfold DataW.insert
    split
    · exact .refl _
    · exact ((insert_perm x r).cons y).trans (.swap x y r)
theorem foldr_insert_perm {H : Type} : ∀ l : List (Lit × DataW H), (l.foldr DataW.insert []).Perm l
  | [] => .refl _
  | x :: r => (insert_perm x _).trans ((foldr_insert_perm r).cons x)

/-- What a map's keys and their sorting are, as the library tells it (keys that are ints). -/
structure KeysI (P : Program) (fK fI fS mt kt : Nat) : Prop where
  ty : P.underlying kt = some (.int .i64)
  enK : ∀ args w, (callFunc fK args).run P w = .ok (.enter fK args) w
  enS : ∀ args w, (callFunc fS args).run P w = .ok (.enter fS args) w
  keys : ∀ mb W, Calls P fK #[.map mb] W fun e w' => e = .returned (.func (.func fI) #[] #[.pointer (some ⟨W.heap.size, 0, none⟩)]) ∧ w' = W.alloc (.cells #[.map mb] mt)
  sorted : ∀ (Bm b nn : Nat) (D0 : DataW Unit) (R : Value → Option (DataW Unit × List MemPlace)) (w : World), Bm < w.heap.size → w.cell? ⟨Bm, 0, none⟩ = some (.map (some b)) → w.ownsMap P kt R b nn D0 → Maps.size D0 ≤ maxLen → Maps.size D0 * 8 ≤ 140737488355328 →
    Calls P fS #[.func (.func fI) #[] #[.pointer (some ⟨Bm, 0, none⟩)]] w fun e w' => ∃ (v : Value) (ss : List Int), e = .returned v ∧ ss.Perm (intKeys D0) ∧ w'.ownsRow w.heap.size kt 1 v ss.length ((ss.mergeSort (fun x y => decide (x ≤ y))).map encZ) ∧ (v = .slice none 0 0 ↔ ss = []) ∧ Below w.heap.size w w'
  sortedNil : ∀ (Bm : Nat) (w : World), Bm < w.heap.size → w.cell? ⟨Bm, 0, none⟩ = some (.map none) →
    Calls P fS #[.func (.func fI) #[] #[.pointer (some ⟨Bm, 0, none⟩)]] w fun e w' => e = .returned (.slice none 0 0) ∧ Below w.heap.size w w'
/-- .. (keys that are strings). -/
structure KeysS (P : Program) (fK fI fS mt kt : Nat) : Prop where
  ty : P.underlying kt = some .string
  enK : ∀ args w, (callFunc fK args).run P w = .ok (.enter fK args) w
  enS : ∀ args w, (callFunc fS args).run P w = .ok (.enter fS args) w
  keys : ∀ mb W, Calls P fK #[.map mb] W fun e w' => e = .returned (.func (.func fI) #[] #[.pointer (some ⟨W.heap.size, 0, none⟩)]) ∧ w' = W.alloc (.cells #[.map mb] mt)
  sorted : ∀ (Bm b nn : Nat) (D0 : DataW Unit) (R : Value → Option (DataW Unit × List MemPlace)) (w : World), Bm < w.heap.size → w.cell? ⟨Bm, 0, none⟩ = some (.map (some b)) → w.ownsMap P kt R b nn D0 → Maps.size D0 ≤ maxLen → Maps.size D0 * 16 ≤ 140737488355328 →
    Calls P fS #[.func (.func fI) #[] #[.pointer (some ⟨Bm, 0, none⟩)]] w fun e w' => ∃ (v : Value) (ss : List (List UInt8)), e = .returned v ∧ ss.Perm (strKeys D0) ∧ w'.ownsRow w.heap.size kt 1 v ss.length ((ss.mergeSort (fun x y => decide (x ≤ y))).map encStr) ∧ (v = .slice none 0 0 ↔ ss = []) ∧ Below w.heap.size w w'
  sortedNil : ∀ (Bm : Nat) (w : World), Bm < w.heap.size → w.cell? ⟨Bm, 0, none⟩ = some (.map none) →
    Calls P fS #[.func (.func fI) #[] #[.pointer (some ⟨Bm, 0, none⟩)]] w fun e w' => e = .returned (.slice none 0 0) ∧ Below w.heap.size w w'

section
variable {P : Program} {B : Nat} {w0 w : World} {ρ : Rho} {h : Heap}

theorem keys_snd {fK fI mt : Nat} (enK : ∀ args w, (callFunc fK args).run P w = .ok (.enter fK args) w) (keys : ∀ mb W, Calls P fK #[.map mb] W fun e w' => e = .returned (.func (.func fI) #[] #[.pointer (some ⟨W.heap.size, 0, none⟩)]) ∧ w' = W.alloc (.cells #[.map mb] mt))
    {args : List V} {v : V} {h' : Heap} (hx : keysSum fI mt args h = some (v, h')) : HM h h' ∧ ∀ (ρ : Rho) (w : World) (us : Array Value), Rel P B w0 ρ h w → VRs ρ args us.toList → CallSnd P B w0 ρ fK us w h v h' := by
  unfold keysSum at hx
  split at hx
  · rename_i m
    cases hx
    refine ⟨HM.push _ _, fun ρ w us r hv => ?_⟩
    obtain ⟨us⟩ := us
    cases hv with
    | cons _ u _ us hu ht =>
    cases ht
    have hum : ∃ mb, u = .map mb := by cases hu <;> exact ⟨_, rfl⟩
    obtain ⟨mb, rfl⟩ := hum
    refine snd_calls (enK _ _) ((keys mb w).mono fun e w' => ?_)
    rintro ⟨rfl, rfl⟩
    have hnone : ρ h.size = none := r.none_at
    have hle := with_le (e := ⟨w.heap.size, 0, 1⟩) hnone
    have r2 := (r.push (.cells [.map m] (.tip [] 0 (some mt)))).lay (o := .cells [.map m] (.tip [] 0 (some mt))) hnone (by rw [Heap.size_push]; omega) (by rw [Heap.get_push, if_pos rfl]) (.cells #[.map mb] mt) 1
      ⟨r.base, fun i v hi => ?_, ⟨⟨#[.map mb], mt, (0, 0), alloc_at w _, rfl, .inl rfl, fun t ht => by cases ht; exact ⟨rfl, rfl⟩⟩, by simp⟩⟩
    · refine ⟨_, .func _ _ _ _ _ .nil (.cons _ _ _ _ (.ptr _ _ _ _ with_same rfl) .nil), r2, New.with_ hnone (Nat.le_refl _)⟩
    · have hi0 : i = 0 := by
        have := (List.getElem?_eq_some_iff.1 hi).1
        simpa using this
      subst hi0
      simp at hi
      subst hi
      refine ⟨.map mb, ?_, hu.mono hle⟩
      show (w.alloc (.cells #[.map mb] mt)).cell? ⟨w.heap.size, 0 + 0, none⟩ = _
      rw [World.cell?_alloc_new]; rfl
  · cases hx

theorem boxed_facts {fI mt : Nat} {args : List V} {m : Option Nat} (hx : boxedMap fI mt args h = some m) (r : Rel P B w0 ρ h w) {us : Array Value} (hv : VRs ρ args us.toList) :
    ∃ Bm mb, us = #[.func (.func fI) #[] #[.pointer (some ⟨Bm, 0, none⟩)]] ∧ Bm < w.heap.size ∧ w.cell? ⟨Bm, 0, none⟩ = some (.map mb) ∧ VR ρ (.map m) (.map mb) := by
  unfold boxedMap at hx
  split at hx
  · rename_i f b
    split at hx
    · rename_i hf
      subst hf
      split at hx
      · rename_i m' fz t hg
        split at hx
        · rename_i ht
          subst ht
          cases hx
          obtain ⟨us⟩ := us
          cases hv with
          | cons _ u _ us hu hvt =>
          cases hvt
          cases hu with
          | func _ _ _ fi cp h1 h2 =>
          obtain ⟨fi⟩ := fi
          obtain ⟨cp⟩ := cp
          cases h1
          cases h2 with
          | cons _ u2 _ us2 hp hpt =>
          cases hpt
          cases hp with
          | ptr _ _ e a he ha =>
          obtain ⟨o, q1, q2⟩ := r.obj _ _ he
          rw [hg] at q1
          cases q1
          obtain ⟨hB, hcf, ⟨c, el, fr, hc, hs, hfr, hty⟩, hroom⟩ := q2
          obtain ⟨u3, k1, k2⟩ := hcf 0 (.map m) rfl
          have hoff := (hty _ rfl).2
          have hat : at_ e 0 = ⟨e.blk, 0, none⟩ := by unfold at_; rw [hoff]
          rw [hat] at k1 ha
          subst ha
          have hum : ∃ mb, u3 = .map mb := by cases k2 <;> exact ⟨_, rfl⟩
          obtain ⟨mb, rfl⟩ := hum
          exact ⟨e.blk, mb, rfl, (Array.getElem?_eq_some_iff.1 hc).1, k1, k2⟩
        · cases hx
      · cases hx
    · cases hx
  · cases hx

theorem MR_ints : ∀ {es : List (V × V)} {ces : List MapEntry} {l : List Int}, MR ρ es ces → intsOf es = some l → ces.map MapEntry.key = l.map encZ
  | [], [], l, _, hl => by cases hl; rfl
  | (a, v) :: es, m :: ces, l, hm, hl => by
    unfold intsOf at hl
    split at hl
    · rename_i h1; cases h1
    · rename_i n v' r h1
      cases h1
      split at hl
      · rename_i l' hl'
        cases hl
        have := hm.1
        simp only [List.map_cons, MR_ints hm.2.2 hl']
        generalize m.key = mk at this
        cases this
        rfl
      · cases hl
    · cases hl
  | [], _ :: _, _, hm, _ => hm.elim
  | _ :: _, [], _, hm, _ => hm.elim
theorem MR_strs : ∀ {es : List (V × V)} {ces : List MapEntry} {l : List (List Nat)}, MR ρ es ces → strsOf es = some l → ∃ xs : List (List UInt8), ces.map MapEntry.key = xs.map encStr ∧ l = xs.map fun x => x.map UInt8.toNat
  | [], [], l, _, hl => by cases hl; exact ⟨[], rfl, rfl⟩
  | (a, v) :: es, m :: ces, l, hm, hl => by
    unfold strsOf at hl
    split at hl
    · rename_i h1; cases h1
    · rename_i n v' r h1
      cases h1
      split at hl
      · rename_i l' hl'
        cases hl
        have := hm.1
        obtain ⟨xs, h1, h2⟩ := MR_strs hm.2.2 hl'
        generalize hmk : m.key = mk at this
        cases this with
        | str s _ hs =>
        refine ⟨s.data.toList :: xs, ?_, ?_⟩
        · simp only [List.map_cons, h1, hmk]
        · rw [hs, h2]; rfl
      · cases hl
    · cases hl
  | [], _ :: _, _, hm, _ => hm.elim
  | _ :: _, [], _, hm, _ => hm.elim

def nilR : Value → Option (DataW Unit × List MemPlace) := fun _ => some (.nil, [])

theorem Own_map {kt : TypeId} {ces : Array MapEntry} {cl : Nat} (hlen : ces.size ≤ 1000000) (hb : incN cl (ces.toList.map MapEntry.born) = true) (hk : (ces.toList.map MapEntry.key).Nodup) (hr : ∀ x ∈ ces.toList, ∃ kl, keyOf P kt x.key = some kl) :
    Go.WideElems.Fit P kt nilR ces cl where
  size := by unfold maxLen; omega
  stamped := by
    obtain ⟨h1, h2⟩ := incN_pw cl _ hb
    exact ⟨fun x hx => h2 _ (List.mem_map_of_mem hx), h1.imp (fun {a b} h => Nat.ne_of_lt h), hk⟩
  reads := fun x hx => by
    obtain ⟨kl, hkl⟩ := hr x hx
    exact ⟨(kl, .nil), by simp [rd, hkl, nilR]⟩

theorem row_of (r : Rel P B w0 ρ h w) {w' : World} {el : TypeId} {v : Value} {n : Nat} {xs : List Value} {cs : List V} (hb : Below w.heap.size w w') (hn : n = xs.length) (ho : w'.ownsRow w.heap.size el 1 v n xs) (hx : VRs ρ cs xs) (hnil : v = .slice none 0 0 ↔ xs = []) :
    Ret P B w0 ρ h.size (rowOf h cs).1 (rowOf h cs).2 v w' := by
  subst hn
  obtain ⟨h1, h2⟩ := ret_row r hb ho hx
  cases hx with
  | nil => exact h1 rfl (hnil.2 rfl)
  | cons a u x as hv ht => exact h2 (fun e => by have := hnil.1 e; cases this)

theorem sortedI_snd {fK fI fS mt kt : Nat} (K : KeysI P fK fI fS mt kt) {args : List V} {v : V} {h' : Heap} (hx : sortedISum fI mt args h = some (v, h')) : HM h h' ∧ ∀ (ρ : Rho) (w : World) (us : Array Value), Rel P B w0 ρ h w → VRs ρ args us.toList → CallSnd P B w0 ρ fS us w h v h' := by
  unfold sortedISum at hx
  split at hx
  · rename_i hbx
    cases hx
    refine ⟨HM.refl _, fun ρ w us r hv => ?_⟩
    obtain ⟨Bm, mb, rfl, q1, q2, q3⟩ := boxed_facts hbx r hv
    cases q3
    refine snd_calls (K.enS _ _) ((K.sortedNil Bm w q1 q2).mono fun e w' => ?_)
    rintro ⟨rfl, hb⟩
    exact ⟨ρ, .sliceNil, r.below_keep hb, New.refl _ _⟩
  · rename_i m hbx
    split at hx
    · rename_i es bs cl hg
      split at hx
      · rename_i l hl
        split at hx
        · rename_i hc
          have hvh : v = (rowOf h ((srtI l).map fun n => V.int .i64 n)).1 ∧ h' = (rowOf h ((srtI l).map fun n => V.int .i64 n)).2 := by have := Option.some.inj hx; rw [this]; exact ⟨rfl, rfl⟩
          obtain ⟨rfl, rfl⟩ := hvh
          simp only [Bool.and_eq_true, decide_eq_true_eq] at hc
          obtain ⟨⟨⟨c1, c2⟩, c3⟩, c4⟩ := hc
          refine ⟨by unfold rowOf; split <;> first | exact HM.refl _ | exact HM.push _ _, fun ρ w us r hv => ?_⟩
          obtain ⟨Bm, mb, rfl, q1, q2, q3⟩ := boxed_facts hbx r hv
          cases q3 with
          | map _ e rr he hr =>
          subst hr
          obtain ⟨ces, g1, g2, g3⟩ := map_of r he hg
          have hkeys := MR_ints g2 hl
          have hlen : l.length = ces.size := by
            have := congrArg List.length hkeys
            simpa using this.symm
          have hpw := incI_pw _ c2
          have hnd : l.Nodup := (srtI_perm l).nodup_iff.1 (hpw.imp fun {a b} h => by omega)
          have hkn : (ces.toList.map MapEntry.key).Nodup := by
            rw [hkeys]
            exact hnd.map _ (fun a b hne e => hne (encZ_inj e)) |> fun q => q
          have hkey : ∀ x ∈ ces.toList, ∃ n ∈ l, x.key = encZ n ∧ keyOf P kt x.key = some (.int .i64 n) := by
            intro x hx
            have : x.key ∈ ces.toList.map MapEntry.key := List.mem_map_of_mem hx
            rw [hkeys] at this
            obtain ⟨n, hn, hn2⟩ := List.mem_map.1 this
            refine ⟨n, hn, hn2.symm, ?_⟩
            have hw := List.all_eq_true.1 c3 n hn
            rw [← hn2]
            have hwf : (Lit.int .i64 n).wf = true := by
              simp only [i64Ok, Bool.and_eq_true, decide_eq_true_eq] at hw
              simp only [Lit.wf, Bool.and_eq_true, decide_eq_true_eq]
              exact hw
            simp [keyOf, K.ty, mapKey, hwf]
          have F := Own_map (P := P) (kt := kt) (by omega) (g3 ▸ c1) hkn (fun x hx => let ⟨n, _, _, q⟩ := hkey x hx; ⟨_, q⟩)
          have hown : w.ownsMap P kt nilR e.blk ces.size (.map ((ces.toList.map (rg P kt nilR)).foldr DataW.insert [])) := ⟨ces, cl, g1, F, Nat.le_refl _, rfl⟩
          have hperm := foldr_insert_perm (ces.toList.map (rg P kt nilR))
          have hsz : Maps.size (.map ((ces.toList.map (rg P kt nilR)).foldr DataW.insert []) : DataW Unit) = ces.size := by
            show ((ces.toList.map (rg P kt nilR)).foldr DataW.insert []).length = ces.size
            rw [hperm.length_eq]; simp
          have hik : (intKeys (.map ((ces.toList.map (rg P kt nilR)).foldr DataW.insert []) : DataW Unit)).Perm l := by
            refine (hperm.map _).trans ?_
            have : (ces.toList.map (rg P kt nilR)).map (fun p => intOf p.1) = l := by
              rw [List.map_map]
              have e1 : ∀ x ∈ ces.toList, ((fun p : Lit × DataW Unit => intOf p.1) ∘ rg P kt nilR) x = (fun v => match v with | Value.int _ n => n | _ => 0) x.key := by
                intro x hx
                obtain ⟨n, _, h1, h2⟩ := hkey x hx
                simp [rg, rd, h2, nilR, intOf]
                rw [h1]
              rw [List.map_congr_left e1]
              have : (ces.toList.map MapEntry.key).map (fun v => match v with | Value.int _ n => n | _ => 0) = l := by
                rw [hkeys, List.map_map]
                have : ((fun v => match v with | Value.int _ n => n | _ => 0) ∘ encZ) = id := by funext n; rfl
                rw [this, List.map_id]
              rw [List.map_map] at this
              exact this
            rw [this]
          refine snd_calls (K.enS _ _) ((K.sorted Bm e.blk ces.size _ nilR w q1 q2 hown (by rw [hsz]; unfold maxLen; omega) (by rw [hsz]; omega)).mono fun ee w' => ?_)
          rintro ⟨vv, ss, rfl, s1, s2, s3, s4⟩
          have hsort : ss.mergeSort (fun x y => decide (x ≤ y)) = srtI l := sort_only_i ((s1.trans hik).trans (srtI_perm l).symm) hpw
          rw [hsort] at s2
          have hsl : ss.length = (srtI l).length := by rw [← hsort, List.length_mergeSort]
          refine row_of r s4 (by rw [hsl, List.length_map]) s2 ?_ ?_
          · refine VRs.of_get (by simp) fun i v hi => ?_
            rw [List.getElem?_map] at hi ⊢
            cases hq : (srtI l)[i]? with
            | none => rw [hq] at hi; cases hi
            | some n => rw [hq] at hi; cases hi; exact ⟨_, rfl, .int _ _⟩
          · rw [s3]
            constructor
            · intro e; subst e; have : srtI l = [] := List.eq_nil_of_length_eq_zero (by rw [← hsl]; rfl); rw [this]; rfl
            · intro e; have : (srtI l).length = 0 := by have := congrArg List.length e; simpa using this
              exact List.eq_nil_of_length_eq_zero (by omega)
        · cases hx
      · cases hx
    · cases hx
  · cases hx

theorem sortedS_snd {fK fI fS mt kt : Nat} (K : KeysS P fK fI fS mt kt) {args : List V} {v : V} {h' : Heap} (hx : sortedSSum fI mt args h = some (v, h')) : HM h h' ∧ ∀ (ρ : Rho) (w : World) (us : Array Value), Rel P B w0 ρ h w → VRs ρ args us.toList → CallSnd P B w0 ρ fS us w h v h' := by
  unfold sortedSSum at hx
  split at hx
  · rename_i hbx
    cases hx
    refine ⟨HM.refl _, fun ρ w us r hv => ?_⟩
    obtain ⟨Bm, mb, rfl, q1, q2, q3⟩ := boxed_facts hbx r hv
    cases q3
    refine snd_calls (K.enS _ _) ((K.sortedNil Bm w q1 q2).mono fun e w' => ?_)
    rintro ⟨rfl, hb⟩
    exact ⟨ρ, .sliceNil, r.below_keep hb, New.refl _ _⟩
  · rename_i m hbx
    split at hx
    · rename_i es bs cl hg
      split at hx
      · rename_i l hl
        split at hx
        · rename_i hc
          have hvh : v = (rowOf h ((srtS l).map V.str)).1 ∧ h' = (rowOf h ((srtS l).map V.str)).2 := by have := Option.some.inj hx; rw [this]; exact ⟨rfl, rfl⟩
          obtain ⟨rfl, rfl⟩ := hvh
          simp only [Bool.and_eq_true, decide_eq_true_eq] at hc
          obtain ⟨⟨⟨c1, c2⟩, c3⟩, c4⟩ := hc
          refine ⟨by unfold rowOf; split <;> first | exact HM.refl _ | exact HM.push _ _, fun ρ w us r hv => ?_⟩
          obtain ⟨Bm, mb, rfl, q1, q2, q3⟩ := boxed_facts hbx r hv
          cases q3 with
          | map _ e rr he hr =>
          subst hr
          obtain ⟨ces, g1, g2, g3⟩ := map_of r he hg
          obtain ⟨xs, hkeys, rfl⟩ := MR_strs g2 hl
          have hlen : xs.length = ces.size := by
            have := congrArg List.length hkeys
            simpa using this.symm
          have hpw := incS_pw _ c2
          rw [List.length_map] at c4
          -- the sorted list, as bytes
          have hpm := srtS_perm (xs.map fun x => x.map UInt8.toNat)
          obtain ⟨ys, hys, hyp⟩ : ∃ ys : List (List UInt8), srtS (xs.map fun x => x.map UInt8.toNat) = ys.map (fun x => x.map UInt8.toNat) ∧ ys.Perm xs := perm_map_back hpm
          rw [hys, List.pairwise_map] at hpw
          have hnd : xs.Nodup := hyp.nodup_iff.1 (hpw.imp fun {a b} h e => by subst e; rw [lessL_irrefl] at h; cases h)
          have hkn : (ces.toList.map MapEntry.key).Nodup := by
            rw [hkeys]
            exact hnd.map _ (fun a b hne e => hne (encStr_inj e))
          have hkey : ∀ x ∈ ces.toList, ∃ n ∈ xs, x.key = encStr n ∧ keyOf P kt x.key = some (.string n) := by
            intro x hx
            have : x.key ∈ ces.toList.map MapEntry.key := List.mem_map_of_mem hx
            rw [hkeys] at this
            obtain ⟨n, hn, hn2⟩ := List.mem_map.1 this
            refine ⟨n, hn, hn2.symm, ?_⟩
            have hw := List.all_eq_true.1 c3 (n.map UInt8.toNat) (List.mem_map_of_mem hn)
            simp only [List.length_map, decide_eq_true_eq] at hw
            have hsz : (⟨n.toArray⟩ : ByteArray).size ≤ maxLen := by
              show n.toArray.size ≤ maxLen
              unfold maxLen
              simp; omega
            rw [← hn2]
            simp [keyOf, K.ty, mapKey, hsz]
          have F := Own_map (P := P) (kt := kt) (by omega) (g3 ▸ c1) hkn (fun x hx => let ⟨n, _, _, q⟩ := hkey x hx; ⟨_, q⟩)
          have hown : w.ownsMap P kt nilR e.blk ces.size (.map ((ces.toList.map (rg P kt nilR)).foldr DataW.insert [])) := ⟨ces, cl, g1, F, Nat.le_refl _, rfl⟩
          have hperm := foldr_insert_perm (ces.toList.map (rg P kt nilR))
          have hsz : Maps.size (.map ((ces.toList.map (rg P kt nilR)).foldr DataW.insert []) : DataW Unit) = ces.size := by
            show ((ces.toList.map (rg P kt nilR)).foldr DataW.insert []).length = ces.size
            rw [hperm.length_eq]; simp
          have hik : (strKeys (.map ((ces.toList.map (rg P kt nilR)).foldr DataW.insert []) : DataW Unit)).Perm xs := by
            refine (hperm.map _).trans ?_
            have : ∀ (l : List MapEntry) (xs : List (List UInt8)), l.map MapEntry.key = xs.map encStr → (∀ x ∈ l, ∃ n, x.key = encStr n ∧ keyOf P kt x.key = some (.string n)) → strKeys (.map (l.map (rg P kt nilR)) : DataW Unit) = xs := by
              intro l
              induction l with
              | nil => intro xs h1 _; cases xs with | nil => rfl | cons => simp at h1
              | cons x l ih =>
                intro xs h1 h2
                cases xs with
                | nil => simp at h1
                | cons y ys =>
                  simp only [List.map_cons, List.cons.injEq] at h1
                  obtain ⟨n, k1, k2⟩ := h2 x List.mem_cons_self
                  have hny : n = y := encStr_inj (k1.symm.trans h1.1)
                  subst hny
                  have := ih ys h1.2 (fun x hx => h2 x (List.mem_cons_of_mem _ hx))
                  simp only [strKeys, List.map_cons, List.cons.injEq] at this ⊢
                  exact ⟨by simp [rg, rd, k2, nilR, Go.strOf], this⟩
            have := this ces.toList xs hkeys (fun x hx => let ⟨n, _, q1, q2⟩ := hkey x hx; ⟨n, q1, q2⟩)
            simp only [strKeys] at this
            rw [this]
          refine snd_calls (K.enS _ _) ((K.sorted Bm e.blk ces.size _ nilR w q1 q2 hown (by rw [hsz]; unfold maxLen; omega) (by rw [hsz]; omega)).mono fun ee w' => ?_)
          rintro ⟨vv, ss, rfl, s1, s2, s3, s4⟩
          have hsort : ss.mergeSort (fun x y => decide (x ≤ y)) = ys := sort_only_s ((s1.trans hik).trans hyp.symm) hpw
          rw [hsort] at s2
          have hsl : ss.length = ys.length := by rw [← hsort, List.length_mergeSort]
          rw [hys, List.map_map]
          refine row_of r s4 (by rw [hsl, List.length_map]) s2 ?_ ?_
          · refine VRs.of_get (by simp) fun i v hi => ?_
            rw [List.getElem?_map] at hi ⊢
            cases hq : ys[i]? with
            | none => rw [hq] at hi; cases hi
            | some n => rw [hq] at hi; cases hi; exact ⟨_, rfl, .str _ _ rfl⟩
          · rw [s3]
            constructor
            · intro e; subst e; have : ys = [] := List.eq_nil_of_length_eq_zero (by rw [← hsl]; rfl); rw [this]; rfl
            · intro e; have : ys.length = 0 := by have := congrArg List.length e; simpa using this
              exact List.eq_nil_of_length_eq_zero (by omega)
        · cases hx
      · cases hx
    · cases hx
  · cases hx
end
end
end Abs
end Go.Proofs.YtbjpoelgcehidaaGreatDoor
namespace Go.Proofs.YtbjpoelgcehidaaGreatDoor
namespace Abs
noncomputable section
set_option linter.unusedVariables false
set_option linter.unusedSimpArgs false

def op_mv (x : Opd) : TM → Heap → Option (V × Heap) := fun tm h => match ev tm x with
    | some v => some (v, h)
    | none => none
def op_pick (c a b : Opd) : TM → Heap → Option (V × Heap) := fun tm h => match ev tm c with
    | some (.bool t) => match ev tm (if t then a else b) with
      | some v => some (v, h)
      | none => none
    | _ => none
def op_bad  : TM → Heap → Option (V × Heap) := fun tm h => none
def op_sliceData (x : Opd) : TM → Heap → Option (V × Heap) := fun tm h => match ev tm x with
    | some x => match sliceDataA x with
      | some v => some (v, h)
      | none => none
    | none => none
def op_unsStr (bt : Nat) (x n : Opd) : TM → Heap → Option (V × Heap) := fun tm h => match ev tm x, ev tm n with
    | some x, some n => unsStrA h bt x n
    | _, _ => none
def op_unsP (x : Opd) : TM → Heap → Option (V × Heap) := fun tm h => match ev tm x with
    | some x => if unsPA h x = true then some (x, h) else none
    | none => none
def op_ofUns (u n : Nat) (x : Opd) : TM → Heap → Option (V × Heap) := fun tm h => match ev tm x with
    | some x => if ofUnsA h u n x = true then some (x, h) else none
    | none => none
def op_alloc (ty : Option Nat) (zero : List V) : TM → Heap → Option (V × Heap) := fun tm h => some (.ptr (some (h.size, 0)), h.push (.cells zero (.tip [] 0 ty)))
def op_box (x : Opd) : TM → Heap → Option (V × Heap) := fun tm h => match ev tm x with
    | some v => some (.ptr (some (h.size, 0)), h.push (.cells v.cellsOf (.tip [] 0 none)))
    | none => none
def op_build (zero : List V) (parts : List (Nat × Nat × Opd)) : TM → Heap → Option (V × Heap) := fun tm h => match evParts tm parts with
    | some ps => match fillV zero ps with
      | some cs => some (.agg cs, h)
      | none => none
    | none => none
def op_buildSl (ty : Option Nat) (zero : List V) (len : Nat) (parts : List (Nat × Nat × Opd)) : TM → Heap → Option (V × Heap) := fun tm h => match evParts tm parts with
    | some ps => match fillV zero ps with
      | some cs => some (.slice (some (h.size, 0)) len len, h.push (.cells cs (.tip [] 0 ty)))
      | none => none
    | none => none
def op_load (n : Option Nat) (a : Opd) : TM → Heap → Option (V × Heap) := fun tm h => match ev tm a with
    | some a => match loadA h n a with
      | some v => some (v, h)
      | none => none
    | none => none
def op_store (n : Nat) (a x : Opd) : TM → Heap → Option (V × Heap) := fun tm h => match ev tm a, ev tm x with
    | some a, some x => match storeA h n a x with
      | some h' => some (undefV, h')
      | none => none
    | _, _ => none
def op_nilck (x : Opd) : TM → Heap → Option (V × Heap) := fun tm h => match ev tm x with
    | some (.ptr (some p)) => some (.ptr (some p), h)
    | some (.func (.func f) a b) => some (.func (.func f) a b, h)
    | _ => none
def op_eq (neg : Bool) (d : EqD) (x y : Opd) : TM → Heap → Option (V × Heap) := fun tm h => match ev tm x, ev tm y with
    | some x, some y => match eqA d x y with
      | some b => some (.bool (if neg then !b else b), h)
      | none => none
    | _, _ => none
def op_not (x : Opd) : TM → Heap → Option (V × Heap) := fun tm h => match ev tm x with
    | some (.bool b) => some (.bool (!b), h)
    | _ => none
def op_neg (x : Opd) : TM → Heap → Option (V × Heap) := fun tm h => match ev tm x with
    | some (.int k n) => some (.int k (k.wrap (0 - n)), h)
    | _ => none
def op_inv (x : Opd) : TM → Heap → Option (V × Heap) := fun tm h => match ev tm x with
    | some (.int k n) => some (.int k (k.wrap (BitVec.ofInt k.bits (if k.signed then -1 else k.max) ^^^ BitVec.ofInt k.bits n).toNat), h)
    | _ => none
def op_toInt (k : IntKind) (x : Opd) : TM → Heap → Option (V × Heap) := fun tm h => match ev tm x with
    | some (.int _ n) => some (.int k (k.wrap n), h)
    | _ => none
def op_same (x : Opd) : TM → Heap → Option (V × Heap) := fun tm h => match ev tm x with
    | some (.str s) => some (.str s, h)
    | _ => none
def op_toStr (x : Opd) : TM → Heap → Option (V × Heap) := fun tm h => match ev tm x with
    | some x => match toStrA h x with
      | some v => some (v, h)
      | none => none
    | none => none
def op_toBytes (x : Opd) : TM → Heap → Option (V × Heap) := fun tm h => match ev tm x with
    | some (.str s) => some (.oslice h.size 0 s.length s.length 0, h.push (.cells (bytesV s) (.tip [] 0 none)))
    | _ => none
def op_sliceStr (x : Opd) (lo hi : Option Opd) : TM → Heap → Option (V × Heap) := fun tm h => match ev tm x, evo tm lo, evo tm hi with
    | some x, some lo, some hi => match sliceStrA x lo hi with
      | some v => some (v, h)
      | none => none
    | _, _, _ => none
def op_sliceSl (sz : Nat) (x : Opd) (lo hi mx : Option Opd) : TM → Heap → Option (V × Heap) := fun tm h => match ev tm x, evo tm lo, evo tm hi, evo tm mx with
    | some x, some lo, some hi, some mx => match sliceSlA sz x lo hi mx with
      | some v => some (v, h)
      | none => none
    | _, _, _, _ => none
def op_sliceArr (n sz : Nat) (x : Opd) (lo hi : Option Opd) : TM → Heap → Option (V × Heap) := fun tm h => match ev tm x, evo tm lo, evo tm hi with
    | some x, some lo, some hi => match sliceArrA n sz x lo hi with
      | some v => some (v, h)
      | none => none
    | _, _, _ => none
def op_fieldAddr (off : Nat) (x : Opd) : TM → Heap → Option (V × Heap) := fun tm h => match ev tm x with
    | some (.ptr (some (b, o))) => some (.ptr (some (b, o + off)), h)
    | _ => none
def op_field (off : Nat) (n : Option Nat) (x : Opd) : TM → Heap → Option (V × Heap) := fun tm h => match ev tm x with
    | some (.agg cs) => match aggOf n cs off with
      | some v => some (v, h)
      | none => none
    | _ => none
def op_idxSl (sz : Nat) (x i : Opd) : TM → Heap → Option (V × Heap) := fun tm h => match ev tm x, ev tm i with
    | some x, some i => match idxSlA sz x i with
      | some v => some (v, h)
      | none => none
    | _, _ => none
def op_idxArr (n sz : Nat) (x i : Opd) : TM → Heap → Option (V × Heap) := fun tm h => match ev tm x, ev tm i with
    | some x, some i => match idxArrA n sz x i with
      | some v => some (v, h)
      | none => none
    | _, _ => none
def op_atStr (x i : Opd) : TM → Heap → Option (V × Heap) := fun tm h => match ev tm x, ev tm i with
    | some x, some i => match atStrA x i with
      | some v => some (v, h)
      | none => none
    | _, _ => none
def op_atArr (n : Nat) (sz : Nat) (g : Option Nat) (x : Opd) (i : Opd) : TM → Heap → Option (V × Heap) := fun tm h => match ev tm x, ev tm i with
    | some x, some i => match atArrA n sz g x i with
      | some v => some (v, h)
      | none => none
    | _, _ => none
def op_lenStr (x : Opd) : TM → Heap → Option (V × Heap) := fun tm h => match ev tm x with
    | some (.str s) => some (.int .i64 s.length, h)
    | _ => none
def op_lenSl (x : Opd) : TM → Heap → Option (V × Heap) := fun tm h => match ev tm x with
    | some x => match slLen x with
      | some n => some (.int .i64 n, h)
      | none => none
    | none => none
def op_min2 (x y : Opd) : TM → Heap → Option (V × Heap) := fun tm h => match ev tm x, ev tm y with
    | some (.int k a), some (.int _ b) => some (.int k (if b < a then b else a), h)
    | _, _ => none
def op_max2 (x y : Opd) : TM → Heap → Option (V × Heap) := fun tm h => match ev tm x, ev tm y with
    | some (.int k a), some (.int _ b) => some (.int k (if b > a then b else a), h)
    | _, _ => none
def op_append (sz bytes : Nat) (ty : Option Nat) (x y : Opd) : TM → Heap → Option (V × Heap) := fun tm h => match ev tm x, ev tm y with
    | some x, some y => appendA h sz bytes ty x y
    | _, _ => none
def op_appendS (ty : Option Nat) (x y : Opd) : TM → Heap → Option (V × Heap) := fun tm h => match ev tm x, ev tm y with
    | some x, some y => appendSA h ty x y
    | _, _ => none
def op_copy (sz : Nat) (x y : Opd) : TM → Heap → Option (V × Heap) := fun tm h => match ev tm x, ev tm y with
    | some x, some y => copyA h sz x y
    | _, _ => none
def op_clear (sz : Nat) (zero : List V) (x : Opd) : TM → Heap → Option (V × Heap) := fun tm h => match ev tm x with
    | some x => clearA h sz zero x
    | none => none
def op_makeSl (sz bytes : Nat) (zero : List V) (l c : Opd) : TM → Heap → Option (V × Heap) := fun tm h => match ev tm l, ev tm c with
    | some l, some c => makeSlA h sz bytes zero l c
    | _, _ => none
def op_makeMap  : TM → Heap → Option (V × Heap) := fun tm h => some (.map (some h.size), h.push (.map [] [] 0))
def op_lookup (kk : FK) (zero : V) (ok : Bool) (m k : Opd) : TM → Heap → Option (V × Heap) := fun tm h => match ev tm m, ev tm k with
    | some m, some k => match lookupA h kk zero ok m k with
      | some v => some (v, h)
      | none => none
    | _, _ => none
def op_mapUpd (kk : FK) (m k v : Opd) : TM → Heap → Option (V × Heap) := fun tm h => match ev tm m, ev tm k, ev tm v with
    | some m, some k, some v => match mapUpdA h kk m k v with
      | some h' => some (undefV, h')
      | none => none
    | _, _, _ => none
def op_mapDel (kk : FK) (m k : Opd) : TM → Heap → Option (V × Heap) := fun tm h => match ev tm m, ev tm k with
    | some m, some k => match mapDelA h kk m k with
      | some h' => some (.tuple [], h')
      | none => none
    | _, _ => none
def op_mapLen (m : Opd) : TM → Heap → Option (V × Heap) := fun tm h => match ev tm m with
    | some m => match mapOf h m with
      | some es => some (.int .i64 es.length, h)
      | none => none
    | none => none
def op_mkFn (fn : Fn) (first caps : List Opd) : TM → Heap → Option (V × Heap) := fun tm h => match evs tm first, evs tm caps with
    | some a, some b => some (.func fn a b, h)
    | _, _ => none
def op_extract (i : Nat) (x : Opd) : TM → Heap → Option (V × Heap) := fun tm h => match ev tm x with
    | some (.tuple vs) => match vs[i]? with
      | some v => some (v, h)
      | none => none
    | _ => none
def op_mkIface (t : Nat) (x : Opd) : TM → Heap → Option (V × Heap) := fun tm h => match ev tm x with
    | some v => some (.iface t v, h)
    | none => none
def op_assertT (t : Nat) (x : Opd) : TM → Heap → Option (V × Heap) := fun tm h => match ev tm x with
    | some (.iface t' v) => if t' = t then some (v, h) else none
    | _ => none
def op_isNil (neg : Bool) (x : Opd) : TM → Heap → Option (V × Heap) := fun tm h => match ev tm x with
    | some .nilIface => some (.bool (!neg), h)
    | some (.iface _ _) => some (.bool neg, h)
    | _ => none
def op_minN (mx : Bool) (xs : List Opd) : TM → Heap → Option (V × Heap) := fun tm h => match evs tm xs with
    | some (.int k a :: r) => match minNA mx a r with
      | some m => some (.int k m, h)
      | none => none
    | _ => none
def op_mapEnt (kk : FK) (zero : V) (m k : Opd) : TM → Heap → Option (V × Heap) := fun tm h => match ev tm m, ev tm k with
    | some m, some k => mapEntA h kk zero m k
    | _, _ => none
def op_entSt (m s x : Opd) : TM → Heap → Option (V × Heap) := fun tm h => match ev tm m, ev tm s, ev tm x with
    | some m, some s, some x => match entStA h m s x with
      | some h' => some (undefV, h')
      | none => none
    | _, _, _ => none
def op_rangeM (x : Opd) : TM → Heap → Option (V × Heap) := fun tm h => match ev tm x with
    | some (.map none) => some (.ptr (some (h.size, 0)), h.push (.iter none 0 [] 0))
    | some (.map (some b)) => match h.get b with
      | some (.map _ _ cl) => some (.ptr (some (h.size, 0)), h.push (.iter (some b) cl [] cl))
      | _ => none
    | _ => none
def op_nextM (x : Opd) : TM → Heap → Option (V × Heap) := fun tm h => match ev tm x with
    | some (.ptr (some (r, 0))) => nextA h r
    | _ => none
def op_entM (x : Opd) : TM → Heap → Option (V × Heap) := fun tm h => match ev tm x with
    | some (.ptr (some (r, 0))) => entA h r
    | _ => none
def bin2 (fi : IntKind → Int → IntKind → Int → Option V) (fs : List Nat → List Nat → Option V) (x y : V) : Option V :=
  match x, y with
  | .int k a, .int k' b => fi k a k' b
  | .str a, .str b => fs a b
  | _, _ => none
def bin_addF : V → V → Option V := bin2 (fun k a k' b => if k = k' then some (.int k (k.wrap (a + b))) else none) (fun a b => if a.length + b.length ≤ 4611686018427387904 then some (.str (a ++ b)) else none)
def bin_subF : V → V → Option V := bin2 (fun k a k' b => if k = k' then some (.int k (k.wrap (a - b))) else none) (fun a b => none)
def bin_mulF : V → V → Option V := bin2 (fun k a k' b => if k = k' then some (.int k (k.wrap (a * b))) else none) (fun a b => none)
def bin_quoF : V → V → Option V := bin2 (fun k a k' b => if k = k' ∧ b ≠ 0 then some (.int k (k.wrap (a.tdiv b))) else none) (fun a b => none)
def bin_remF : V → V → Option V := bin2 (fun k a k' b => if k = k' ∧ b ≠ 0 then some (.int k (a.tmod b)) else none) (fun a b => none)
def bin_andF : V → V → Option V := bin2 (fun k a k' b => if k = k' then some (.int k (k.wrap (BitVec.ofInt k.bits a &&& BitVec.ofInt k.bits b).toNat)) else none) (fun a b => none)
def bin_orF : V → V → Option V := bin2 (fun k a k' b => if k = k' then some (.int k (k.wrap (BitVec.ofInt k.bits a ||| BitVec.ofInt k.bits b).toNat)) else none) (fun a b => none)
def bin_xorF : V → V → Option V := bin2 (fun k a k' b => if k = k' then some (.int k (k.wrap (BitVec.ofInt k.bits a ^^^ BitVec.ofInt k.bits b).toNat)) else none) (fun a b => none)
def bin_shlF : V → V → Option V := bin2 (fun k a k' b => shiftA .shl k a b) (fun a b => none)
def bin_shrF : V → V → Option V := bin2 (fun k a k' b => shiftA .shr k a b) (fun a b => none)
def bin_andNotF : V → V → Option V := bin2 (fun k a k' b => if k = k' then some (.int k (k.wrap (BitVec.ofInt k.bits a &&& ~~~ BitVec.ofInt k.bits b).toNat)) else none) (fun a b => none)
def bin_eqlF : V → V → Option V := bin2 (fun k a k' b => if k = k' then some (.bool (a == b)) else none) (fun a b => some (.bool (beqL a b)))
def bin_neqF : V → V → Option V := bin2 (fun k a k' b => if k = k' then some (.bool (a != b)) else none) (fun a b => some (.bool (!beqL a b)))
def bin_lssF : V → V → Option V := bin2 (fun k a k' b => if k = k' then some (.bool (decide (a < b))) else none) (fun a b => some (.bool (lessL a b)))
def bin_leqF : V → V → Option V := bin2 (fun k a k' b => if k = k' then some (.bool (decide (a ≤ b))) else none) (fun a b => some (.bool (lessL a b || beqL a b)))
def bin_gtrF : V → V → Option V := bin2 (fun k a k' b => if k = k' then some (.bool (decide (a > b))) else none) (fun a b => some (.bool (!(lessL a b || beqL a b))))
def bin_geqF : V → V → Option V := bin2 (fun k a k' b => if k = k' then some (.bool (decide (a ≥ b))) else none) (fun a b => some (.bool (!lessL a b)))
def binF (op : BinOp) : V → V → Option V := BinOp.rec (motive := fun _ => V → V → Option V) bin_addF bin_subF bin_mulF bin_quoF bin_remF bin_andF bin_orF bin_xorF bin_shlF bin_shrF bin_andNotF bin_eqlF bin_neqF bin_lssF bin_leqF bin_gtrF bin_geqF op
theorem binF_eq (op : BinOp) (x y : V) : binF op x y = binA op x y := by
  cases op <;> cases x <;> cases y <;> rfl
def op_bin (op : BinOp) (x y : Opd) : TM → Heap → Option (V × Heap) := fun tm h => match ev tm x, ev tm y with
  | some x, some y => match binF op x y with
    | some v => some (v, h)
    | none => none
  | _, _ => none
def op_call (call : CallF) (f : Opd) (args : List Opd) : TM → Heap → Option (V × Heap) := fun tm h => match ev tm f, evs tm args with
  | some (.func (.func f) first caps), some vs => call (.fn f) (first ++ vs ++ caps) h
  | some (.yld b), some vs => call (.yl b) vs h
  | _, _ => none
def op_invoke (call : CallF) (tbl : List (Nat × Nat)) (x : Opd) (args : List Opd) : TM → Heap → Option (V × Heap) := fun tm h => match ev tm x, evs tm args with
  | some (.iface t v), some vs => match methA t tbl with
    | some f => call (.fn f) (v :: vs) h
    | none => none
  | _, _ => none
def op_invokeV (call : CallF) (tbl : List (Nat × Nat)) (tbl2 : List (Nat × Nat × Option Nat)) (x : Opd) (args : List Opd) : TM → Heap → Option (V × Heap) := fun tm h => match ev tm x, evs tm args with
  | some (.iface t v), some vs => match methA t tbl with
    | some f => call (.fn f) (v :: vs) h
    | none => match methV t tbl2 with
      | some (f, g) => match loadA h g v with
        | some u => call (.fn f) (u :: vs) h
        | none => none
      | none => none
  | _, _ => none
def opF (call : CallF) (k : K) : TM → Heap → Option (V × Heap) :=
  K.rec (motive := fun _ => TM → Heap → Option (V × Heap)) op_mv op_pick op_bad op_sliceData op_unsStr op_unsP op_ofUns op_alloc op_box op_build op_buildSl op_load op_store op_nilck op_bin op_eq op_not op_neg op_inv op_toInt op_same op_toStr op_toBytes op_sliceStr op_sliceSl op_sliceArr op_fieldAddr op_field op_idxSl op_idxArr op_atStr op_atArr op_lenStr op_lenSl op_min2 op_max2 op_append op_appendS op_copy op_clear op_makeSl op_makeMap op_lookup op_mapUpd op_mapDel op_mapLen op_mkFn op_extract op_mkIface (op_call call) (op_invoke call) op_assertT op_isNil op_minN op_mapEnt op_entSt (op_invokeV call) op_rangeM op_nextM op_entM k
theorem opF_eq (call : CallF) (k : K) : opF call k = opA call k := by
  cases k <;> try rfl
  case bin op x y =>
    funext tm h
    show op_bin op x y tm h = opK (.bin op x y) tm h
    simp only [op_bin, opK, binF_eq]
    rfl

abbrev R := Option (TM × Heap)
abbrev KK := V → Heap → R
def bindK (o : Option (V × Heap)) : KK → R := Option.rec (motive := fun _ => KK → R) (fun _ => none) (fun p => Prod.rec (motive := fun _ => KK → R) (fun v h κ => κ v h) p) o
def bindV (o : Option V) : (V → R) → R := Option.rec (motive := fun _ => (V → R) → R) (fun _ => none) (fun v κ => κ v) o
def evK (x : Opd) : TM → (V → R) → R := Opd.rec (motive := fun _ => TM → (V → R) → R) (fun i tm κ => bindV (TM.get tm i) κ) (fun v tm κ => κ v) x
theorem evK_eq (x : Opd) (tm : TM) (κ : V → R) : evK x tm κ = bindV (ev tm x) κ := by cases x <;> rfl
def bindL (o : Option (List V)) : (List V → R) → R := Option.rec (motive := fun _ => (List V → R) → R) (fun _ => none) (fun v κ => κ v) o
def evsK (l : List Opd) : TM → (List V → R) → R := List.rec (motive := fun _ => TM → (List V → R) → R) (fun tm κ => κ []) (fun x _ ih tm κ => evK x tm (fun v => ih tm (fun vs => κ (v :: vs)))) l
theorem evsK_eq : ∀ (l : List Opd) (tm : TM) (κ : List V → R), evsK l tm κ = bindL (evs tm l) κ
  | [], tm, κ => rfl
  | x :: l, tm, κ => by
    show evK x tm (fun v => evsK l tm (fun vs => κ (v :: vs))) = _
    rw [evK_eq]
    unfold evs
    cases ev tm x with
    | none => rfl
    | some v =>
      show evsK l tm (fun vs => κ (v :: vs)) = _
      rw [evsK_eq l]
      cases evs tm l <;> rfl
def onInt (v : V) : (IntKind → Int → R) → R → R := V.rec (motive_1 := fun _ => (IntKind → Int → R) → R → R) (motive_2 := fun _ => Unit) (fun _ f d => d) (fun k n f d => f k n) (fun _ f d => d) (fun _ f d => d) (fun _ _ _ f d => d) (fun _ _ _ _ _ f d => d) (fun _ f d => d) (fun _ _ _ _ _ f d => d) (fun f d => d) (fun _ _ _ f d => d) (fun f d => d) (fun _ _ f d => d) (fun _ _ f d => d) (fun _ f d => d) () (fun _ _ _ _ => ()) v
def onPtr (v : V) : (Nat → Nat → R) → R → R := V.rec (motive_1 := fun _ => (Nat → Nat → R) → R → R) (motive_2 := fun _ => Unit) (fun _ f d => d) (fun _ _ f d => d) (fun _ f d => d) (fun a f d => Option.rec (motive := fun _ => (Nat → Nat → R) → R → R) (fun f d => d) (fun p => Prod.rec (motive := fun _ => (Nat → Nat → R) → R → R) (fun b o f d => f b o) p) a f d) (fun _ _ _ f d => d) (fun _ _ _ _ _ f d => d) (fun _ f d => d) (fun _ _ _ _ _ f d => d) (fun f d => d) (fun _ _ _ f d => d) (fun f d => d) (fun _ _ f d => d) (fun _ _ f d => d) (fun _ f d => d) () (fun _ _ _ _ => ()) v
def onBool (v : V) : (Bool → R) → R → R := V.rec (motive_1 := fun _ => (Bool → R) → R → R) (motive_2 := fun _ => Unit) (fun b f d => f b) (fun _ _ f d => d) (fun _ f d => d) (fun _ f d => d) (fun _ _ _ f d => d) (fun _ _ _ _ _ f d => d) (fun _ f d => d) (fun _ _ _ _ _ f d => d) (fun f d => d) (fun _ _ _ f d => d) (fun f d => d) (fun _ _ f d => d) (fun _ _ f d => d) (fun _ f d => d) () (fun _ _ _ _ => ()) v
def onTup (v : V) : (List V → R) → R → R := V.rec (motive_1 := fun _ => (List V → R) → R → R) (motive_2 := fun _ => Unit) (fun _ f d => d) (fun _ _ f d => d) (fun _ f d => d) (fun _ f d => d) (fun _ _ _ f d => d) (fun _ _ _ _ _ f d => d) (fun _ f d => d) (fun _ _ _ _ _ f d => d) (fun f d => d) (fun _ _ _ f d => d) (fun f d => d) (fun _ _ f d => d) (fun vs _ f d => f vs) (fun _ f d => d) () (fun _ _ _ _ => ()) v
def onAgg (v : V) : (List V → R) → R → R := V.rec (motive_1 := fun _ => (List V → R) → R → R) (motive_2 := fun _ => Unit) (fun _ f d => d) (fun _ _ f d => d) (fun _ f d => d) (fun _ f d => d) (fun _ _ _ f d => d) (fun _ _ _ _ _ f d => d) (fun _ f d => d) (fun _ _ _ _ _ f d => d) (fun f d => d) (fun _ _ _ f d => d) (fun f d => d) (fun vs _ f d => f vs) (fun _ _ f d => d) (fun _ f d => d) () (fun _ _ _ _ => ()) v
def callV (v : V) : CallF → List V → Heap → Option (V × Heap) := V.rec (motive_1 := fun _ => CallF → List V → Heap → Option (V × Heap)) (motive_2 := fun _ => Unit) (fun _ call vs h => none) (fun _ _ call vs h => none) (fun _ call vs h => none) (fun _ call vs h => none) (fun _ _ _ call vs h => none) (fun _ _ _ _ _ call vs h => none) (fun _ call vs h => none) (fun fn first caps _ _ call vs h => Fn.rec (motive := fun _ => List V → List V → CallF → List V → Heap → Option (V × Heap)) (fun f first caps call vs h => call (.fn f) (List.append (List.append first vs) caps) h) (fun _ _ _ _ _ _ => none) (fun _ _ _ _ _ _ _ => none) (fun _ _ _ _ _ _ _ _ _ => none) (fun _ _ _ _ _ _ => none) fn first caps call vs h) (fun call vs h => none) (fun _ _ _ call vs h => none) (fun call vs h => none) (fun _ _ call vs h => none) (fun _ _ call vs h => none) (fun b call vs h => call (.yl b) vs h) () (fun _ _ _ _ => ()) v
def kidx (k : IntKind) : Nat := IntKind.rec (motive := fun _ => Nat) 0 1 2 3 4 5 6 7 k
def kmaxN (k : IntKind) : Nat := IntKind.rec (motive := fun _ => Nat) 127 32767 2147483647 9223372036854775807 255 65535 4294967295 18446744073709551615 k
def kindEq (a b : IntKind) : Bool := Nat.beq (kidx a) (kidx b)
theorem kindEq_eq {a b : IntKind} (h : kindEq a b = true) : a = b := by cases a <;> cases b <;> first | rfl | (cases h; done)
theorem wrap_nat {k : IntKind} {n : Nat} (h : Nat.ble n (kmaxN k) = true) : k.wrap (.ofNat n) = .ofNat n := by
  have h := Nat.le_of_ble_eq_true h
  cases k <;> simp only [kmaxN] at h <;> simp [IntKind.wrap, IntKind.signed, IntKind.bits] <;> omega
def wrapF (k : IntKind) (n : Int) : Int := Int.rec (motive := fun _ => IntKind → Int) (fun m k => Bool.rec (motive := fun _ => Int) (k.wrap (.ofNat m)) (.ofNat m) (Nat.ble m (kmaxN k))) (fun m k => k.wrap (.negSucc m)) n k
theorem wrapF_eq (k : IntKind) (n : Int) : wrapF k n = k.wrap n := by
  cases n with
  | negSucc m => rfl
  | ofNat m =>
    show Bool.rec (motive := fun _ => Int) (k.wrap (.ofNat m)) (.ofNat m) (Nat.ble m (kmaxN k)) = _
    cases h : Nat.ble m (kmaxN k) with
    | false => rfl
    | true => exact (wrap_nat h).symm
def nat2 (m n : Int) : (Nat → Nat → R) → R → R := Int.rec (motive := fun _ => Int → (Nat → Nat → R) → R → R) (fun m n f d => Int.rec (motive := fun _ => Nat → (Nat → Nat → R) → R → R) (fun n m f d => f m n) (fun _ m f d => d) n m f d) (fun _ n f d => d) m n
def ii (a b : V) (f : IntKind → Nat → Nat → R) (d : R) : R := onInt a (fun k m => onInt b (fun k' n => Bool.rec (motive := fun _ => R) d (nat2 m n (f k) d) (kindEq k k')) d) d
theorem ii_eq {a b : V} {f : IntKind → Nat → Nat → R} {d : R} (h : ∀ k m n, a = .int k (.ofNat m) → b = .int k (.ofNat n) → f k m n = d) : ii a b f d = d := by
  cases a <;> try rfl
  rename_i k m
  cases b <;> try rfl
  rename_i k' n
  show Bool.rec (motive := fun _ => R) d (nat2 m n (f k) d) (kindEq k k') = d
  cases hk : kindEq k k' with
  | false => rfl
  | true =>
    obtain rfl := kindEq_eq hk
    cases m <;> cases n <;> try rfl
    exact h _ _ _ rfl rfl
def ifB (b : Bool) (x d : R) : R := Bool.rec (motive := fun _ => R) d x b
theorem ifB_eq {b : Bool} {x d : R} (h : b = true → x = d) : ifB b x d = d := by
  cases b with
  | false => rfl
  | true => exact h rfl
theorem bindV_some {o : Option V} {v : V} {κ : V → R} (h : o = some v) : κ v = bindV o κ := by rw [h]; rfl
def k_add (a b : V) (κ : V → R) : R := ii a b (fun k m n => ifB (Nat.ble (Nat.add m n) (kmaxN k)) (κ (.int k (.ofNat (Nat.add m n)))) (bindV (bin_addF a b) κ)) (bindV (bin_addF a b) κ)
theorem k_add_eq (a b : V) (κ : V → R) : k_add a b κ = bindV (binF .add a b) κ := by
  refine ii_eq fun k m n ha hb => ?_
  subst ha; subst hb
  show _ = bindV (binF .add _ _) κ
  exact ifB_eq fun hb => bindV_some (by show (if k = k then _ else _) = _; rw [if_pos rfl]; exact congrArg (fun x => some (V.int k x)) (wrap_nat hb))
def k_sub (a b : V) (κ : V → R) : R := ii a b (fun k m n => ifB (Nat.ble n m) (ifB (Nat.ble m (kmaxN k)) (κ (.int k (.ofNat (Nat.sub m n)))) (bindV (bin_subF a b) κ)) (bindV (bin_subF a b) κ)) (bindV (bin_subF a b) κ)
theorem k_sub_eq (a b : V) (κ : V → R) : k_sub a b κ = bindV (binF .sub a b) κ := by
  refine ii_eq fun k m n ha hb => ?_
  subst ha; subst hb
  show _ = bindV (binF .sub _ _) κ
  exact ifB_eq fun h1 => ifB_eq fun h2 => bindV_some (by show (if k = k then _ else _) = _; rw [if_pos rfl, show (Int.ofNat m - Int.ofNat n) = Int.ofNat (m - n) from (Int.ofNat_sub (Nat.le_of_ble_eq_true h1)).symm]; exact congrArg (fun x => some (V.int k x)) (wrap_nat (Nat.ble_eq_true_of_le (Nat.le_trans (Nat.sub_le _ _) (Nat.le_of_ble_eq_true h2)))))
def k_mul (a b : V) (κ : V → R) : R := bindV (bin_mulF a b) κ
theorem k_mul_eq (a b : V) (κ : V → R) : k_mul a b κ = bindV (binF .mul a b) κ := rfl
def k_quo (a b : V) (κ : V → R) : R := bindV (bin_quoF a b) κ
theorem k_quo_eq (a b : V) (κ : V → R) : k_quo a b κ = bindV (binF .quo a b) κ := rfl
def k_rem (a b : V) (κ : V → R) : R := bindV (bin_remF a b) κ
theorem k_rem_eq (a b : V) (κ : V → R) : k_rem a b κ = bindV (binF .rem a b) κ := rfl
def k_and (a b : V) (κ : V → R) : R := bindV (bin_andF a b) κ
theorem k_and_eq (a b : V) (κ : V → R) : k_and a b κ = bindV (binF .and a b) κ := rfl
def k_or (a b : V) (κ : V → R) : R := bindV (bin_orF a b) κ
theorem k_or_eq (a b : V) (κ : V → R) : k_or a b κ = bindV (binF .or a b) κ := rfl
def k_xor (a b : V) (κ : V → R) : R := bindV (bin_xorF a b) κ
theorem k_xor_eq (a b : V) (κ : V → R) : k_xor a b κ = bindV (binF .xor a b) κ := rfl
def k_shl (a b : V) (κ : V → R) : R := bindV (bin_shlF a b) κ
theorem k_shl_eq (a b : V) (κ : V → R) : k_shl a b κ = bindV (binF .shl a b) κ := rfl
def k_shr (a b : V) (κ : V → R) : R := bindV (bin_shrF a b) κ
theorem k_shr_eq (a b : V) (κ : V → R) : k_shr a b κ = bindV (binF .shr a b) κ := rfl
def k_andNot (a b : V) (κ : V → R) : R := bindV (bin_andNotF a b) κ
theorem k_andNot_eq (a b : V) (κ : V → R) : k_andNot a b κ = bindV (binF .andNot a b) κ := rfl
def k_eql (a b : V) (κ : V → R) : R := ii a b (fun k m n => κ (.bool (Nat.beq m n))) (bindV (bin_eqlF a b) κ)
theorem k_eql_eq (a b : V) (κ : V → R) : k_eql a b κ = bindV (binF .eql a b) κ := by
  refine ii_eq fun k m n ha hb => ?_
  subst ha; subst hb
  show _ = bindV (binF .eql _ _) κ
  exact bindV_some (by show (if k = k then _ else _) = _; rw [if_pos rfl]; congr 2; rw [Bool.eq_iff_iff]; simp; omega)
def k_neq (a b : V) (κ : V → R) : R := ii a b (fun k m n => κ (.bool (Bool.rec true false (Nat.beq m n)))) (bindV (bin_neqF a b) κ)
theorem k_neq_eq (a b : V) (κ : V → R) : k_neq a b κ = bindV (binF .neq a b) κ := by
  refine ii_eq fun k m n ha hb => ?_
  subst ha; subst hb
  show _ = bindV (binF .neq _ _) κ
  exact bindV_some (by show (if k = k then _ else _) = _; rw [if_pos rfl]; congr 2; cases hb : Nat.beq m n with | true => (have := Nat.eq_of_beq_eq_true hb; subst this; simp) | false => (have := Nat.ne_of_beq_eq_false hb; simp; omega))
def k_lss (a b : V) (κ : V → R) : R := ii a b (fun k m n => κ (.bool (Nat.ble (Nat.succ m) n))) (bindV (bin_lssF a b) κ)
theorem k_lss_eq (a b : V) (κ : V → R) : k_lss a b κ = bindV (binF .lss a b) κ := by
  refine ii_eq fun k m n ha hb => ?_
  subst ha; subst hb
  show _ = bindV (binF .lss _ _) κ
  exact bindV_some (by show (if k = k then _ else _) = _; rw [if_pos rfl]; congr 2; rw [Bool.eq_iff_iff]; simp [Nat.ble_eq]; omega)
def k_leq (a b : V) (κ : V → R) : R := ii a b (fun k m n => κ (.bool (Nat.ble m n))) (bindV (bin_leqF a b) κ)
theorem k_leq_eq (a b : V) (κ : V → R) : k_leq a b κ = bindV (binF .leq a b) κ := by
  refine ii_eq fun k m n ha hb => ?_
  subst ha; subst hb
  show _ = bindV (binF .leq _ _) κ
  exact bindV_some (by show (if k = k then _ else _) = _; rw [if_pos rfl]; congr 2; rw [Bool.eq_iff_iff]; simp [Nat.ble_eq])
def k_gtr (a b : V) (κ : V → R) : R := ii a b (fun k m n => κ (.bool (Nat.ble (Nat.succ n) m))) (bindV (bin_gtrF a b) κ)
theorem k_gtr_eq (a b : V) (κ : V → R) : k_gtr a b κ = bindV (binF .gtr a b) κ := by
  refine ii_eq fun k m n ha hb => ?_
  subst ha; subst hb
  show _ = bindV (binF .gtr _ _) κ
  exact bindV_some (by show (if k = k then _ else _) = _; rw [if_pos rfl]; congr 2; rw [Bool.eq_iff_iff]; simp [Nat.ble_eq]; omega)
def k_geq (a b : V) (κ : V → R) : R := ii a b (fun k m n => κ (.bool (Nat.ble n m))) (bindV (bin_geqF a b) κ)
theorem k_geq_eq (a b : V) (κ : V → R) : k_geq a b κ = bindV (binF .geq a b) κ := by
  refine ii_eq fun k m n ha hb => ?_
  subst ha; subst hb
  show _ = bindV (binF .geq _ _) κ
  exact bindV_some (by show (if k = k then _ else _) = _; rw [if_pos rfl]; congr 2; rw [Bool.eq_iff_iff]; simp [Nat.ble_eq])
def binK (op : BinOp) : V → V → (V → R) → R := BinOp.rec (motive := fun _ => V → V → (V → R) → R) k_add k_sub k_mul k_quo k_rem k_and k_or k_xor k_shl k_shr k_andNot k_eql k_neq k_lss k_leq k_gtr k_geq op
theorem binK_eq (op : BinOp) (a b : V) (κ : V → R) : binK op a b κ = bindV (binF op a b) κ := by
  cases op
  · exact k_add_eq a b κ
  · exact k_sub_eq a b κ
  · exact k_mul_eq a b κ
  · exact k_quo_eq a b κ
  · exact k_rem_eq a b κ
  · exact k_and_eq a b κ
  · exact k_or_eq a b κ
  · exact k_xor_eq a b κ
  · exact k_shl_eq a b κ
  · exact k_shr_eq a b κ
  · exact k_andNot_eq a b κ
  · exact k_eql_eq a b κ
  · exact k_neq_eq a b κ
  · exact k_lss_eq a b κ
  · exact k_leq_eq a b κ
  · exact k_gtr_eq a b κ
  · exact k_geq_eq a b κ
def nthV (l : List V) : Nat → Option V := List.rec (motive := fun _ => Nat → Option V) (fun _ => none) (fun a _ ih n => Nat.rec (motive := fun _ => V → (Nat → Option V) → Option V) (fun a ih => some a) (fun m _ a ih => ih m) n a ih) l
theorem nthV_eq : ∀ (l : List V) (n : Nat), nthV l n = l[n]?
  | [], n => by simp [nthV]
  | a :: l, 0 => rfl
  | a :: l, n + 1 => by
    show nthV l n = _
    rw [nthV_eq l n]; simp
def loadO (o : Option Obj) : Option Nat → Nat → (V → R) → R → R := Option.rec (motive := fun _ => Option Nat → Nat → (V → R) → R → R) (fun n o κ d => d)
  (fun ob => Obj.rec (motive := fun _ => Option Nat → Nat → (V → R) → R → R) (fun cs st n o κ d => Option.rec (motive := fun _ => List V → Nat → (V → R) → R → R) (fun cs o κ d => bindV (nthV cs o) κ) (fun n cs o κ d => d) n cs o κ d) (fun _ _ _ n o κ d => d) (fun _ _ _ _ _ _ _ n o κ d => d) (fun n o κ d => d) (fun _ _ _ _ n o κ d => d) (fun n o κ d => d) ob) o
theorem loadO_eq (h : Heap) (n : Option Nat) (b o : Nat) (κ : V → R) : loadO (h.get b) n o κ (bindV (loadA h n (.ptr (some (b, o)))) κ) = bindV (loadA h n (.ptr (some (b, o)))) κ := by
  have e : ∀ ob, h.get b = ob → loadO ob n o κ (bindV (loadA h n (.ptr (some (b, o)))) κ) = bindV (loadA h n (.ptr (some (b, o)))) κ := by
    intro ob hob
    cases ob with
    | none => rfl
    | some ob =>
      cases ob <;> try rfl
      rename_i cs st
      cases n with
      | some n => rfl
      | none =>
        show bindV (nthV cs o) κ = _
        rw [nthV_eq]
        simp only [loadA, Heap.rd, hob]
  exact e _ rfl
def c_mv (x : Opd) : CallF → TM → Heap → KK → R := fun call tm h κ => evK x tm (fun v => κ v h)
theorem c_mv_eq (x : Opd) (call : CallF) (tm : TM) (h : Heap) (κ : KK) : c_mv x call tm h κ = bindK (op_mv x tm h) κ := by
    rw [c_mv, evK_eq]; unfold op_mv; cases ev tm x <;> rfl
def c_pick (c : Opd) (a : Opd) (b : Opd) : CallF → TM → Heap → KK → R := fun call tm h κ => evK c tm (fun v => onBool v (fun t => Bool.rec (motive := fun _ => R) (evK b tm (fun v => κ v h)) (evK a tm (fun v => κ v h)) t) none)
theorem c_pick_eq (c : Opd) (a : Opd) (b : Opd) (call : CallF) (tm : TM) (h : Heap) (κ : KK) : c_pick c a b call tm h κ = bindK (op_pick c a b tm h) κ := by
    rw [c_pick, evK_eq]; unfold op_pick; cases ev tm c with
    | none => rfl
    | some v =>
      cases v <;> try rfl
      rename_i t
      cases t
      · show evK b tm _ = _
        rw [evK_eq]
        show _ = bindK (match ev tm b with | some v => some (v, h) | none => none) κ
        cases ev tm b <;> rfl
      · show evK a tm _ = _
        rw [evK_eq]
        show _ = bindK (match ev tm a with | some v => some (v, h) | none => none) κ
        cases ev tm a <;> rfl
def c_bad  : CallF → TM → Heap → KK → R := fun call tm h κ => bindK (op_bad  tm h) κ
def c_sliceData (x0 : Opd) : CallF → TM → Heap → KK → R := fun call tm h κ => bindK (op_sliceData x0 tm h) κ
def c_unsStr (x0 : Nat) (x1 : Opd) (x2 : Opd) : CallF → TM → Heap → KK → R := fun call tm h κ => bindK (op_unsStr x0 x1 x2 tm h) κ
def c_unsP (x0 : Opd) : CallF → TM → Heap → KK → R := fun call tm h κ => bindK (op_unsP x0 tm h) κ
def c_ofUns (x0 : Nat) (x1 : Nat) (x2 : Opd) : CallF → TM → Heap → KK → R := fun call tm h κ => bindK (op_ofUns x0 x1 x2 tm h) κ
def c_alloc (x0 : Option Nat) (x1 : List V) : CallF → TM → Heap → KK → R := fun call tm h κ => bindK (op_alloc x0 x1 tm h) κ
def c_box (x0 : Opd) : CallF → TM → Heap → KK → R := fun call tm h κ => bindK (op_box x0 tm h) κ
def c_build (x0 : List V) (x1 : List (Nat × Nat × Opd)) : CallF → TM → Heap → KK → R := fun call tm h κ => bindK (op_build x0 x1 tm h) κ
def c_buildSl (x0 : Option Nat) (x1 : List V) (x2 : Nat) (x3 : List (Nat × Nat × Opd)) : CallF → TM → Heap → KK → R := fun call tm h κ => bindK (op_buildSl x0 x1 x2 x3 tm h) κ
def c_load (n : Option Nat) (a : Opd) : CallF → TM → Heap → KK → R := fun call tm h κ => evK a tm (fun v => onPtr v (fun b o => loadO (Heap.get h b) n o (fun v => κ v h) (bindV (loadA h n v) (fun v => κ v h))) none)
theorem c_load_eq (n : Option Nat) (a : Opd) (call : CallF) (tm : TM) (h : Heap) (κ : KK) : c_load n a call tm h κ = bindK (op_load n a tm h) κ := by
    rw [c_load, evK_eq]; unfold op_load; cases ev tm a with
    | none => rfl
    | some v =>
      cases v <;> try rfl
      rename_i p
      cases p with
      | none => rfl
      | some p =>
        obtain ⟨b, o⟩ := p
        refine (loadO_eq h n b o (fun v => κ v h)).trans ?_
        show _ = bindK (match loadA h n (.ptr (some (b, o))) with | some v => some (v, h) | none => none) κ
        cases loadA h n (.ptr (some (b, o))) <;> rfl
def c_store (x0 : Nat) (x1 : Opd) (x2 : Opd) : CallF → TM → Heap → KK → R := fun call tm h κ => bindK (op_store x0 x1 x2 tm h) κ
def c_nilck (x : Opd) : CallF → TM → Heap → KK → R := fun call tm h κ => evK x tm (fun v => onPtr v (fun _ _ => κ v h) (bindK (op_nilck (.c v) tm h) κ))
theorem c_nilck_eq (x : Opd) (call : CallF) (tm : TM) (h : Heap) (κ : KK) : c_nilck x call tm h κ = bindK (op_nilck x tm h) κ := by
    rw [c_nilck, evK_eq]; unfold op_nilck; cases ev tm x with
    | none => rfl
    | some v =>
      cases v <;> try rfl
      rename_i a
      cases a <;> rfl
def c_bin (op : BinOp) (x : Opd) (y : Opd) : CallF → TM → Heap → KK → R := fun call tm h κ => evK x tm (fun a => evK y tm (fun b => binK op a b (fun v => κ v h)))
theorem c_bin_eq (op : BinOp) (x : Opd) (y : Opd) (call : CallF) (tm : TM) (h : Heap) (κ : KK) : c_bin op x y call tm h κ = bindK (op_bin op x y tm h) κ := by
    rw [c_bin, evK_eq]; unfold op_bin; cases ev tm x with
    | none => rfl
    | some a =>
      show evK y tm _ = _
      rw [evK_eq]
      cases ev tm y with
      | none => rfl
      | some b =>
        show binK op a b _ = bindK (match binF op a b with | some v => some (v, h) | none => none) κ
        rw [binK_eq]
        cases binF op a b <;> rfl
def c_eq (x0 : Bool) (x1 : EqD) (x2 : Opd) (x3 : Opd) : CallF → TM → Heap → KK → R := fun call tm h κ => bindK (op_eq x0 x1 x2 x3 tm h) κ
def c_not (x0 : Opd) : CallF → TM → Heap → KK → R := fun call tm h κ => bindK (op_not x0 tm h) κ
def c_neg (x0 : Opd) : CallF → TM → Heap → KK → R := fun call tm h κ => bindK (op_neg x0 tm h) κ
def c_inv (x0 : Opd) : CallF → TM → Heap → KK → R := fun call tm h κ => bindK (op_inv x0 tm h) κ
def c_toInt (k : IntKind) (x : Opd) : CallF → TM → Heap → KK → R := fun call tm h κ => evK x tm (fun v => onInt v (fun _ n => κ (.int k (wrapF k n)) h) none)
theorem c_toInt_eq (k : IntKind) (x : Opd) (call : CallF) (tm : TM) (h : Heap) (κ : KK) : c_toInt k x call tm h κ = bindK (op_toInt k x tm h) κ := by
    rw [c_toInt, evK_eq]; unfold op_toInt; cases ev tm x with
    | none => rfl
    | some v =>
      cases v <;> try rfl
      show κ (.int k (wrapF k _)) h = _
      rw [wrapF_eq]; rfl
def c_same (x0 : Opd) : CallF → TM → Heap → KK → R := fun call tm h κ => bindK (op_same x0 tm h) κ
def c_toStr (x0 : Opd) : CallF → TM → Heap → KK → R := fun call tm h κ => bindK (op_toStr x0 tm h) κ
def c_toBytes (x0 : Opd) : CallF → TM → Heap → KK → R := fun call tm h κ => bindK (op_toBytes x0 tm h) κ
def c_sliceStr (x0 : Opd) (x1 : Option Opd) (x2 : Option Opd) : CallF → TM → Heap → KK → R := fun call tm h κ => bindK (op_sliceStr x0 x1 x2 tm h) κ
def c_sliceSl (x0 : Nat) (x1 : Opd) (x2 : Option Opd) (x3 : Option Opd) (x4 : Option Opd) : CallF → TM → Heap → KK → R := fun call tm h κ => bindK (op_sliceSl x0 x1 x2 x3 x4 tm h) κ
def c_sliceArr (x0 : Nat) (x1 : Nat) (x2 : Opd) (x3 : Option Opd) (x4 : Option Opd) : CallF → TM → Heap → KK → R := fun call tm h κ => bindK (op_sliceArr x0 x1 x2 x3 x4 tm h) κ
def c_fieldAddr (off : Nat) (x : Opd) : CallF → TM → Heap → KK → R := fun call tm h κ => evK x tm (fun v => onPtr v (fun b o => κ (.ptr (some (b, Nat.add o off))) h) none)
theorem c_fieldAddr_eq (off : Nat) (x : Opd) (call : CallF) (tm : TM) (h : Heap) (κ : KK) : c_fieldAddr off x call tm h κ = bindK (op_fieldAddr off x tm h) κ := by
    rw [c_fieldAddr, evK_eq]; unfold op_fieldAddr; cases ev tm x with
    | none => rfl
    | some v =>
      cases v <;> try rfl
      rename_i a
      cases a <;> rfl
def c_field (x0 : Nat) (x1 : Option Nat) (x2 : Opd) : CallF → TM → Heap → KK → R := fun call tm h κ => bindK (op_field x0 x1 x2 tm h) κ
def c_idxSl (x0 : Nat) (x1 : Opd) (x2 : Opd) : CallF → TM → Heap → KK → R := fun call tm h κ => bindK (op_idxSl x0 x1 x2 tm h) κ
def c_idxArr (x0 : Nat) (x1 : Nat) (x2 : Opd) (x3 : Opd) : CallF → TM → Heap → KK → R := fun call tm h κ => bindK (op_idxArr x0 x1 x2 x3 tm h) κ
def c_atStr (x0 : Opd) (x1 : Opd) : CallF → TM → Heap → KK → R := fun call tm h κ => bindK (op_atStr x0 x1 tm h) κ
def c_atArr (x0 : Nat) (x1 : Nat) (x2 : Option Nat) (x3 : Opd) (x4 : Opd) : CallF → TM → Heap → KK → R := fun call tm h κ => bindK (op_atArr x0 x1 x2 x3 x4 tm h) κ
def c_lenStr (x0 : Opd) : CallF → TM → Heap → KK → R := fun call tm h κ => bindK (op_lenStr x0 tm h) κ
def c_lenSl (x0 : Opd) : CallF → TM → Heap → KK → R := fun call tm h κ => bindK (op_lenSl x0 tm h) κ
def c_min2 (x0 : Opd) (x1 : Opd) : CallF → TM → Heap → KK → R := fun call tm h κ => bindK (op_min2 x0 x1 tm h) κ
def c_max2 (x0 : Opd) (x1 : Opd) : CallF → TM → Heap → KK → R := fun call tm h κ => bindK (op_max2 x0 x1 tm h) κ
def c_append (x0 : Nat) (x1 : Nat) (x2 : Option Nat) (x3 : Opd) (x4 : Opd) : CallF → TM → Heap → KK → R := fun call tm h κ => bindK (op_append x0 x1 x2 x3 x4 tm h) κ
def c_appendS (x0 : Option Nat) (x1 : Opd) (x2 : Opd) : CallF → TM → Heap → KK → R := fun call tm h κ => bindK (op_appendS x0 x1 x2 tm h) κ
def c_copy (x0 : Nat) (x1 : Opd) (x2 : Opd) : CallF → TM → Heap → KK → R := fun call tm h κ => bindK (op_copy x0 x1 x2 tm h) κ
def c_clear (x0 : Nat) (x1 : List V) (x2 : Opd) : CallF → TM → Heap → KK → R := fun call tm h κ => bindK (op_clear x0 x1 x2 tm h) κ
def c_makeSl (x0 : Nat) (x1 : Nat) (x2 : List V) (x3 : Opd) (x4 : Opd) : CallF → TM → Heap → KK → R := fun call tm h κ => bindK (op_makeSl x0 x1 x2 x3 x4 tm h) κ
def c_makeMap  : CallF → TM → Heap → KK → R := fun call tm h κ => bindK (op_makeMap  tm h) κ
def c_lookup (x0 : FK) (x1 : V) (x2 : Bool) (x3 : Opd) (x4 : Opd) : CallF → TM → Heap → KK → R := fun call tm h κ => bindK (op_lookup x0 x1 x2 x3 x4 tm h) κ
def c_mapUpd (x0 : FK) (x1 : Opd) (x2 : Opd) (x3 : Opd) : CallF → TM → Heap → KK → R := fun call tm h κ => bindK (op_mapUpd x0 x1 x2 x3 tm h) κ
def c_mapDel (x0 : FK) (x1 : Opd) (x2 : Opd) : CallF → TM → Heap → KK → R := fun call tm h κ => bindK (op_mapDel x0 x1 x2 tm h) κ
def c_mapLen (x0 : Opd) : CallF → TM → Heap → KK → R := fun call tm h κ => bindK (op_mapLen x0 tm h) κ
def c_mkFn (x0 : Fn) (x1 : List Opd) (x2 : List Opd) : CallF → TM → Heap → KK → R := fun call tm h κ => bindK (op_mkFn x0 x1 x2 tm h) κ
def c_extract (i : Nat) (x : Opd) : CallF → TM → Heap → KK → R := fun call tm h κ => evK x tm (fun v => onTup v (fun vs => bindV (nthV vs i) (fun v => κ v h)) none)
theorem c_extract_eq (i : Nat) (x : Opd) (call : CallF) (tm : TM) (h : Heap) (κ : KK) : c_extract i x call tm h κ = bindK (op_extract i x tm h) κ := by
    rw [c_extract, evK_eq]; unfold op_extract; cases ev tm x with
    | none => rfl
    | some v =>
      cases v <;> try rfl
      rename_i vs
      show bindV (nthV vs i) _ = bindK (match vs[i]? with | some v => some (v, h) | none => none) κ
      rw [nthV_eq]
      cases vs[i]? <;> rfl
def c_mkIface (x0 : Nat) (x1 : Opd) : CallF → TM → Heap → KK → R := fun call tm h κ => bindK (op_mkIface x0 x1 tm h) κ
def c_call (f : Opd) (args : List Opd) : CallF → TM → Heap → KK → R := fun call tm h κ => evK f tm (fun fv => evsK args tm (fun vs => bindK (callV fv call vs h) κ))
theorem c_call_eq (f : Opd) (args : List Opd) (call : CallF) (tm : TM) (h : Heap) (κ : KK) : c_call f args call tm h κ = bindK (op_call call f args tm h) κ := by
    rw [c_call, evK_eq]; unfold op_call; cases ev tm f with
    | none => rfl
    | some fv =>
      show evsK args tm _ = _
      rw [evsK_eq]
      cases evs tm args with
      | none => cases fv <;> try rfl
                rename_i fn _ _; cases fn <;> rfl
      | some vs =>
        cases fv <;> try rfl
        rename_i fn first caps; cases fn <;> rfl
def c_invoke (x0 : List (Nat × Nat)) (x1 : Opd) (x2 : List Opd) : CallF → TM → Heap → KK → R := fun call tm h κ => bindK (op_invoke call x0 x1 x2 tm h) κ
def c_assertT (x0 : Nat) (x1 : Opd) : CallF → TM → Heap → KK → R := fun call tm h κ => bindK (op_assertT x0 x1 tm h) κ
def c_isNil (x0 : Bool) (x1 : Opd) : CallF → TM → Heap → KK → R := fun call tm h κ => bindK (op_isNil x0 x1 tm h) κ
def c_minN (x0 : Bool) (x1 : List Opd) : CallF → TM → Heap → KK → R := fun call tm h κ => bindK (op_minN x0 x1 tm h) κ
def c_mapEnt (x0 : FK) (x1 : V) (x2 : Opd) (x3 : Opd) : CallF → TM → Heap → KK → R := fun call tm h κ => bindK (op_mapEnt x0 x1 x2 x3 tm h) κ
def c_entSt (x0 : Opd) (x1 : Opd) (x2 : Opd) : CallF → TM → Heap → KK → R := fun call tm h κ => bindK (op_entSt x0 x1 x2 tm h) κ
def c_invokeV (x0 : List (Nat × Nat)) (x1 : List (Nat × Nat × Option Nat)) (x2 : Opd) (x3 : List Opd) : CallF → TM → Heap → KK → R := fun call tm h κ => bindK (op_invokeV call x0 x1 x2 x3 tm h) κ
def c_rangeM (x0 : Opd) : CallF → TM → Heap → KK → R := fun call tm h κ => bindK (op_rangeM x0 tm h) κ
def c_nextM (x0 : Opd) : CallF → TM → Heap → KK → R := fun call tm h κ => bindK (op_nextM x0 tm h) κ
def c_entM (x0 : Opd) : CallF → TM → Heap → KK → R := fun call tm h κ => bindK (op_entM x0 tm h) κ
def kopK (k : K) : CallF → TM → Heap → KK → R := K.rec (motive := fun _ => CallF → TM → Heap → KK → R) c_mv c_pick c_bad c_sliceData c_unsStr c_unsP c_ofUns c_alloc c_box c_build c_buildSl c_load c_store c_nilck c_bin c_eq c_not c_neg c_inv c_toInt c_same c_toStr c_toBytes c_sliceStr c_sliceSl c_sliceArr c_fieldAddr c_field c_idxSl c_idxArr c_atStr c_atArr c_lenStr c_lenSl c_min2 c_max2 c_append c_appendS c_copy c_clear c_makeSl c_makeMap c_lookup c_mapUpd c_mapDel c_mapLen c_mkFn c_extract c_mkIface c_call c_invoke c_assertT c_isNil c_minN c_mapEnt c_entSt c_invokeV c_rangeM c_nextM c_entM k
theorem kopK_eq (call : CallF) (k : K) (tm : TM) (h : Heap) (κ : KK) : kopK k call tm h κ = bindK (opA call k tm h) κ := by
  rw [← opF_eq]
  cases k <;> first | rfl | exact c_mv_eq _ call tm h κ | exact c_pick_eq _ _ _ call tm h κ | exact c_fieldAddr_eq _ _ call tm h κ | exact c_nilck_eq _ call tm h κ | exact c_load_eq _ _ call tm h κ | exact c_toInt_eq _ _ call tm h κ | exact c_extract_eq _ _ call tm h κ | exact c_bin_eq _ _ _ call tm h κ | exact c_call_eq _ _ call tm h κ
def putK (dst : Option Nat) : TM → (TM → Heap → R) → V → Heap → R := Option.rec (motive := fun _ => TM → (TM → Heap → R) → V → Heap → R) (fun tm ih v h => ih tm h) (fun d tm ih v h => ih (TM.set tm d v) h) dst
def gsK (w : Option Bool) : Option Nat → K → (TM → Heap → R) → CallF → TM → Heap → R := Option.rec (motive := fun _ => Option Nat → K → (TM → Heap → R) → CallF → TM → Heap → R) (fun _ _ _ _ _ _ => none)
  (fun b => Bool.rec (motive := fun _ => Option Nat → K → (TM → Heap → R) → CallF → TM → Heap → R) (fun dst k ih call tm h => putK dst tm ih undefV h) (fun dst k ih call tm h => kopK k call tm h (putK dst tm ih)) b) w
def gdK (g : Option (Nat × Bool)) : Option Nat → K → (TM → Heap → R) → CallF → TM → Heap → R := Option.rec (motive := fun _ => Option Nat → K → (TM → Heap → R) → CallF → TM → Heap → R) (fun dst k ih call tm h => kopK k call tm h (putK dst tm ih))
  (fun g dst k ih call tm h => gsK (wantedA tm (some g)) dst k ih call tm h) g
def stpK (o : AOp) : (TM → Heap → R) → CallF → TM → Heap → R := AOp.rec (motive := fun _ => (TM → Heap → R) → CallF → TM → Heap → R) (fun dst g k ih call tm h => gdK g dst k ih call tm h) o
def lopK (l : List AOp) : CallF → TM → Heap → R := List.rec (motive := fun _ => CallF → TM → Heap → R) (fun call tm h => some (tm, h)) (fun o _ ih call tm h => stpK o (ih call) call tm h) l
def opsF (call : CallF) (l : List AOp) (tm : TM) (h : Heap) : R := lopK l call tm h
theorem putK_eq (dst : Option Nat) (tm : TM) (ih : TM → Heap → R) (v : V) (h : Heap) : putK dst tm ih v h = ih (TM.put tm dst v) h := by cases dst <;> rfl
theorem opsF_eq (call : CallF) : ∀ (l : List AOp) (tm : TM) (h : Heap), opsF call l tm h = runOps call l tm h
  | [], tm, h => rfl
  | ⟨dst, g, k⟩ :: l, tm, h => by
    have run1 : kopK k call tm h (putK dst tm (lopK l call)) = match (match opA call k tm h with | some (v, h') => some (TM.put tm dst v, h') | none => none : Option (TM × Heap)) with
        | some (tm', h') => runOps call l tm' h'
        | none => none := by
      rw [kopK_eq]
      cases opA call k tm h with
      | none => rfl
      | some p =>
        obtain ⟨v, h'⟩ := p
        show putK dst tm (lopK l call) v h' = _
        rw [putK_eq]
        exact opsF_eq call l _ _
    unfold runOps stepOp
    cases g with
    | none => exact run1
    | some g =>
      show gsK (wantedA tm (some g)) dst k (lopK l call) call tm h = _
      cases wantedA tm (some g) with
      | none => rfl
      | some b =>
        cases b with
        | false =>
          show putK dst tm (lopK l call) undefV h = _
          rw [putK_eq]
          exact opsF_eq call l _ _
        | true => exact run1

/-! ### Drawn regions: what reads no memory is not looked at again -/
def okAllF : Nat → List (DOp × Log) → Heap → Bool
  | _, [], _ => true
  | q, (d, l) :: r, hN => (match d.o.k.isC with
    | true => true
    | false => match d.o.k.isPure with
      | true => true
      | false => okTail l q r hN) && okAllF (q + 1) r hN
def traceF (call : CallF) : List DOp → TM → Heap → Option (List (DOp × Log) × TM × Heap)
  | [], tm, h => some ([], tm, h)
  | d :: r, tm, h =>
    match wantedA tm d.o.guard with
    | some false => match traceF call r (TM.put tm d.o.dst undefV) h with
      | some (tr, tm', h') => some ((d, ⟨d.o, false, tm, h, undefV⟩) :: tr, tm', h')
      | none => none
    | some true => match opF call d.o.k tm h with
      | some (v, h2) => match traceF call r (TM.put tm d.o.dst v) h2 with
        | some (tr, tm', h') => some ((d, ⟨d.o, true, tm, h, v⟩) :: tr, tm', h')
        | none => none
      | none => none
    | none => none
theorem traceF_eq (call : CallF) : ∀ (l : List DOp) (tm : TM) (h : Heap), traceF call l tm h = traceDraw call l tm h
  | [], tm, h => rfl
  | d :: l, tm, h => by
    unfold traceF traceDraw
    simp only [opF_eq, traceF_eq call l]
    rfl
theorem okAllF_eq {call : CallF} : ∀ (l : List DOp) (q : Nat) {tm tm' : TM} {h h' : Heap} {tr : List (DOp × Log)} (hN : Heap), traceDraw call l tm h = some (tr, tm', h') → okAllF q tr hN = okAll q tr hN
  | [], q, tm, tm', h, h', tr, hN, hx => by cases hx; rfl
  | d :: l, q, tm, tm', h, h', tr, hN, hx => by
    have key : ∀ (lg : Log) (tr2 : List (DOp × Log)), (∀ h1, d.o.k.isPure = true → d.o.k.isC = false → okLater lg h1 = true) → okAllF (q + 1) tr2 hN = okAll (q + 1) tr2 hN → okAllF q ((d, lg) :: tr2) hN = okAll q ((d, lg) :: tr2) hN := by
      intro lg tr2 h1 h2
      unfold okAllF okAll
      rw [h2]
      congr 1
      cases hc : d.o.k.isC with
      | true => rfl
      | false =>
        cases hp : d.o.k.isPure with
        | true => simp only [Bool.false_or]; exact (okTail_all (fun h2 => h1 h2 hp hc) q tr2 hN).symm
        | false => simp
    unfold traceDraw at hx
    split at hx
    · split at hx
      · rename_i h1; cases hx
        exact key _ _ (fun _ _ _ => rfl) (okAllF_eq l (q + 1) hN h1)
      · cases hx
    · split at hx
      · rename_i v h2 hop
        split at hx
        · rename_i h1; cases hx
          refine key _ _ (fun h3 hp hc => ?_) (okAllF_eq l (q + 1) hN h1)
          have hk : opK d.o.k tm h = some (v, h2) := by
            rw [opA_nc (calls_of_isC hc)] at hop
            exact hop
          have hna : d.o.k.isAlloc = false := by
            cases hkk : d.o.k <;> rw [hkk] at hp <;> first | rfl | (cases hp; done)
          unfold okLater
          simp only [if_true, hna, Bool.false_eq_true, if_false]
          rw [(pure_here hp hk).2 h3]
          exact V.beq_refl v
        · cases hx
      · cases hx
    · cases hx
def drawF (call : CallF) (l : List DOp) (tm : TM) (h : Heap) : Option (TM × Heap) :=
  match traceF call l tm h with
  | some (tr, tm', h') => match okAllF 0 tr h' with
    | true => some (tm', h')
    | false => none
  | none => none
theorem drawF_eq (call : CallF) (l : List DOp) (tm : TM) (h : Heap) : drawF call l tm h = runDraw call l tm h := by
  unfold drawF runDraw
  rw [traceF_eq]
  cases ht : traceDraw call l tm h with
  | none => rfl
  | some p =>
    obtain ⟨tr, tm', h'⟩ := p
    simp only [okAllF_eq l 0 h' ht]
    cases okAll 0 tr h' <;> rfl

abbrev RF := TM → Heap → Option (Ex × TM × Heap)
def seqF (a b : RF) : RF := fun tm h => Option.rec (motive := fun _ => Option (Ex × TM × Heap)) none
  (fun p => Prod.rec (motive := fun _ => Option (Ex × TM × Heap)) (fun e q => Prod.rec (motive := fun _ => Option (Ex × TM × Heap)) (fun tm' h' => Ex.rec (motive := fun _ => Option (Ex × TM × Heap)) (b tm' h') (fun i => some (.exit i, tm', h')) (some (.ret, tm', h')) e) q) p) (a tm h)
def condF (x : Opd) (a b : RF) : RF := fun tm h => match ev tm x with
  | some (.bool t) => Bool.rec (motive := fun _ => Option (Ex × TM × Heap)) (b tm h) (a tm h) t
  | _ => none
def blockF (id : Nat) (c : RF) : RF := fun tm h => match c tm h with
  | some (.exit i, tm', h') => some (if i = id then .normal else .exit i, tm', h')
  | r => r
def loopF1 (again : RF) (c : RF) : RF := fun tm h => match c tm h with
  | some (.normal, tm', h') => again tm' h'
  | r => r
def opsRF (call : CallF) (l : List AOp) : RF := fun tm h => Option.rec (motive := fun _ => Option (Ex × TM × Heap)) none (fun p => Prod.rec (motive := fun _ => Option (Ex × TM × Heap)) (fun tm' h' => some (.normal, tm', h')) p) (opsF call l tm h)
def drawRF (call : CallF) (l : List DOp) : RF := fun tm h => match drawF call l tm h with
  | some (tm', h') => some (.normal, tm', h')
  | none => none
def rangeF (call : CallF) (nt : Nat) (f : Opd) (ps : List Nat) (asg body : AC) : RF := fun tm h => match ev tm f with
  | some (.func (.func f) first caps) =>
    match call (.fn f) (first ++ [.yld (h.size + 1)] ++ caps) ((h.push .dfr).push (.loop .ready none nt tm ps asg body)) with
    | some (_, h') => match h'.get (h.size + 1) with
      | some (.loop st pend _ _ _ _ _) => match st with
        | .busy => none
        | _ => some (exOf pend, pushMark tm h.size, h'.put (h.size + 1) .dead)
      | _ => none
    | none => none
  | _ => none
def defrF (f : Opd) (args : List Opd) : RF := fun tm h => match ev tm f, evs tm args with
  | some (.func (.func f) first caps), some vs => some (.normal, pushD tm (.tuple [.func (.func f) [] [], .tuple (first ++ vs ++ caps)]), h)
  | _, _ => none
def execF (call : CallF) (loopk : LoopF) (a : AC) : RF :=
  AC.rec (motive := fun _ => RF) (fun tm h => some (.normal, tm, h)) (opsRF call) (drawRF call) (fun _ _ a b => seqF a b) (fun x _ _ a b => condF x a b) (fun id _ c => blockF id c)
    (fun c ih => loopF1 (loopk (.loop c)) ih) (fun id tm h => some (.exit id, tm, h)) (fun tm h => some (.ret, tm, h)) (fun _ _ => none) (fun nt f ps asg body _ _ => rangeF call nt f ps asg body) defrF a
theorem execF_eq (call : CallF) (loopk : LoopF) : ∀ (a : AC) (tm : TM) (h : Heap), execF call loopk a tm h = execC call loopk a tm h
  | .skip, tm, h => rfl
  | .ops l, tm, h => by
    show opsRF call l tm h = _
    unfold opsRF execC
    rw [opsF_eq]
    cases runOps call l tm h with
    | none => rfl
    | some p => cases p; rfl
  | .draw l, tm, h => by
    show drawRF call l tm h = _
    unfold drawRF execC
    rw [drawF_eq]
    rfl
  | .seq a b, tm, h => by
    show seqF (execF call loopk a) (execF call loopk b) tm h = _
    unfold seqF execC
    rw [execF_eq call loopk a tm h]
    cases execC call loopk a tm h with
    | none => rfl
    | some p =>
      obtain ⟨e, tm', h'⟩ := p
      cases e with
      | normal => exact execF_eq call loopk b tm' h'
      | exit i => rfl
      | ret => rfl
  | .cond x a b, tm, h => by
    show condF x (execF call loopk a) (execF call loopk b) tm h = _
    unfold condF execC
    cases hv : ev tm x with
    | none => rfl
    | some v =>
      cases v <;> try rfl
      rename_i t
      cases t
      · exact execF_eq call loopk b tm h
      · exact execF_eq call loopk a tm h
  | .block id c, tm, h => by
    show blockF id (execF call loopk c) tm h = _
    unfold blockF execC
    rw [execF_eq call loopk c tm h]
    rfl
  | .loop c, tm, h => by
    show loopF1 (loopk (.loop c)) (execF call loopk c) tm h = _
    unfold loopF1 execC
    rw [execF_eq call loopk c tm h]
    rfl
  | .exit id, tm, h => rfl
  | .ret, tm, h => rfl
  | .bad, tm, h => rfl
  | .range nt f ps asg body, tm, h => rfl
  | .defr f args, tm, h => rfl

def bodyF (C : Cfg) (exec : LoopF) (af : AFunc) (args : List V) (h : Heap) : Option (V × Heap) := callBody C exec af args h
def callF1 (C : Cfg) (exec : LoopF) (c : Cal) (args : List V) (h : Heap) : Option (V × Heap) :=
  Cal.rec (motive := fun _ => Option (V × Heap)) (fun f => runF C exec f args h) (fun b => yieldBody exec b args h) c
def fast (C : Cfg) (n : Nat) : CallF × LoopF :=
  Nat.rec (motive := fun _ => CallF × LoopF) (fun _ _ _ => none, fun _ _ _ => none) (fun _ ih => (callF1 C (execF ih.1 ih.2), execF ih.1 ih.2)) n
theorem fast_eq (C : Cfg) : ∀ n, fast C n = run C n
  | 0 => rfl
  | n + 1 => by
    show (callF1 C (execF (fast C n).1 (fast C n).2), execF (fast C n).1 (fast C n).2) = _
    rw [fast_eq C n]
    have he : execF (run C n).1 (run C n).2 = execC (run C n).1 (run C n).2 := by
      funext a tm h
      exact execF_eq _ _ a tm h
    rw [he]
    simp only [run]
    congr 1
    funext c args h
    cases c <;> rfl
end
end Abs
end Go.Proofs.YtbjpoelgcehidaaGreatDoor
