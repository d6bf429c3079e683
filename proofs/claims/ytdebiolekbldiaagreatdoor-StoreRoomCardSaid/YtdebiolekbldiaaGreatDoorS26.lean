/- Layer 18's references: May, Room, In, Short. Layer 18's references: Short; layer 8's. Layer 8's reference: Choose. What the document's readers of numbers of fixed width answer (R01 without what layer 18 has not). Layer 4's reference: Check, Decode; Locs. Layer 4's reference: Decode; layer 18's: Locs. Layer 4's reference: Decode of nothing; layer 18's: Locs. -/
import Derived.Test.YtdebiolekbldiaaGreatDoorS20
import Derived.Test.YtdebiolekbldiaaGreatDoorB14
namespace Go.Proofs.YtdebiolekbldiaaGreatDoor
namespace Abs
set_option linter.unusedVariables false
set_option linter.unusedSimpArgs false
open Go.RowKit
attribute [local irreducible] WO WC WD StepK Ans Does Runs DoesD
def mayF (slow fast sec : Int) (l : Int × Int) : Bool := if l.2 < 4 then false else if l.1 = 0 then decide (l.2 < slow) else decide (l.2 < fast - (if sec < 2 ∨ fast - 4 < sec then 0 else sec))
def cntM (slow fast sec d : Int) : Nat → Int
 | 0 => 0
 | n + 1 => cntM slow fast sec d n + if mayF slow fast sec (d, n) then 1 else 0
theorem cntM_bd (slow fast sec d : Int) : ∀ n, 0 ≤ cntM slow fast sec d n ∧ cntM slow fast sec d n ≤ n
 | 0 => by simp [cntM]
 | n + 1 => by
  have := cntM_bd slow fast sec d n
  simp only [cntM]; split <;> omega
section
variable {C : Cfg} (S : StdO C)
include S
theorem r18may_ans (h : Heap) (hw : Wf h) (l : Int × Int) (slow fast sec : Int) (hf : 0 ≤ fast ∧ fast ≤ 512) (hs : 0 ≤ sec ∧ sec ≤ 1000) : Ans C 16 [.agg (rn l), iv slow, iv fast, iv sec] h fun r h' => r = .bool (mayF slow fast sec l) ∧ Grow h h' := by
 obtain ⟨d, a⟩ := l
 have hF : C.F 16 = some a16 := S.f rfl
 unfold a16 at hF
 refine Ans.val (fun _ _ => S.s _ _ _ rfl) hF rfl rfl hw (fun h2 g => ?_)
 clear hF
 refine WC.seqO (WO.ops (StepK.box rfl) ?_)
 have cp : Cl (h2.push (.cells [iv d, iv a] (.tip [] 0 none))) h2.size [iv d, iv a] := Cl.new _ _ _
 have g3 := g.push (.cells [iv d, iv a] (.tip [] 0 none))
 change WO C _ _ (h2.push (.cells [iv d, iv a] (.tip [] 0 none))) _
 generalize h2.push (.cells [iv d, iv a] (.tip [] 0 none)) = h3 at *
 generalize h2.size = p at *
 have r0 : h3.rd p 0 = some (iv d) := cp.rd rfl
 have r1 : h3.rd p (0 + 1) = some (iv a) := cp.rd (i := 1) rfl
 refine omv rfl <| WO.nil <| WC.seq <| WC.seqO <| ofa rfl <| old rfl r1 ?_
 by_cases h4 : a < 4
 ·refine obn rfl rfl (ltT h4) <| WO.nil <| WC.cond rfl (fun hc => WC.seqO <| omv rfl <| WO.nil <| WC.ret ⟨trivial, g3, ?_⟩) (fun hc => by cases hc)
  unfold mayF; rw [if_pos h4]; rfl
 refine obn rfl rfl (ltF h4) <| WO.nil <| WC.cond rfl (fun hc => by cases hc) (fun hc => WC.skip <| WC.seq <| WC.seqO <| ofa rfl <| old rfl r0 ?_)
 by_cases h0 : d = 0
 ·refine obn rfl rfl (eqT h0) <| WO.nil <| WC.cond rfl (fun hc => WC.seqO <| ofa rfl <| old rfl r1 <| omv rfl <| obn rfl rfl (show binA .lss (iv a) (iv slow) = some (.bool (decide (a < slow))) from rfl) <| omv rfl <| WO.nil <| WC.ret ⟨trivial, g3, ?_⟩) (fun hc => by cases hc)
  unfold mayF; rw [if_neg h4, if_pos h0]; rfl
 refine obn rfl rfl (eqF h0) <| WO.nil <| WC.cond rfl (fun hc => by cases hc) (fun hc => WC.skip <| ?_)
 refine WC.seqM (M := fun e' h' => Cov [(2, iv fast), (3, iv (if sec < 2 ∨ fast - 4 < sec then 0 else sec)), (4, .ptr (some (p, 0)))] e' ∧ h' = h3) (WC.seqO <| omv rfl ?_) ?_
 ·by_cases h2 : sec < 2
  ·refine obn rfl rfl (ltT h2) <| omv rfl ?_
   (repeat (first | refine omv rfl ?_ | refine ols rfl (by first | with_reducible assumption | rfl) ?_ | refine ofa rfl ?_ | refine oad rfl rfl (by omega) ?_ | refine osb rfl rfl (by omega) ?_ | refine obn rfl rfl rfl ?_ | refine opt rfl rfl ?_ | refine opf rfl rfl ?_ | refine ont rfl ?_ | refine oeq rfl rfl rfl ?_ | refine oex rfl rfl ?_ | refine obu rfl rfl ?_ | refine ofd rfl rfl ?_ | refine olt rfl ?_ | refine onk rfl ?_ | refine old rfl (by first | with_reducible assumption | rfl) ?_ | refine WO.run rfl ?_ | refine WO.skip rfl rfl ?_ | refine WO.skipu rfl ?_))
   refine WO.nil <| WC.cond rfl (fun hc => WC.ops <| omv rfl <| WO.nil ⟨Cov.cons rfl (Cov.cons ?_ (Cov.cons rfl (Cov.nil _))), rfl⟩) (fun hc => by cases hc)
   rw [if_pos (.inl h2)]; rfl
  refine obn rfl rfl (ltF h2) <| omv rfl <| WO.run rfl <| omv rfl <| WO.run rfl <| omv rfl <| WO.run rfl <| osb rfl rfl (by omega) <| WO.run rfl ?_
  by_cases h5 : fast - 4 < sec
  ·refine obn rfl rfl (gtT h5) <| opf rfl rfl <| WO.nil <| WC.cond rfl (fun hc => WC.ops <| omv rfl <| WO.nil ⟨Cov.cons rfl (Cov.cons ?_ (Cov.cons rfl (Cov.nil _))), rfl⟩) (fun hc => by cases hc)
   rw [if_pos (.inr h5)]; rfl
  ·refine obn rfl rfl (gtF h5) <| opf rfl rfl <| WO.nil <| WC.cond rfl (fun hc => by cases hc) (fun hc => WC.skip ⟨Cov.cons rfl (Cov.cons ?_ (Cov.cons rfl (Cov.nil _))), rfl⟩)
   rw [if_neg (by omega)]; rfl
 ·rintro e' h' ⟨hcov, rfl⟩
  refine WC.cov hcov <| WC.seqO <| ofa rfl <| old rfl r1 <| omv rfl <| omv rfl <| osb rfl rfl (by split <;> omega) <| obn rfl rfl rfl <| omv rfl <| WO.nil <| WC.ret ⟨trivial, g3, ?_⟩
  unfold mayF; rw [if_neg h4, if_neg h0]; rfl
theorem r18room_ans (h : Heap) (hw : Wf h) (slow fast sec : Int) (hf : 0 ≤ fast ∧ fast ≤ 512) (hs : 0 ≤ sec ∧ sec ≤ 1000) : Ans C 14 [iv slow, iv fast, iv sec] h fun r h' => r = .tuple [iv (cntM slow fast sec 0 512), iv (cntM slow fast sec 1 512)] ∧ Grow h h' := by
 have hF : C.F 14 = some a14 := S.f rfl
 unfold a14 at hF
 refine Ans.val (fun _ _ => S.s _ _ _ rfl) hF rfl rfl hw (fun h2 g => ?_)
 clear hF
 refine WC.seqO <| omv rfl <| omv rfl <| WO.nil <| WC.seqO <| omv rfl <| WO.nil <| WC.seqO <| omv rfl <| WO.nil <| WC.seq <| WC.seqO <| omv rfl <| WO.nil <| WC.block ?_
 refine WC.loop (σ := Nat) (fun p => [(0, iv slow), (1, iv fast), (2, iv sec), (8, iv (cntM slow fast sec 0 p)), (9, iv (cntM slow fast sec 1 p)), (10, iv p)]) (fun p h' => p ≤ 512 ∧ Grow h h') (fun p => 512 - p) 0 (Cov.cons rfl (Cov.cons rfl (Cov.cons rfl (Cov.cons rfl (Cov.cons rfl (Cov.cons rfl (Cov.nil _))))))) ⟨by omega, g⟩ ?_
 rintro p h3 ⟨hp, g3⟩
 refine WC.seq <| WC.seqO <| omv rfl ?_
 have b0 := cntM_bd slow fast sec 0 p
 have b1 := cntM_bd slow fast sec 1 p
 by_cases hlt : p < 512
 ·refine obn rfl rfl (ltT (by omega)) <| WO.nil <| WC.cond rfl (fun hc => WC.skip ?_) (fun hc => by cases hc)
  refine WC.seq <| WC.block ?_
  refine WC.seqM (M := fun e' h' => Cov [(0, iv slow), (1, iv fast), (2, iv sec), (8, iv (cntM slow fast sec 0 (p + 1))), (9, iv (cntM slow fast sec 1 p)), (10, iv p)] e' ∧ Grow h h') (WC.seqO ?_) ?_
  ·refine omv rfl <| obu rfl rfl <| omv rfl <| omv rfl <| omv rfl ?_
   refine WO.call rfl rfl (r18may_ans S h3 g3.wf (0, p) slow fast sec hf hs) ?_
   rintro _ h4 ⟨rfl, g4⟩
   refine WO.nil <| WC.cond rfl (fun hc => WC.ops <| omv rfl <| oad rfl rfl (by omega) <| omv rfl <| WO.nil ⟨Cov.cons rfl (Cov.cons rfl (Cov.cons rfl (Cov.cons ?_ (Cov.cons rfl (Cov.cons rfl (Cov.nil _)))))), g3.trans g4⟩) (fun hc => WC.skip ⟨Cov.cons rfl (Cov.cons rfl (Cov.cons rfl (Cov.cons ?_ (Cov.cons rfl (Cov.cons rfl (Cov.nil _)))))), g3.trans g4⟩)
   ·simp only [cntM, hc, if_true]; rfl
   ·simp only [cntM, hc]; simp [Env.get]
  ·rintro e' h4 ⟨hcov, g4⟩
   refine WC.cov hcov ?_
   have b0' := cntM_bd slow fast sec 0 (p + 1)
   refine WC.seqO <| omv rfl <| obu rfl rfl <| omv rfl <| omv rfl <| omv rfl ?_
   refine WO.call rfl rfl (r18may_ans S h4 g4.wf (1, p) slow fast sec hf hs) ?_
   rintro _ h5 ⟨rfl, g5⟩
   have hfin : ∀ e2, Cov [(0, iv slow), (1, iv fast), (2, iv sec), (8, iv (cntM slow fast sec 0 (p + 1))), (9, iv (cntM slow fast sec 1 (p + 1))), (10, iv p)] e2 → WC C (.ops [⟨(some 13), none, .mv (.t 10)⟩, ⟨(some 14), none, .bin .add (.t 13) (.c (.int .i64 (1)))⟩, ⟨(some 10), none, .mv (.t 14)⟩]) e2 h5 (fun x e' h' => match x with | .normal => ∃ s', Cov [(0, iv slow), (1, iv fast), (2, iv sec), (8, iv (cntM slow fast sec 0 s')), (9, iv (cntM slow fast sec 1 s')), (10, iv (s' : Nat))] e' ∧ (s' ≤ 512 ∧ Grow h h') ∧ 512 - s' < 512 - p | x => False) := fun e2 hc2 =>
    WC.cov hc2 <| WC.ops <| omv rfl <| oad rfl rfl (by omega) <| omv rfl <| WO.nil ⟨p + 1, Cov.cons rfl (Cov.cons rfl (Cov.cons rfl (Cov.cons rfl (Cov.cons rfl (Cov.cons rfl (Cov.nil _)))))), ⟨by omega, g4.trans g5⟩, by omega⟩
   refine WO.nil <| WC.cond rfl (fun hc => WC.ops <| omv rfl <| oad rfl rfl (by omega) <| omv rfl <| WO.nil ((hfin _ (Cov.cons rfl (Cov.cons rfl (Cov.cons rfl (Cov.cons rfl (Cov.cons ?_ (Cov.cons rfl (Cov.nil _)))))))).mono ?_)) (fun hc => WC.skip ((hfin _ (Cov.cons rfl (Cov.cons rfl (Cov.cons rfl (Cov.cons rfl (Cov.cons ?_ (Cov.cons rfl (Cov.nil _)))))))).mono ?_))
   ·simp only [cntM, hc, if_true]; rfl
   ·intro x e3 h3 hx; cases x <;> first | exact hx | exact hx.elim
   ·simp only [cntM, hc]; simp [Env.get]
   ·intro x e3 h3 hx; cases x <;> first | exact hx | exact hx.elim
 ·obtain rfl : p = 512 := by omega
  exact obn rfl rfl (ltF (by omega)) <| WO.nil <| WC.cond rfl (fun hc => by cases hc) (fun hc => WC.exit <| WC.seqO <| omv rfl <| omv rfl <| omv rfl <| omv rfl <| WO.nil <| WC.ret ⟨trivial, g3, rfl⟩)
theorem r18in_ans (h : Heap) (hw : Wf h) (y : V) (L : List (Int × Int)) (sy : Sl h 2 y (L.map rn)) (hL : L.length ≤ 100000) (x : Int × Int) : Ans C 15 [y, .agg (rn x)] h fun r h' => r = .bool (L.contains x) ∧ Grow h h' := by
 obtain ⟨d, a⟩ := x
 have hF : C.F 15 = some a15 := S.f rfl
 unfold a15 at hF
 refine Ans.val (fun _ _ => S.s _ _ _ rfl) hF rfl rfl hw (fun h2 g => ?_)
 clear hF
 have hyl : slLen y = some L.length := by have := sy.len; simpa using this
 refine WC.seqO (WO.ops (StepK.box rfl) ?_)
 have cp : Cl (h2.push (.cells [iv d, iv a] (.tip [] 0 none))) h2.size [iv d, iv a] := Cl.new _ _ _
 have g3 := g.push (.cells [iv d, iv a] (.tip [] 0 none))
 change WO C _ _ (h2.push (.cells [iv d, iv a] (.tip [] 0 none))) _
 generalize h2.push (.cells [iv d, iv a] (.tip [] 0 none)) = h3 at *
 generalize h2.size = p at *
 have r2 : h3.rds p 0 2 = some [iv d, iv a] := cp.rds rfl
 refine omv rfl <| WO.nil <| WC.seq <| WC.seqO <| omv rfl <| WO.nil <| WC.block ?_
 refine WC.loop (σ := Nat) (fun j => [(0, y), (3, .ptr (some (p, 0))), (5, iv j)]) (fun j h' => j ≤ L.length ∧ h' = h3 ∧ (L.take j).contains (d, a) = false) (fun j => L.length - j) 0 (Cov.cons rfl (Cov.cons rfl (Cov.cons rfl (Cov.nil _)))) ⟨by omega, rfl, by simp⟩ ?_
 rintro j h' ⟨hj, hh, hI⟩
 rw [hh]
 refine WC.seq <| WC.seqO <| omv rfl <| omv rfl <| ols rfl hyl ?_
 by_cases hlt : j < L.length
 ·refine obn rfl rfl (ltT (by omega)) <| WO.nil <| WC.cond rfl (fun hc => WC.skip ?_) (fun hc => by cases hc)
  obtain ⟨c, o, k1, k2⟩ := (sy.grow g3).at (i := j) (by simpa using hlt)
  rw [List.getElem_map] at k2
  have htk : L.take (j + 1) = L.take j ++ [L[j]] := by rw [List.take_succ_eq_append_getElem hlt]
  have hmem : L[j] ∈ L := List.getElem_mem hlt
  generalize L[j] = l at *
  obtain ⟨ld, la⟩ := l
  refine WC.seq <| WC.block <| WC.seqD <| dmv rfl <| dmv rfl <| WD.pure (StepK.idxSl rfl rfl k1) rfl <| WD.loadN rfl k2 <| WD.loadN rfl r2 <| deq rfl rfl (eq_at d a (ld, la, [])) <| WD.nil (by repeat (first | exact trivial | refine ⟨by with_reducible assumption, ?_⟩)) ?_
  refine WC.cond rfl (fun hc => WC.seqO <| omv rfl <| WO.nil <| WC.ret ⟨trivial, g3, ?_⟩) (fun hc => WC.skip <| WC.ops <| omv rfl <| oad rfl rfl (by omega) <| omv rfl <| WO.nil ⟨j + 1, Cov.cons rfl (Cov.cons rfl (Cov.cons rfl (Cov.nil _))), ⟨by omega, rfl, ?_⟩, by omega⟩)
  ·have hc : isAt d a (ld, la, []) = true := hc
   have e : L.contains (d, a) = true := by
    rw [List.contains_iff_mem]
    simp [isAt] at hc
    rw [← hc.1, ← hc.2]; exact hmem
   rw [e]; rfl
  ·have hc : isAt d a (ld, la, []) = false := hc
   rw [htk]
   rw [Bool.eq_false_iff] at hI ⊢
   rw [Ne, List.contains_iff_mem] at hI ⊢
   intro q
   rcases List.mem_append.1 q with q | q
   ·exact hI q
   ·have := List.mem_singleton.1 q
    simp only [Prod.mk.injEq] at this
    simp [isAt, this.1, this.2] at hc
 ·refine obn rfl rfl (ltF (by omega)) <| WO.nil <| WC.cond rfl (fun hc => by cases hc) (fun hc => WC.exit <| WC.seqO <| omv rfl <| WO.nil <| WC.ret ⟨trivial, g3, ?_⟩)
  rw [List.take_of_length_le (by omega)] at hI
  rw [hI]; rfl
end
end Abs
end Go.Proofs.YtdebiolekbldiaaGreatDoor
namespace Go.Proofs.YtdebiolekbldiaaGreatDoor
namespace Abs
set_option linter.unusedVariables false
set_option linter.unusedSimpArgs false
open Go.RowKit
attribute [local irreducible] WO WC WD StepK Ans Does Runs DoesD
abbrev strs (ts : List (List Nat)) : List (List V) := ts.map fun t => [V.str t]
def shortF (ts : List (List Nat)) (many most : Int) : Bool := ts.all (fun t => decide ((t.length : Int) ≤ most)) && decide ((ts.length : Int) ≤ many)
section
variable {C : Cfg} (S : StdO C)
include S
theorem r18short_ans (h : Heap) (hw : Wf h) (y : V) (ts : List (List Nat)) (sy : Sl h 1 y (strs ts)) (hl : ts.length ≤ 9223372036854775807) (many most : Int) : Ans C 26 [y, iv many, iv most] h fun r h' => r = .bool (shortF ts many most) ∧ Grow h h' := by
 have hF : C.F 26 = some a26 := S.f rfl
 unfold a26 at hF
 refine Ans.val (fun _ _ => S.s _ _ _ rfl) hF rfl rfl hw (fun h2 g => ?_)
 clear hF
 have hyl : slLen y = some ts.length := by have := sy.len; simpa using this
 refine WC.seqO <| omv rfl <| WO.nil <| WC.seq <| WC.seqO <| omv rfl <| WO.nil <| WC.block ?_
 refine WC.loop (σ := Nat) (fun j => [(0, y), (1, iv many), (2, iv most), (7, iv j)]) (fun j h' => j ≤ ts.length ∧ h' = h2 ∧ (ts.take j).all (fun t => decide ((t.length : Int) ≤ most)) = true) (fun j => ts.length - j) 0 (Cov.cons rfl (Cov.cons rfl (Cov.cons rfl (Cov.cons rfl (Cov.nil _))))) ⟨by omega, rfl, by simp⟩ ?_
 rintro j h' ⟨hj, hh, hI⟩
 rw [hh]
 refine WC.seq <| WC.seqO <| omv rfl <| omv rfl <| ols rfl hyl ?_
 by_cases hlt : j < ts.length
 ·refine obn rfl rfl (ltT (by omega)) <| WO.nil <| WC.cond rfl (fun hc => WC.skip ?_) (fun hc => by cases hc)
  obtain ⟨c, o, k1, k2⟩ := (sy.grow g).at (i := j) (by simpa using hlt)
  rw [List.getElem_map] at k2
  have htk : ts.take (j + 1) = ts.take j ++ [ts[j]] := by rw [List.take_succ_eq_append_getElem hlt]
  have hmem : ts[j] ∈ ts := List.getElem_mem hlt
  generalize ts[j] = t at *
  have k3 : h2.rd c o = some (.str t) := rds_rd k2 (j := 0) rfl
  refine WC.seq <| WC.block <| WC.seqO <| omv rfl <| omv rfl <| WO.ops (StepK.idxSl rfl rfl k1) <| old rfl k3 <| olt rfl <| omv rfl ?_
  by_cases hm : most < (t.length : Int)
  ·refine obn rfl rfl (gtT hm) <| WO.nil <| WC.cond rfl (fun hc => WC.seqO <| omv rfl <| WO.nil <| WC.ret ⟨trivial, g, ?_⟩) (fun hc => by cases hc)
   have : ts.all (fun t => decide ((t.length : Int) ≤ most)) = false := by
    rw [List.all_eq_false]
    exact ⟨t, hmem, by simp; omega⟩
   unfold shortF
   rw [this]; rfl
  ·refine obn rfl rfl (gtF hm) <| WO.nil <| WC.cond rfl (fun hc => by cases hc) (fun hc => WC.skip <| WC.ops <| omv rfl <| oad rfl rfl (by omega) <| omv rfl <| WO.nil ⟨j + 1, Cov.cons rfl (Cov.cons rfl (Cov.cons rfl (Cov.cons rfl (Cov.nil _)))), ⟨by omega, rfl, ?_⟩, by omega⟩)
   rw [htk, List.all_append, hI]
   simp; omega
 ·refine obn rfl rfl (ltF (by omega)) <| WO.nil <| WC.cond rfl (fun hc => by cases hc) (fun hc => WC.exit <| WC.seqO <| omv rfl <| ols rfl hyl <| omv rfl <| obn rfl rfl (show binA .leq (iv (ts.length : Int)) (iv many) = some (.bool (decide ((ts.length : Int) ≤ many))) from rfl) <| omv rfl <| WO.nil <| WC.ret ⟨trivial, g, ?_⟩)
  rw [List.take_of_length_le (by omega)] at hI
  unfold shortF
  rw [hI]; rfl
theorem r08in_ans (h : Heap) (hw : Wf h) (n m : Int) : Ans C 47 [iv n, iv m] h fun v h' => v = .bool (decide (0 ≤ n ∧ n ≤ m)) ∧ Grow h h' := by
 have hF : C.F 47 = some a47 := S.f rfl
 unfold a47 at hF
 refine Ans.val (fun _ _ => S.s _ _ _ rfl) hF rfl rfl hw fun h2 g => ?_
 clear hF
 refine WC.seqO <| omv rfl <| WO.nil <| WC.seqO <| omv rfl ?_
 by_cases hc : 0 ≤ n
 ·refine obn rfl rfl (geT hc) <| omv rfl <| WO.run rfl <| omv rfl <| WO.run rfl <| omv rfl <| WO.run rfl <| obn rfl rfl (show binA .leq (iv n) (iv m) = some (.bool (decide (n ≤ m))) from rfl) <| opt rfl rfl <| omv rfl <| WO.nil (WC.ret ⟨trivial, g, ?_⟩)
  show some (V.bool (decide (n ≤ m))) = some (.bool (decide (0 ≤ n ∧ n ≤ m)))
  congr 2
  exact decide_eq_decide.2 ⟨fun q => ⟨hc, q⟩, fun q => q.2⟩
 ·refine obn rfl rfl (geF hc) <| omv rfl <| WO.skip rfl rfl <| WO.skip rfl rfl <| WO.skip rfl rfl <| opf rfl rfl <| omv rfl <| WO.nil (WC.ret ⟨trivial, g, ?_⟩)
  show some (V.bool false) = some (.bool (decide (0 ≤ n ∧ n ≤ m)))
  rw [decide_eq_false (by omega)]
theorem r08check_ok (h : Heap) (hw : Wf h) (P : Pol) (hP : P.ok) : Ans C 46 [.agg P.v] h fun r h' => r = iv 0 ∧ Grow h h' := by
 have hF : C.F 46 = some a46 := S.f rfl
 unfold a46 at hF
 refine Ans.val (fun _ _ => S.s _ _ _ rfl) hF rfl rfl hw fun h2 g => ?_
 clear hF
 refine WC.seqO (WO.ops (StepK.box rfl) ?_)
 have cp : Cl (h2.push (.cells P.v (.tip [] 0 none))) h2.size P.v := Cl.new _ _ _
 have g3 := g.push (.cells P.v (.tip [] 0 none))
 change WO C _ _ (h2.push (.cells P.v (.tip [] 0 none))) _
 generalize h2.push (.cells P.v (.tip [] 0 none)) = h3 at *
 generalize h2.size = p at *
 refine omv rfl <| WO.nil <| WC.seq <| WC.seqO <| ofa rfl <| old rfl (cp.rd (i := 2) rfl) ?_
 refine WO.call rfl rfl (r08in_ans S h3 g3.wf P.small 256) ?_
 rintro _ h4 ⟨rfl, g34⟩
 rw [decide_eq_true hP.1]
 have g4 := g3.trans g34
 have cp4 := cp.grow g34
 refine ont rfl <| omv rfl <| WO.run rfl <| ofa rfl <| WO.run rfl <| old rfl (cp4.rd (i := 3) rfl) <| WO.run rfl ?_
 refine WO.call rfl rfl (r08in_ans S h4 g4.wf P.arc 64) ?_
 rintro _ h5 ⟨rfl, g45⟩
 rw [decide_eq_true hP.2.1]
 have g5 := g4.trans g45
 have cp5 := cp4.grow g45
 refine WO.run rfl <| ont rfl <| opf rfl rfl <| omv rfl <| WO.run rfl <| ofa rfl <| WO.run rfl <| old rfl (cp5.rd (i := 4) rfl) <| WO.run rfl ?_
 refine WO.call rfl rfl (r08in_ans S h5 g5.wf P.sec 508) ?_
 rintro _ h6 ⟨rfl, g56⟩
 rw [decide_eq_true hP.2.2]
 exact WO.run rfl <| ont rfl <| opf rfl rfl <| WO.nil <| WC.cond rfl (fun hc => by cases hc) (fun hc => WC.skip <| WC.seqO <| omv rfl <| WO.nil <| WC.ret ⟨trivial, g5.trans g56, rfl⟩)
def wantsF (P : Pol) (kind size : Int) : Bool := if kind = 0 then P.fast else !decide (P.small = 0) && decide (size ≤ P.small)
theorem r08wants_ans (h : Heap) (hw : Wf h) (P : Pol) (kind size : Int) : Ans C 48 [.agg P.v, iv kind, iv size] h fun r h' => r = .bool (wantsF P kind size) ∧ Grow h h' := by
 have hF : C.F 48 = some a48 := S.f rfl
 unfold a48 at hF
 refine Ans.val (fun _ _ => S.s _ _ _ rfl) hF rfl rfl hw fun h2 g => ?_
 clear hF
 refine WC.seqO (WO.ops (StepK.box rfl) ?_)
 have cp : Cl (h2.push (.cells P.v (.tip [] 0 none))) h2.size P.v := Cl.new _ _ _
 have g3 := g.push (.cells P.v (.tip [] 0 none))
 change WO C _ _ (h2.push (.cells P.v (.tip [] 0 none))) _
 generalize h2.push (.cells P.v (.tip [] 0 none)) = h3 at *
 generalize h2.size = p at *
 refine omv rfl <| WO.nil <| WC.seq <| WC.seqO <| omv rfl ?_
 by_cases hk : kind = 0
 ·refine obn rfl rfl (eqT hk) <| WO.nil <| WC.cond rfl (fun hc => WC.seqO <| ofa rfl <| old rfl (cp.rd (i := 0) rfl) <| omv rfl <| WO.nil <| WC.ret ⟨trivial, g3, ?_⟩) (fun hc => by cases hc)
  unfold wantsF; rw [if_pos hk]; rfl
 refine obn rfl rfl (eqF hk) <| WO.nil <| WC.cond rfl (fun hc => by cases hc) (fun hc => WC.skip <| WC.seqO <| ofa rfl <| old rfl (cp.rd (i := 2) rfl) ?_)
 by_cases h0 : P.small = 0
 ·refine obn rfl rfl (neF h0) <| omv rfl ?_
  (repeat (first | refine omv rfl ?_ | refine ols rfl (by first | with_reducible assumption | rfl) ?_ | refine ofa rfl ?_ | refine oad rfl rfl (by omega) ?_ | refine osb rfl rfl (by omega) ?_ | refine obn rfl rfl rfl ?_ | refine opt rfl rfl ?_ | refine opf rfl rfl ?_ | refine ont rfl ?_ | refine oeq rfl rfl rfl ?_ | refine oex rfl rfl ?_ | refine obu rfl rfl ?_ | refine ofd rfl rfl ?_ | refine olt rfl ?_ | refine onk rfl ?_ | refine old rfl (by first | with_reducible assumption | rfl) ?_ | refine WO.run rfl ?_ | refine WO.skip rfl rfl ?_ | refine WO.skipu rfl ?_))
  refine WO.nil <| WC.ret ⟨trivial, g3, ?_⟩
  unfold wantsF; rw [if_neg hk, h0]; rfl
 ·refine obn rfl rfl (neT h0) <| omv rfl <| WO.run rfl <| omv rfl <| WO.run rfl <| ofa rfl <| WO.run rfl <| old rfl (cp.rd (i := 2) rfl) <| WO.run rfl <| obn rfl rfl (show binA .leq (iv size) (iv P.small) = some (.bool (decide (size ≤ P.small))) from rfl) <| opt rfl rfl <| omv rfl <| WO.nil <| WC.ret ⟨trivial, g3, ?_⟩
  unfold wantsF; rw [if_neg hk, decide_eq_false h0]; rfl
end
end Abs
end Go.Proofs.YtdebiolekbldiaaGreatDoor
namespace Go.Proofs.YtdebiolekbldiaaGreatDoor
namespace Abs
set_option linter.unusedVariables false
set_option linter.unusedSimpArgs false
open Go.RowKit
attribute [local irreducible] WO WC WD StepK Ans Does Runs DoesD
def chooseR (P : Pol) (kind size a b : Int) : List Int × Int :=
 if kind < 0 ∨ 1 < kind then ([], 1)
 else if wantsF P kind size = true ∧ 0 < b then (if kind = 0 ∧ P.mirror = true ∧ 0 < a then ([1, 0], 0) else ([1], 0))
 else if 0 < a then ([0], 0) else ([], 6)
theorem chooseR_eq {P : Pol} {kind size a b : Int} (hk : kind = 0 ∨ kind = 1) : chooseR P kind size a b = chooseF P kind size a b := by
 unfold chooseR chooseF
 rw [if_neg (by omega)]
 rcases hk with rfl | rfl
 ·simp only [wantsF, wishF, if_true, true_and]
  cases P.fast <;> cases P.mirror <;> by_cases ha : 0 < a <;> by_cases hb : 0 < b <;> simp [List.filter, frOf, ha, hb]
 ·simp only [wantsF, wishF, show ¬ (1 : Int) = 0 by decide, if_false, false_and]
  by_cases h0 : P.small = 0 <;> by_cases h1 : P.small < size <;> by_cases ha : 0 < a <;> by_cases hb : 0 < b <;> simp [List.filter, frOf, ha, hb, h0, h1] <;> omega
def ChR (h : Heap) (c : List Int × Int) (v : V) (h' : Heap) : Prop := ∃ u, v = .tuple [u, iv c.2] ∧ Sl h' 1 u (ints c.1) ∧ Grow h h' ∧ ∀ b, blkOf u = some b → h.size ≤ b
section
variable {C : Cfg} (S : StdO C)
include S
theorem r08choose_ans (h : Heap) (hw : Wf h) (P : Pol) (hP : P.ok) (kind size a b : Int) (hk : kind ≤ 1) (hsz : 0 ≤ size ∧ size ≤ 960) (y : V) (sy : Sl h 1 y (ints [a, b])) (ha : 0 ≤ a) (hb : 0 ≤ b) :
  Ans C 18 [.agg P.v, iv kind, iv size, y] h (ChR h (chooseR P kind size a b)) := by
 have hF : C.F 18 = some a18 := S.f rfl
 unfold a18 at hF
 refine Ans.fn (fun _ _ => S.s _ _ _ rfl) hF rfl rfl hw (fun h2 g => ?_)
 clear hF
 have fin : ∀ (e' : List (Nat × V)) (hc : Heap) (gc : Grow h hc) (cs : List V) (n : Nat) (l : List Int), cs = l.map iv → l.length = n → chooseR P kind size a b = (l, 0) → Env.get e' 8 = some (.slice (some (hc.size, 0)) n n) → Env.get e' 9 = some (iv 0) →
   Fin .ret ∧ Wf (hc.push (.cells cs (.tip [] 0 none))) ∧ ∃ v, retE e' (hc.push (.cells cs (.tip [] 0 none))) [.tmp 8, .tmp 9] = some v ∧ (∀ h4, Grow (hc.push (.cells cs (.tip [] 0 none))) h4 → ChR h (chooseR P kind size a b) v h4) ∧ (v.scopd h.size = true → ChR h (chooseR P kind size a b) v h) := by
  intro e' hc gc cs n l h1 h2 h3' he1 he2
  have gp := gc.push (.cells cs (.tip [] 0 none))
  refine ⟨trivial, gp.wf, _, ret2 he1 he2, fun h4 g4 => ?_, fun hsc => ?_⟩
  ·rw [h3']; exact ⟨_, rfl, (new_ret (h := h) h1 h2).grow g4, gp.trans g4, fun b hb => by cases hb; exact gc.size⟩
  ·have := gc.size; simp [V.scopd, V.scopeds] at hsc; omega
 have nil : ∀ (e' : List (Nat × V)) (hc : Heap) (gc : Grow h hc) (c : Int), chooseR P kind size a b = ([], c) → Env.get e' 8 = some (.slice none 0 0) → Env.get e' 9 = some (iv c) →
   Fin .ret ∧ Wf hc ∧ ∃ v, retE e' hc [.tmp 8, .tmp 9] = some v ∧ (∀ h4, Grow hc h4 → ChR h (chooseR P kind size a b) v h4) ∧ (v.scopd h.size = true → ChR h (chooseR P kind size a b) v h) := by
  intro e' hc gc c h3' he1 he2
  refine ⟨trivial, gc.wf, _, ret2 he1 he2, fun h4 g4 => ?_, fun hsc => ?_⟩
  ·rw [h3']; exact ⟨_, rfl, Sl.nil _ _, gc.trans g4, fun b hb => by cases hb⟩
  ·rw [h3']; exact ⟨_, rfl, Sl.nil _ _, Grow.refl hw, fun b hb => by cases hb⟩
 have hyl : slLen y = some 2 := by have := sy.len; simpa [ints] using this
 have at0 : ∃ c o, idxSlA 1 y (iv 0) = some (.ptr (some (c, o))) ∧ h.rd c o = some (iv a) := by
  obtain ⟨c, o, k1, k2⟩ := sy.at (i := 0) (by simp [ints])
  exact ⟨c, o, k1, rds_rd k2 (j := 0) rfl⟩
 have at1 : ∃ c o, idxSlA 1 y (iv 1) = some (.ptr (some (c, o))) ∧ h.rd c o = some (iv b) := by
  obtain ⟨c, o, k1, k2⟩ := sy.at (i := 1) (by simp [ints])
  exact ⟨c, o, k1, rds_rd k2 (j := 0) rfl⟩
 obtain ⟨c0, o0, k0, j0⟩ := at0
 obtain ⟨c1, o1, k1, j1⟩ := at1
 refine WC.seqO (WO.ops (StepK.box rfl) ?_)
 have cp : Cl (h2.push (.cells P.v (.tip [] 0 none))) h2.size P.v := Cl.new _ _ _
 have g3 := g.push (.cells P.v (.tip [] 0 none))
 change WO C _ _ (h2.push (.cells P.v (.tip [] 0 none))) _
 generalize h2.push (.cells P.v (.tip [] 0 none)) = h3 at *
 generalize h2.size = p at *
 have q0 : h3.rds p 0 5 = some P.v := cp.rds rfl
 refine omv rfl <| omv rfl <| WO.nil <| WC.seq <| WC.seqO <| WO.ops (StepK.loadN rfl q0) ?_
 refine WO.call rfl rfl (r08check_ok S h3 g3.wf P hP) ?_
 rintro _ h4 ⟨rfl, g34⟩
 have g4 := g3.trans g34
 refine obn rfl rfl (neF rfl) <| omv rfl <| WO.run rfl <| omv rfl <| WO.run rfl ?_
 refine WO.call rfl rfl (r08in_ans S h4 g4.wf kind 1) ?_
 rintro _ h5 ⟨rfl, g45⟩
 have g5 := g4.trans g45
 by_cases hk0 : kind < 0
 ·rw [decide_eq_false (by omega)]
  refine WO.run rfl <| ont rfl <| opf rfl rfl <| omv rfl ?_
  (repeat (first | refine omv rfl ?_ | refine ols rfl (by first | with_reducible assumption | rfl) ?_ | refine ofa rfl ?_ | refine oad rfl rfl (by omega) ?_ | refine osb rfl rfl (by omega) ?_ | refine obn rfl rfl rfl ?_ | refine opt rfl rfl ?_ | refine opf rfl rfl ?_ | refine ont rfl ?_ | refine oeq rfl rfl rfl ?_ | refine oex rfl rfl ?_ | refine obu rfl rfl ?_ | refine ofd rfl rfl ?_ | refine olt rfl ?_ | refine onk rfl ?_ | refine old rfl (by first | with_reducible assumption | rfl) ?_ | refine WO.run rfl ?_ | refine WO.skip rfl rfl ?_ | refine WO.skipu rfl ?_))
  refine WO.nil <| WC.cond rfl (fun hc => WC.seqO <| omv rfl <| omv rfl <| WO.nil <| WC.ret (nil _ _ g5 1 ?_ rfl rfl)) (fun hc => by cases hc)
  unfold chooseR; rw [if_pos (.inl hk0)]
 rw [decide_eq_true (by omega)]
 refine WO.run rfl <| ont rfl <| opf rfl rfl <| omv rfl <| WO.run rfl <| omv rfl <| WO.run rfl ?_
 refine WO.call rfl rfl (r08in_ans S h5 g5.wf size 960) ?_
 rintro _ h6 ⟨rfl, g56⟩
 have g6 := g5.trans g56
 rw [decide_eq_true hsz]
 refine WO.run rfl <| ont rfl <| opf rfl rfl <| omv rfl <| WO.run rfl <| omv rfl <| WO.run rfl <| ols rfl hyl <| WO.run rfl <| obn rfl rfl (neF rfl) <| opf rfl rfl <| WO.nil <| WC.cond rfl (fun hc => by cases hc) (fun hc => WC.skip <| WC.seq <| WC.seqO ?_)
 have a6 := g6.rd j0
 have b6 := g6.rd j1
 refine omv rfl <| WO.ops (StepK.idxSl rfl rfl k0) <| old rfl a6 <| obn rfl rfl (ltF (by omega)) <| omv rfl <| WO.run rfl <| omv rfl <| WO.run rfl <| WO.ops (StepK.idxSl rfl rfl k1) <| WO.run rfl <| old rfl b6 <| WO.run rfl <| obn rfl rfl (ltF (by omega)) <| opf rfl rfl <| WO.nil <| WC.cond rfl (fun hc => by cases hc) (fun hc => WC.skip <| WC.seq <| WC.seqO ?_)
 have cp6 := ((cp.grow g34).grow g45).grow g56
 refine WO.ops (StepK.loadN rfl (cp6.rds rfl)) <| omv rfl <| omv rfl ?_
 refine WO.call rfl rfl (r08wants_ans S h6 g6.wf P kind size) ?_
 rintro _ h7 ⟨rfl, g67⟩
 have g7 := g6.trans g67
 have a7 := g7.rd j0
 have b7 := g7.rd j1
 have cp7 := cp6.grow g67
 have hkk : ¬ (kind < 0 ∨ 1 < kind) := by omega
 have last : (¬ (wantsF P kind size = true ∧ 0 < b)) → ∀ e', Cov [(3, y)] e' → WC C (.seq (.seq (.ops [⟨(some 62), none, .mv (.t 3)⟩, ⟨(some 63), none, .idxSl 1 (.t 62) (.c (.int .i64 (0)))⟩, ⟨(some 64), none, .load none (.t 63)⟩, ⟨(some 65), none, .bin .gtr (.t 64) (.c (.int .i64 (0)))⟩]) (.cond (.t 65) (.seq (.ops [⟨(some 66), none, .buildSl none [(.int .i64 (0))] 1 [(0, 1, (.c (.int .i64 (0))))]⟩, ⟨(some 8), none, .mv (.t 66)⟩, ⟨(some 9), none, .mv (.c (.int .i64 (0)))⟩]) (.ret)) (.skip))) (.seq (.ops [⟨(some 8), none, .mv (.c (.slice none 0 0))⟩, ⟨(some 9), none, .mv (.c (.int .i64 (6)))⟩]) (.ret))) e' h7 (fun x e1 h1 => Fin x ∧ Wf h1 ∧ ∃ v, retE e1 h1 [.tmp 8, .tmp 9] = some v ∧ (∀ h4, Grow h1 h4 → ChR h (chooseR P kind size a b) v h4) ∧ (v.scopd h.size = true → ChR h (chooseR P kind size a b) v h)) := by
  intro hno e' hcov
  refine WC.cov hcov <| WC.seq <| WC.seqO <| omv rfl <| WO.ops (StepK.idxSl rfl rfl k0) <| old rfl a7 ?_
  by_cases h0 : 0 < a
  ·refine obn rfl rfl (gtT h0) <| WO.nil <| WC.cond rfl (fun hc => WC.seqO <| WO.ops (StepK.buildSl rfl rfl) <| omv rfl <| omv rfl <| WO.nil <| WC.ret (fin _ h7 g7 [iv 0] 1 [0] rfl rfl ?_ rfl rfl)) (fun hc => by cases hc)
   unfold chooseR; rw [if_neg hkk, if_neg hno, if_pos h0]
  ·refine obn rfl rfl (gtF h0) <| WO.nil <| WC.cond rfl (fun hc => by cases hc) (fun hc => WC.skip <| WC.seqO <| omv rfl <| omv rfl <| WO.nil <| WC.ret (nil _ h7 g7 6 ?_ rfl rfl))
   unfold chooseR; rw [if_neg hkk, if_neg hno, if_neg h0]
 refine omv rfl ?_
 cases hwn : wantsF P kind size with
 | false =>
  (repeat (first | refine omv rfl ?_ | refine ols rfl (by first | with_reducible assumption | rfl) ?_ | refine ofa rfl ?_ | refine oad rfl rfl (by omega) ?_ | refine osb rfl rfl (by omega) ?_ | refine obn rfl rfl rfl ?_ | refine opt rfl rfl ?_ | refine opf rfl rfl ?_ | refine ont rfl ?_ | refine oeq rfl rfl rfl ?_ | refine oex rfl rfl ?_ | refine obu rfl rfl ?_ | refine ofd rfl rfl ?_ | refine olt rfl ?_ | refine onk rfl ?_ | refine old rfl (by first | with_reducible assumption | rfl) ?_ | refine WO.run rfl ?_ | refine WO.skip rfl rfl ?_ | refine WO.skipu rfl ?_))
  exact WO.nil <| WC.cond rfl (fun hc => by cases hc) (fun hc => WC.skip <| last (by rw [hwn]; simp) _ (Cov.cons rfl (Cov.nil _)))
 | true =>
  refine WO.run rfl <| omv rfl <| WO.run rfl <| WO.ops (StepK.idxSl rfl rfl k1) <| WO.run rfl <| old rfl b7 <| WO.run rfl ?_
  by_cases h1 : 0 < b
  rotate_left
  ·refine obn rfl rfl (gtF h1) <| opt rfl rfl <| WO.nil <| WC.cond rfl (fun hc => by cases hc) (fun hc => WC.skip <| last (fun q => h1 q.2) _ (Cov.cons rfl (Cov.nil _)))
  refine obn rfl rfl (gtT h1) <| opt rfl rfl <| WO.nil <| WC.cond rfl (fun hc => ?_) (fun hc => by cases hc)
  have one : ¬ (kind = 0 ∧ P.mirror = true ∧ 0 < a) → chooseR P kind size a b = ([1], 0) := fun q => by unfold chooseR; rw [if_neg hkk, if_pos ⟨hwn, h1⟩, if_neg q]
  refine WC.seq <| WC.seqO <| omv rfl ?_
  by_cases h2 : kind = 0
  rotate_left
  ·refine obn rfl rfl (eqF h2) <| omv rfl ?_
   (repeat (first | refine omv rfl ?_ | refine ols rfl (by first | with_reducible assumption | rfl) ?_ | refine ofa rfl ?_ | refine oad rfl rfl (by omega) ?_ | refine osb rfl rfl (by omega) ?_ | refine obn rfl rfl rfl ?_ | refine opt rfl rfl ?_ | refine opf rfl rfl ?_ | refine ont rfl ?_ | refine oeq rfl rfl rfl ?_ | refine oex rfl rfl ?_ | refine obu rfl rfl ?_ | refine ofd rfl rfl ?_ | refine olt rfl ?_ | refine onk rfl ?_ | refine old rfl (by first | with_reducible assumption | rfl) ?_ | refine WO.run rfl ?_ | refine WO.skip rfl rfl ?_ | refine WO.skipu rfl ?_))
   exact WO.nil <| WC.cond rfl (fun hc => by cases hc) (fun hc => WC.skip <| WC.seqO <| WO.ops (StepK.buildSl rfl rfl) <| omv rfl <| omv rfl <| WO.nil <| WC.ret (fin _ h7 g7 [iv 1] 1 [1] rfl rfl (one fun q => h2 q.1) rfl rfl))
  refine obn rfl rfl (eqT h2) <| omv rfl <| WO.run rfl <| ofa rfl <| WO.run rfl <| old rfl (cp7.rd (i := 1) rfl) ?_
  cases hmi : P.mirror with
  | false =>
   (repeat (first | refine omv rfl ?_ | refine ols rfl (by first | with_reducible assumption | rfl) ?_ | refine ofa rfl ?_ | refine oad rfl rfl (by omega) ?_ | refine osb rfl rfl (by omega) ?_ | refine obn rfl rfl rfl ?_ | refine opt rfl rfl ?_ | refine opf rfl rfl ?_ | refine ont rfl ?_ | refine oeq rfl rfl rfl ?_ | refine oex rfl rfl ?_ | refine obu rfl rfl ?_ | refine ofd rfl rfl ?_ | refine olt rfl ?_ | refine onk rfl ?_ | refine old rfl (by first | with_reducible assumption | rfl) ?_ | refine WO.run rfl ?_ | refine WO.skip rfl rfl ?_ | refine WO.skipu rfl ?_))
   exact WO.nil <| WC.cond rfl (fun hc => by cases hc) (fun hc => WC.skip <| WC.seqO <| WO.ops (StepK.buildSl rfl rfl) <| omv rfl <| omv rfl <| WO.nil <| WC.ret (fin _ h7 g7 [iv 1] 1 [1] rfl rfl (one fun q => by rw [hmi] at q; simp at q) rfl rfl))
  | true =>
   refine opt rfl rfl <| omv rfl <| WO.run rfl <| omv rfl <| WO.run rfl <| WO.ops (StepK.idxSl rfl rfl k0) <| WO.run rfl <| old rfl a7 <| WO.run rfl ?_
   by_cases h0 : 0 < a
   ·refine obn rfl rfl (gtT h0) <| opt rfl rfl <| WO.nil <| WC.cond rfl (fun hc => WC.seqO <| WO.ops (StepK.buildSl rfl rfl) <| omv rfl <| omv rfl <| WO.nil <| WC.ret (fin _ h7 g7 [iv 1, iv 0] 2 [1, 0] rfl rfl ?_ rfl rfl)) (fun hc => by cases hc)
    unfold chooseR; rw [if_neg hkk, if_pos ⟨hwn, h1⟩, if_pos ⟨h2, hmi, h0⟩]
   ·refine obn rfl rfl (gtF h0) <| opt rfl rfl <| WO.nil <| WC.cond rfl (fun hc => by cases hc) (fun hc => WC.skip <| WC.seqO <| WO.ops (StepK.buildSl rfl rfl) <| omv rfl <| omv rfl <| WO.nil <| WC.ret (fin _ h7 g7 [iv 1] 1 [1] rfl rfl (one fun q => h0 q.2.2) rfl rfl))
end
end Abs
end Go.Proofs.YtdebiolekbldiaaGreatDoor
namespace Go.Proofs.YtdebiolekbldiaaGreatDoor
namespace Abs
set_option linter.unusedVariables false
set_option linter.unusedSimpArgs false
open Go.RowKit
attribute [local irreducible] WO WC WD StepK Ans Does Runs DoesD
theorem leV_drop {t : List Nat} {k : Nat} (h : k < t.length) : leV (t.drop k) = t.getD k 0 + 256 * leV (t.drop (k + 1)) := by
 rw [List.drop_eq_getElem_cons h, List.getD_eq_getElem?_getD, List.getElem?_eq_getElem h]; rfl
section
variable {C : Cfg} (S : StdM C)
include S
theorem rmost_ans (h : Heap) (hw : Wf h) (w : Int) : Ans C 65 [iv w] h fun v h' => v = iv (mostF w) ∧ Grow h h' := by
 have hF : C.F 65 = some a65 := S.f rfl
 unfold a65 at hF
 refine Ans.val (fun _ _ => S.s _ _ _ rfl) hF rfl rfl hw fun h2 g => ?_
 clear hF
 have fin : ∀ (e' : List (Nat × V)) (c : Int), Env.get e' 2 = some (iv c) → c = mostF w → Fin .ret ∧ Grow h h2 ∧ retE e' h2 [.tmp 2] = some (iv (mostF w)) := by
  intro e' c he hc
  refine ⟨trivial, g, ?_⟩
  simp only [retE, ressE, resE, he, oneOf, hc]
 refine WC.seqO (omv rfl (WO.nil (WC.seq (WC.seqO ?_))))
 refine omv rfl <| obn rfl rfl rfl <| omv rfl ?_
 refine WO.splitG rfl (fun hc => ?_) (fun hc => ?_)
 ·have hc := of_decide_eq_true hc
  refine WO.skip rfl rfl <| WO.skip rfl rfl <| opt rfl rfl ?_
  refine WO.nil (WC.condT rfl (WC.seqO (omv rfl (WO.nil (WC.ret (fin _ _ rfl ?_))))))
  rw [mostF, if_pos (.inl hc)]
 have hc := of_decide_eq_false hc
 refine WO.run rfl <| omv rfl <| WO.run rfl <| obn rfl rfl rfl <| opf rfl rfl ?_
 refine WO.nil (WC.cond rfl (fun hc2 => ?_) (fun hc2 => WC.skip (WC.seqO (omv rfl (WO.nil (WC.seq (WC.seqO (omv rfl (WO.nil (WC.block ?_))))))))))
 ·have hc2 := of_decide_eq_true hc2
  refine WC.seqO (omv rfl (WO.nil (WC.ret (fin _ _ rfl ?_))))
  rw [mostF, if_pos (.inr hc2)]
 have hc2 := of_decide_eq_false hc2
 obtain ⟨k, rfl⟩ : ∃ k : Nat, w = k := ⟨w.toNat, by omega⟩
 have hpow : ∀ p : Nat, p ≤ 7 → (256 : Nat) ^ p ≤ 72057594037927936 := by
  intro p hp
  have : p = 0 ∨ p = 1 ∨ p = 2 ∨ p = 3 ∨ p = 4 ∨ p = 5 ∨ p = 6 ∨ p = 7 := by omega
  rcases this with e | e | e | e | e | e | e | e <;> subst e <;> decide
 refine WC.loop (σ := Nat) (fun p => [(0, iv k), (3, iv ((256 ^ p : Nat) : Int)), (4, iv p)]) (fun p h' => h' = h2 ∧ p ≤ k) (fun p => k - p) 0 (Cov.cons rfl (Cov.cons rfl (Cov.cons rfl (Cov.nil _)))) ⟨rfl, by omega⟩ ?_
 rintro p h3 ⟨rfl, hp⟩
 refine WC.seq (WC.seqO ?_)
 refine omv rfl <| omv rfl <| obn rfl rfl rfl ?_
 refine WO.nil (WC.cond rfl (fun hc3 => WC.skip ?_) (fun hc3 => WC.exit ?_))
 ·have hc3 := of_decide_eq_true hc3
  have hb := hpow p (by omega)
  have hs : (256 : Nat) ^ (p + 1) = 256 ^ p * 256 := Nat.pow_succ ..
  have hb2 := hpow (p + 1) (by omega)
  have hmul : binA .mul (iv ((256 ^ p : Nat) : Int)) (iv 256) = some (iv ((256 ^ (p + 1) : Nat) : Int)) := by
   rw [bin_mul (by omega)]; congr 2 <;> omega
  refine WC.seq (WC.block (WC.ops ?_))
  refine omv rfl <| obn rfl rfl hmul <| omv rfl (WO.nil (WC.ops ?_))
  refine omv rfl <| oad rfl rfl (by omega) <| omv rfl ?_
  exact WO.nil ⟨p + 1, Cov.cons rfl (Cov.cons rfl (Cov.cons rfl (Cov.nil _))), ⟨rfl, by omega⟩, by omega⟩
 ·have hc3 := of_decide_eq_false hc3
  obtain rfl : p = k := by omega
  have hb := hpow p (by omega)
  have h0 : 0 < (256 : Nat) ^ p := Nat.pow_pos (by decide)
  refine WC.seqO ?_
  refine omv rfl <| osb rfl rfl (by omega) <| omv rfl ?_
  refine WO.nil (WC.ret (fin _ _ rfl ?_))
  rw [mostF, if_neg (by omega), Int.toNat_natCast, ← pow256]
  push_cast; rfl
theorem rbytes_ans (h : Heap) (hw : Wf h) (b : Nat) (s : List Nat) (e n : Int) (a : RdAt h b s e) :
  Ans C 33 [.ptr (some (b, 0)), iv n] h fun v h' => v = .str (bytesF s e n).1 ∧ RdAt h' b (bytesF s e n).2.1 (bytesF s e n).2.2 ∧ Chg [b] h h' := by
 have hF : C.F 33 = some a33 := S.f rfl
 unfold a33 at hF
 have hbl := Cl.lt a hw
 refine Ans.loc S.hm (S.s _ _ _ rfl) hF rfl rfl hw (fun h2 g hsz hge => ?_) ?_
 rotate_left
 ·exact fun v h1 hg q hv => ⟨q.1, rdAt_loc hbl hg q.2.1, Chg.refl hw⟩
 clear hF
 have a2 : Cl h2 b [.str s, iv e] := Cl.grow a g
 refine WC.seqO (omv rfl (WO.nil (WC.seq (WC.seqO ?_))))
 refine omv rfl <| onk rfl <| ofa rfl <| old rfl (a2.rd rfl) <| obn rfl rfl rfl (WO.nil ?_)
 refine WC.cond rfl (fun hc => WC.seqO ?_) (fun hc => WC.skip (WC.seq (WC.seqO ?_)))
 ·have hc : e ≠ 0 := by simpa using hc
  refine omv rfl (WO.nil (WC.ret ⟨trivial, _, rfl, fun k => ?_⟩))
  simp only [bytesF, takeF, if_pos hc]
  exact ⟨rfl, a2, (g.low1 k).chg _⟩
 have hc : e = 0 := by simpa using hc
 subst hc
 refine omv rfl <| obn rfl rfl rfl (WO.nil ?_)
 refine WC.cond rfl (fun hc => WC.seqO ?_) (fun hc => WC.skip (WC.seq (WC.seqO ?_)))
 ·have hc := of_decide_eq_true hc
  obtain ⟨h3, q1, q2, q3, q4⟩ := a2.set g.wf (i := 1) (by exact (by decide : 1 < 2)) (v := iv 1) rfl
  refine omv rfl <| onk rfl <| ofa rfl ?_
  refine WO.op (StepK.store rfl rfl rfl q1) (WO.nil (WC.seqO (omv rfl (WO.nil (WC.ret ⟨trivial, _, rfl, fun k => ?_⟩)))))
  simp only [bytesF, takeF, ne_eq, not_true_eq_false, if_false, if_pos hc]
  exact ⟨rfl, q2, (Chg.of_same q3 hsz hge).low k⟩
 have hc0 := of_decide_eq_false hc
 refine omv rfl <| omv rfl <| onk rfl <| ofa rfl <| old rfl (a2.rd rfl) <| olt rfl <| obn rfl rfl rfl (WO.nil ?_)
 refine WC.cond rfl (fun hc => WC.seqO ?_) (fun hc => WC.skip (WC.seqO ?_))
 ·have hc := of_decide_eq_true hc
  obtain ⟨h3, q1, q2, q3, q4⟩ := a2.set g.wf (i := 1) (by exact (by decide : 1 < 2)) (v := iv 2) rfl
  refine omv rfl <| onk rfl <| ofa rfl ?_
  refine WO.op (StepK.store rfl rfl rfl q1) (WO.nil (WC.seqO (omv rfl (WO.nil (WC.ret ⟨trivial, _, rfl, fun k => ?_⟩)))))
  simp only [bytesF, takeF, ne_eq, not_true_eq_false, if_false, if_neg hc0, if_pos hc]
  exact ⟨rfl, q2, (Chg.of_same q3 hsz hge).low k⟩
 have hc := of_decide_eq_false hc
 refine omv rfl <| onk rfl <| ofa rfl <| old rfl (a2.rd rfl) <| omv rfl <| WO.ops (StepK.sliceStr rfl rfl rfl (str_lo (by omega) (by omega))) <| omv rfl (WO.nil (WC.seqO ?_))
 obtain ⟨h3, q1, q2, q3, q4⟩ := a2.set g.wf (i := 0) (by exact (by decide : 0 < 2)) (v := .str (s.drop n.toNat)) rfl
 refine omv rfl <| omv rfl <| onk rfl <| ofa rfl <| old rfl (a2.rd rfl) <| omv rfl <| WO.ops (StepK.sliceStr rfl rfl rfl (str_hi (by omega) (by omega))) <| onk rfl <| ofa rfl ?_
 refine WO.op (StepK.store rfl rfl rfl q1) (WO.nil (WC.seqO ?_))
 refine omv rfl <| omv rfl (WO.nil (WC.ret ⟨trivial, _, rfl, fun k => ?_⟩))
 simp only [bytesF, takeF, ne_eq, not_true_eq_false, if_false, if_neg hc0, if_neg hc]
 exact ⟨rfl, q2, (Chg.of_same q3 hsz hge).low k⟩
theorem rnumber_ans (h : Heap) (hw : Wf h) (b : Nat) (s : List Nat) (e w : Int) (a : RdAt h b s e) (hs : Byt s) :
  Ans C 32 [.ptr (some (b, 0)), iv w] h fun v h' => v = iv (numberF s e w).1 ∧ RdAt h' b (numberF s e w).2.1 (numberF s e w).2.2 ∧ Chg [b] h h' := by
 have hF : C.F 32 = some a32 := S.f rfl
 unfold a32 at hF
 have hbl := Cl.lt a hw
 refine Ans.loc S.hm (S.s _ _ _ rfl) hF rfl rfl hw (fun h2 g hsz hge => ?_) ?_
 rotate_left
 ·exact fun v h1 hg q hv => ⟨q.1, rdAt_loc hbl hg q.2.1, Chg.refl hw⟩
 clear hF
 have a2 : Cl h2 b [.str s, iv e] := Cl.grow a g
 refine WC.seqO (omv rfl (WO.nil (WC.seq (WC.seqO ?_))))
 refine omv rfl <| onk rfl <| ofa rfl <| old rfl (a2.rd rfl) <| obn rfl rfl rfl (WO.nil ?_)
 refine WC.cond rfl (fun hc => WC.seqO ?_) (fun hc => WC.skip (WC.seq (WC.seqO ?_)))
 ·have hc : e ≠ 0 := by simpa using hc
  refine omv rfl (WO.nil (WC.ret ⟨trivial, _, rfl, fun k => ?_⟩))
  simp only [numberF, takeF, if_pos hc]
  exact ⟨rfl, a2, (g.low1 k).chg _⟩
 have hc : e = 0 := by simpa using hc
 subst hc
 refine omv rfl ?_
 refine WO.call rfl rfl (rmost_ans S h2 g.wf w) ?_
 rintro v h3 ⟨rfl, g3⟩
 have a3 := a2.grow g3
 refine obn rfl rfl rfl (WO.nil ?_)
 refine WC.cond rfl (fun hc => WC.seqO ?_) (fun hc => WC.skip (WC.seqO ?_))
 ·have hc := of_decide_eq_true hc
  obtain ⟨h4, q1, q2, q3, q4⟩ := a3.set g3.wf (i := 1) (by exact (by decide : 1 < 2)) (v := iv 1) rfl
  refine omv rfl <| onk rfl <| ofa rfl ?_
  refine WO.op (StepK.store rfl rfl rfl q1) (WO.nil (WC.seqO (omv rfl (WO.nil (WC.ret ⟨trivial, _, rfl, fun k => ?_⟩)))))
  simp only [numberF, takeF, ne_eq, not_true_eq_false, if_false, if_pos hc]
  exact ⟨rfl, q2, (Chg.of_same (Chg.growl g3 q3) hsz hge).low k⟩
 have hc := of_decide_eq_false hc
 have hmp := most_pos (n := 0) (w := w) (by omega) (by omega)
 have hnf : numberF s 0 w = (leV (bytesF s 0 w).1, (bytesF s 0 w).2) := by
  unfold numberF bytesF
  rw [if_neg hc, if_neg (by omega)]
 refine omv rfl <| omv rfl ?_
 refine WO.call rfl rfl (rbytes_ans S h3 g3.wf b s 0 w a3) ?_
 rintro v h4 ⟨rfl, q2, q3⟩
 have q3 := Chg.growl g3 q3
 have hbt := (bytesF_byt (e := 0) (n := w) hs).1
 have hbl7 : (bytesF s 0 w).1.length ≤ 7 := by
  unfold bytesF takeF
  simp only [ne_eq, not_true_eq_false, if_false]
  rw [if_neg (by omega : ¬ w < 0)]
  simp only [not_true_eq_false, if_false]
  split
  ·simp
  ·simp only [List.length_take]; omega
 rw [hnf]
 generalize bytesF s 0 w = r at *
 obtain ⟨t, s', e'⟩ := r
 simp only at hbt hbl7 q2 ⊢
 refine omv rfl (WO.nil (WC.seqO (omv rfl (WO.nil (WC.seq (WC.seqO ?_))))))
 refine omv rfl <| olt rfl <| osb rfl rfl (by omega) <| omv rfl (WO.nil (WC.block ?_))
 refine WC.loop (σ := Nat) (fun p => [(5, .str t), (6, iv (leV (t.drop (t.length - p)))), (7, iv ((t.length : Int) - 1 - p))]) (fun p h' => h' = h4 ∧ p ≤ t.length) (fun p => t.length - p) 0 (Cov.cons rfl (Cov.cons (by show some (iv 0) = some (iv ((leV (t.drop (t.length - 0)) : Nat) : Int)); rw [Nat.sub_zero, List.drop_length]; rfl) (Cov.cons (by show some (iv ((t.length : Int) - 1)) = some (iv ((t.length : Int) - 1 - ((0 : Nat) : Int))); rw [Int.natCast_zero, Int.sub_zero]) (Cov.nil _)))) ⟨rfl, by omega⟩ ?_
 rintro p h5 ⟨rfl, hp⟩
 refine WC.seq (WC.seqO ?_)
 refine omv rfl <| obn rfl rfl rfl ?_
 refine WO.nil (WC.cond rfl (fun hc3 => WC.skip ?_) (fun hc3 => WC.exit ?_))
 ·have hc3 := of_decide_eq_true hc3
  obtain ⟨k, hk⟩ : ∃ k, t.length - p = k + 1 := ⟨t.length - p - 1, by omega⟩
  have hkl : k < t.length := by omega
  have hb1 : t.getD k 0 < 256 := by
   rw [List.getD_eq_getElem?_getD, List.getElem?_eq_getElem hkl]; exact hbt _ (List.getElem_mem hkl)
  have hlv := leV_drop hkl
  have hlt : leV (t.drop (k + 1)) < 256 ^ 6 := by
   have h1 := leV_lt (hbt.drop (k + 1))
   refine Nat.lt_of_lt_of_le h1 (Nat.pow_le_pow_right (by decide) ?_)
   rw [List.length_drop]; omega
  have hlt : leV (t.drop (k + 1)) < 281474976710656 := hlt
  have hat := at_str (s := t) (k := .i64) (n := (k : Int)) (by omega) (by omega)
  rw [Int.toNat_natCast] at hat
  rw [hk]
  have e1 : (t.length : Int) - 1 - p = k := by omega
  rw [e1]
  have wi : IntKind.i64.wrap (Int.ofNat (t.getD k 0)) = ((t.getD k 0 : Nat) : Int) := StepK.wrap64 (by show (-9223372036854775808 : Int) ≤ ((t.getD k 0 : Nat) : Int); omega) (by show ((t.getD k 0 : Nat) : Int) < 9223372036854775808; omega)
  generalize t.getD k 0 = c at *
  refine WC.seq (WC.block (WC.ops ?_))
  refine omv rfl <| obn rfl rfl (bin_mul (by omega)) <| omv rfl <| omv rfl <| WO.ops (StepK.atStr rfl rfl hat) <| WO.ops (StepK.toInt rfl wi) <| oad rfl rfl (by omega) <| omv rfl (WO.nil (WC.ops ?_))
  refine omv rfl <| osb rfl rfl (by omega) <| omv rfl ?_
  refine WO.nil ⟨p + 1, Cov.cons rfl (Cov.cons ?_ (Cov.cons ?_ (Cov.nil _))), ⟨rfl, by omega⟩, by omega⟩
  ·rw [show t.length - (p + 1) = k by omega, hlv]
   refine (show some (iv (256 * (leV (t.drop (k + 1)) : Int) + (c : Int))) = some (iv ((c + 256 * leV (t.drop (k + 1)) : Nat) : Int)) from ?_)
   congr 2; omega
  ·refine (show some (iv ((k : Int) - 1)) = some (iv ((t.length : Int) - 1 - ((p + 1 : Nat) : Int))) from ?_)
   congr 2; omega
 ·have hc3 := of_decide_eq_false hc3
  obtain rfl : p = t.length := by omega
  rw [Nat.sub_self, List.drop_zero]
  refine WC.seqO ?_
  refine omv rfl <| omv rfl ?_
  exact WO.nil (WC.ret ⟨trivial, _, rfl, fun k => ⟨rfl, q2, (Chg.of_same q3 hsz hge).low k⟩⟩)
theorem rend_ans (h : Heap) (hw : Wf h) (b : Nat) (s : List Nat) (e : Int) (a : RdAt h b s e) : Ans C 34 [.ptr (some (b, 0))] h fun v h' => v = iv (endF s e) ∧ Grow h h' := by
 have hF : C.F 34 = some a34 := S.f rfl
 unfold a34 at hF
 refine Ans.val (fun _ _ => S.s _ _ _ rfl) hF rfl rfl hw fun h2 g => ?_
 clear hF
 have a2 : Cl h2 b [.str s, iv e] := Cl.grow a g
 have l0 : h2.rd b (0 + 0) = some (.str s) := a2.rd rfl
 have l1 : h2.rd b (0 + 1) = some (iv e) := a2.rd rfl
 have tail : ∀ (e' : List (Nat × V)) (Q : Ex → List (Nat × V) → Heap → Prop), Cov [(0, .ptr (some (b, 0)))] e' → ¬ (e = 0 ∧ s ≠ []) → (∀ e', (Fin .ret ∧ Grow h h2 ∧ retE e' h2 [.tmp 2] = some (iv (endF s e))) → Q .ret e' h2) → WC C (.seq (.ops [⟨(some 15), none, .mv (.t 0)⟩,
  ⟨(some 16), none, .nilck (.t 15)⟩,
  ⟨(some 17), none, .fieldAddr 1 (.t 16)⟩,
  ⟨(some 18), none, .load none (.t 17)⟩,
  ⟨(some 2), none, .mv (.t 18)⟩]) .ret) e' h2 Q := by
  intro e' Q cv hne hQ
  refine WC.cov cv (WC.seqO ?_)
  refine omv rfl <| onk rfl <| ofa rfl <| old rfl l1 <| omv rfl ?_
  refine WO.nil (WC.ret (hQ _ ⟨trivial, g, ?_⟩))
  show some (iv e) = some (iv (endF s e)); rw [endF, if_neg hne]
 refine WC.seqO (omv rfl (WO.nil (WC.seq (WC.seqO ?_))))
 refine omv rfl <| onk rfl <| ofa rfl <| old rfl l1 <| obn rfl rfl rfl <| omv rfl ?_
 refine WO.splitG rfl (fun hc => ?_) (fun hc => ?_)
 ·have hc : e = 0 := by simpa using hc
  refine WO.run rfl <| omv rfl <| WO.run rfl <| onk rfl <| WO.run rfl <| ofa rfl <| WO.run rfl <| old rfl l0 <| WO.run rfl <| obn rfl rfl rfl <| opt rfl rfl (WO.nil ?_)
  refine WC.cond rfl (fun hc2 => WC.seqO ?_) (fun hc2 => WC.skip ?_)
  ·have hc2 : s ≠ [] := by intro q; subst q; simp [beqL] at hc2
   refine omv rfl (WO.nil (WC.ret ⟨trivial, g, ?_⟩))
   show some (iv 3) = some (iv (endF s e)); rw [endF, if_pos ⟨hc, hc2⟩]
  ·exact tail _ _ (Cov.cons rfl (Cov.nil _)) (fun q => by rw [nbeqL q.2] at hc2; cases hc2) (fun _ q => q)
 ·have hc : e ≠ 0 := by simpa using hc
  refine WO.skip rfl rfl <| WO.skip rfl rfl <| WO.skip rfl rfl <| WO.skip rfl rfl <| WO.skip rfl rfl <| opf rfl rfl ?_
  refine WO.nil (WC.condF rfl (WC.skip ?_))
  exact tail _ _ (Cov.cons rfl (Cov.nil _)) (fun q => hc q.1) (fun _ q => q)
end
end Abs
end Go.Proofs.YtdebiolekbldiaaGreatDoor
namespace Go.Proofs.YtdebiolekbldiaaGreatDoor
namespace Abs
set_option linter.unusedVariables false
set_option linter.unusedSimpArgs false
open Go.RowKit
attribute [local irreducible] WO WC WD StepK Ans Does Runs DoesD
def ptr0 : List V := [.slice none 0 0, iv 0, iv 0, .str []]
section
variable {C : Cfg} (S : StdO C)
include S
theorem r04check_ok (h : Heap) (hw : Wf h) (p : Ptr) (o : p.ok) (x : V) (sx : Sl h 2 x (p.locs.map rn)) : Ans C 35 [.agg (p.v x)] h fun r h' => r = iv 0 ∧ Grow h h' := by
 have hF : C.F 35 = some a35 := S.f rfl
 unfold a35 at hF
 refine Ans.val (fun _ _ => S.s _ _ _ rfl) hF rfl rfl hw fun h2 g => ?_
 clear hF
 refine WC.seqO (WO.ops (StepK.box rfl) ?_)
 have cp : Cl (h2.push (.cells (p.v x) (.tip [] 0 none))) h2.size (p.v x) := Cl.new _ _ _
 have g3 := g.push (.cells (p.v x) (.tip [] 0 none))
 change WO C _ _ (h2.push (.cells (p.v x) (.tip [] 0 none))) _
 generalize h2.push (.cells (p.v x) (.tip [] 0 none)) = h3 at *
 generalize h2.size = q at *
 have s3 := sx.grow g3
 have hln := s3.len
 rw [List.length_map] at hln
 have n1 := o.n1
 have n2 := o.n2
 have f0 : h3.rd q 0 = some x := cp.rd rfl
 have f1 : h3.rd q (0 + 1) = some (iv p.len) := cp.rd rfl
 have f2 : h3.rd q (0 + 2) = some (iv p.birth) := cp.rd rfl
 have f3 : h3.rd q (0 + 3) = some (.str p.sum) := cp.rd rfl
 have o1 := o.ln
 have o2 := o.bi
 have o3 := o.sm
 refine omv rfl <| WO.nil <| WC.seq <| WC.seqO ?_
 refine ofa rfl <| old rfl f0 <| ols rfl hln <| obn rfl rfl (ltF (by omega)) <| omv rfl <| WO.run rfl <| ofa rfl <| WO.run rfl <| old rfl f0 <| WO.run rfl <| ols rfl hln <| WO.run rfl <| obn rfl rfl (gtF (by omega)) <| opf rfl rfl <|
  omv rfl <| WO.run rfl <| ofa rfl <| WO.run rfl <| old rfl f1 <| WO.run rfl <| obn rfl rfl (ltF (by omega)) <| opf rfl rfl <|
  omv rfl <| WO.run rfl <| ofa rfl <| WO.run rfl <| old rfl f1 <| WO.run rfl <| obn rfl rfl (gtF (by omega)) <| opf rfl rfl <|
  omv rfl <| WO.run rfl <| ofa rfl <| WO.run rfl <| old rfl f2 <| WO.run rfl <| obn rfl rfl (ltF (by omega)) <| opf rfl rfl <|
  omv rfl <| WO.run rfl <| ofa rfl <| WO.run rfl <| old rfl f2 <| WO.run rfl <| obn rfl rfl (gtF (by omega)) <| opf rfl rfl <|
  omv rfl <| WO.run rfl <| ofa rfl <| WO.run rfl <| old rfl f3 <| WO.run rfl <| olt rfl <| WO.run rfl <| obn rfl rfl (neF (by omega)) <| opf rfl rfl <| WO.nil <| WC.cond rfl (fun hc => by cases hc) (fun hc => WC.skip <| WC.seq <| WC.seqO <| omv rfl <| WO.nil <| WC.block ?_)
 refine WC.loop (σ := Nat) (fun j => [(1, .ptr (some (q, 0))), (3, iv j)]) (fun j h' => j ≤ p.locs.length ∧ Grow h3 h') (fun j => p.locs.length - j) 0
  (Cov.cons rfl (Cov.cons rfl (Cov.nil _))) ⟨Nat.zero_le _, Grow.refl g3.wf⟩ ?_
 rintro j h4 ⟨hj, g34⟩
 have g4 := g3.trans g34
 have f0' := g34.rd f0
 refine WC.seq <| WC.seqO <| omv rfl <| ofa rfl <| old rfl f0' <| ols rfl hln ?_
 by_cases hlt : j < p.locs.length
 ·refine obn rfl rfl (ltT (by omega)) (WO.nil (WC.cond rfl (fun hc => WC.skip ?_) (fun hc => by cases hc)))
  obtain ⟨c, of, k1, k2⟩ := (s3.grow g34).at (i := j) (by simpa using hlt)
  rw [List.getElem_map] at k2
  have hlc := o.lc _ (List.getElem_mem hlt)
  have hdf : j = 1 → ∃ a, p.locs = [a, p.locs[j]] := fun e => by
   subst e
   match hp : p.locs, n2, hlt with
   | [a, b], _, _ => exact ⟨a, rfl⟩
  have hne : ∀ a, p.locs = [a, p.locs[j]] → a.1 ≠ p.locs[j].1 := fun a ha => o.df _ _ ha
  generalize p.locs[j] = l at *
  refine WC.seq (WC.block (WC.seqO ?_))
  refine ofa rfl <| old rfl f0' <| omv rfl <| WO.ops (StepK.idxSl rfl rfl k1) <| WO.ops (StepK.loadN rfl k2) <| WO.ops StepK.alloc ?_
  obtain ⟨h5, w5, g5, g45, r5⟩ := box_two (x := iv 0) (y := iv 0) (u := iv l.1) (w := iv l.2) g34 rfl rfl
  have r0 : h5.rd h4.size (0 + 0) = some (iv l.1) := rd_get r5 rfl
  have r1 : h5.rd h4.size (0 + 1) = some (iv l.2) := rd_get r5 rfl
  generalize h4.size = b5 at *
  have f05 : h5.rd q (0 + 0) = some x := g45.rd f0'
  refine WO.op (StepK.store rfl rfl rfl w5) <| WO.nil <| WC.seqD ?_
  refine dfa rfl <| WD.load1 rfl r0 <| dbn rfl rfl (ltF (by omega)) <| dmv rfl <| WD.run rfl <| dfa rfl <| WD.run rfl <| WD.load1 rfl r0 <| WD.run rfl <| dbn rfl rfl (gtF (by omega)) <| dpf rfl rfl <| dmv rfl <|
   WD.run rfl <| dfa rfl <| WD.run rfl <| WD.load1 rfl r1 <| WD.run rfl <| dbn rfl rfl (ltF (by omega)) <| dpf rfl rfl <| dmv rfl <|
   WD.run rfl <| dfa rfl <| WD.run rfl <| WD.load1 rfl r1 <| WD.run rfl <| dbn rfl rfl (gtF (by omega)) <| dpf rfl rfl <| dmv rfl <| WD.run rfl <| dmv rfl <| WD.run rfl ?_
  by_cases h1 : j = 1
  ·obtain ⟨a, hab⟩ := hdf h1
   have hn := hne a hab
   have s5 := (s3.grow g34).grow g45
   rw [hab] at s5
   obtain ⟨c0, o0, i0, j0⟩ := s5.at (i := 0) (by simp)
   have e0 : h5.rd c0 (o0 + 0) = some (iv a.1) := rds_rd j0 (j := 0) rfl
   refine dbn rfl rfl (eqT (by omega)) <| WD.run rfl <| dmv rfl <| WD.run rfl <| dfa rfl <| WD.run rfl <| WD.load1 rfl r0 <| WD.run rfl <| dfa rfl <| WD.run rfl <| WD.load1 rfl f05 <| WD.run rfl <| WD.pure (StepK.idxSl rfl rfl i0) rfl <| WD.run rfl <| dfa rfl <| WD.run rfl <| WD.load1 rfl e0 <| WD.run rfl <| dbn rfl rfl (eqF (fun q => hn q.symm)) <| WD.run rfl <| dpt rfl rfl <| dpf rfl rfl <| WD.nil (by repeat (first | exact trivial | refine ⟨by with_reducible assumption, ?_⟩)) ?_
   refine WC.cond rfl (fun hc => by cases hc) (fun _ => WC.skip <| WC.ops <| omv rfl <| oad rfl rfl (by omega) <| omv rfl <| WO.nil ⟨j + 1, Cov.cons rfl (Cov.cons rfl (Cov.nil _)), ⟨hlt, g5⟩, by omega⟩)
  ·refine dbn rfl rfl (eqF (by omega)) <| WD.run rfl <| dmv rfl ?_
   (repeat (first | refine dmv rfl ?_ | refine dls rfl (by first | with_reducible assumption | rfl) ?_ | refine dfa rfl ?_ | refine dad rfl rfl (by omega) ?_ | refine dsb rfl rfl (by omega) ?_ | refine dbn rfl rfl rfl ?_ | refine dpt rfl rfl ?_ | refine dpf rfl rfl ?_ | refine dnt rfl ?_ | refine deq rfl rfl rfl ?_ | refine dex rfl rfl ?_ | refine dbu rfl rfl ?_ | refine dfd rfl rfl ?_ | refine dlt rfl ?_ | refine dnk rfl ?_ | refine WD.load1 rfl (by first | with_reducible assumption | rfl) ?_ | refine WD.run rfl ?_ | refine WD.skipn rfl rfl rfl ?_ | refine WD.skipun rfl rfl ?_))
   refine WD.nil (by repeat (first | exact trivial | refine ⟨by with_reducible assumption, ?_⟩)) ?_
   refine WC.cond rfl (fun hc => by cases hc) (fun _ => WC.skip <| WC.ops <| omv rfl <| oad rfl rfl (by omega) <| omv rfl <| WO.nil ⟨j + 1, Cov.cons rfl (Cov.cons rfl (Cov.nil _)), ⟨hlt, g5⟩, by omega⟩)
 exact obn rfl rfl (ltF (by omega)) (WO.nil (WC.cond rfl (fun hc => by cases hc) (fun hc => WC.exit (WC.seqO <| omv rfl <| WO.nil <| WC.ret ⟨trivial, g4, rfl⟩))))
end
end Abs
end Go.Proofs.YtdebiolekbldiaaGreatDoor
namespace Go.Proofs.YtdebiolekbldiaaGreatDoor
namespace Abs
set_option linter.unusedVariables false
set_option linter.unusedSimpArgs false
open Go.RowKit
attribute [local irreducible] WO WC WD StepK Ans Does Runs DoesD
theorem Chg.two {F : List Nat} {h h1 h2 : Heap} (a : Chg F h h1) (b : Chg F h1 h2) : Chg F h h2 := ⟨b.wf, Nat.le_trans a.size b.size, fun x o hx q => b.keep x o hx (a.keep x o hx q)⟩
section
variable {C : Cfg} (S : StdO C)
include S
theorem r04dec_ok (h : Heap) (hw : Wf h) (p : Ptr) (o : p.ok) (hby : Byt p.sum) : Ans C 11 [.str (encP p)] h fun r h' => ∃ x, r = .tuple [.agg (p.v x), iv 0] ∧ Grown h' h.size 2 x (p.locs.map rn) ∧ Grow h h' := by
 have hF : C.F 11 = some a11 := S.f rfl
 unfold a11 at hF
 refine Ans.fn (fun _ _ => S.s _ _ _ rfl) hF rfl rfl hw (fun h2 g => ?_)
 clear hF
 have m1 : mostF 1 = 255 := rfl
 have m2 : mostF 2 = 65535 := rfl
 have m6 : mostF 6 = 281474976710655 := rfl
 have n1 := o.n1
 have n2 := o.n2
 refine WC.seqO (WO.ops StepK.alloc ?_)
 have c2 : Cl (h2.push (.cells ptr0 (.tip [] 0 none))) h2.size ptr0 := Cl.new _ _ _
 have g3 := g.push (.cells ptr0 (.tip [] 0 none))
 change WO C _ _ (h2.push (.cells ptr0 (.tip [] 0 none))) _
 generalize h2.push (.cells ptr0 (.tip [] 0 none)) = h3 at *
 have hp2 : h.size ≤ h2.size := g.size
 generalize h2.size = p2 at *
 refine omv rfl <| WO.nil <| WC.seqO <| omv rfl <| obu rfl rfl <| WO.ops (StepK.box rfl) ?_
 have r4 : RdAt (h3.push (.cells [.str (encP p), iv 0] (.tip [] 0 none))) h3.size (encP p) 0 := Cl.new _ _ _
 have g34 := (Grow.refl g3.wf).push (.cells [.str (encP p), iv 0] (.tip [] 0 none))
 change WO C _ _ (h3.push (.cells [.str (encP p), iv 0] (.tip [] 0 none))) _
 generalize h3.push (.cells [.str (encP p), iv 0] (.tip [] 0 none)) = h4 at *
 have hrb : h.size ≤ h3.size := g3.size
 have l2 : p2 < h3.size := c2.lt g3.wf
 obtain ⟨rb, hrbe⟩ : ∃ rb, rb = h3.size := ⟨_, rfl⟩
 rw [← hrbe] at r4 hrb l2 ⊢
 have g4 := g3.trans g34
 replace c2 := c2.grow g34
 have hbP := encP_byt hby
 have hP : encP p = putF (p.locs.length : Int) 1 ++ (encLs p.locs ++ (putF p.len 2 ++ (putF p.birth 6 ++ p.sum))) := by simp only [encP, List.append_assoc]
 have hbT : Byt (encLs p.locs ++ (putF p.len 2 ++ (putF p.birth 6 ++ p.sum))) := (encLs_byt _).app ((putF_byt _ _).app ((putF_byt _ _).app hby))
 refine omv rfl <| WO.nil <| WC.seqO <| omv rfl ?_
 refine WO.call rfl rfl (rnumber_ans S.toStdM h4 g4.wf rb _ _ 1 r4 hbP) ?_
 rw [hP, numberF_app (by omega) (by omega)]
 rintro _ h5 ⟨rfl, r5, c5⟩
 rw [← hP]
 have ec : ((Int.toNat (p.locs.length : Int) : Nat) : Int) = p.locs.length := by omega
 dsimp only at r5 ⊢
 rw [ec]
 have g5 := Chg.newGrow g4 c5 hw (by simpa using hrb)
 replace c2 := c2.chg c5 (by simp; omega)
 refine omv rfl <| WO.nil <| WC.seq <| WC.seqO <| omv rfl <| onk rfl <| ofa rfl <| old rfl (Cl.rd r5 (i := 1) rfl) <| obn rfl rfl (neF rfl) <| WO.nil <| WC.cond rfl (fun hc => by cases hc) (fun hc => WC.skip <| WC.seq <| WC.seqO ?_)
 refine omv rfl <| obn rfl rfl (ltF (by omega)) <| omv rfl <| WO.run rfl <| omv rfl <| WO.run rfl <| obn rfl rfl (gtF (by omega)) <| opf rfl rfl <| WO.nil <| WC.cond rfl (fun hc => by cases hc) (fun hc => WC.skip <| WC.seqO ?_)
 refine obu rfl rfl <| WO.ops StepK.alloc ?_
 have c6 : Cl (h5.push (.cells ptr0 (.tip [] 0 none))) h5.size ptr0 := Cl.new _ _ _
 have gp := (Grow.refl g5.wf).push (.cells ptr0 (.tip [] 0 none))
 have l5 : rb < h5.size := Cl.lt r5 g5.wf
 have l52 : p2 < h5.size := c2.lt g5.wf
 change WO C _ _ (h5.push (.cells ptr0 (.tip [] 0 none))) _
 have g6 := g5.trans gp
 replace c2 := c2.grow gp
 replace r5 : RdAt _ rb _ 0 := Cl.grow r5 gp
 have s5 := g5.size
 generalize h5.push (.cells ptr0 (.tip [] 0 none)) = h6 at *
 generalize h5.size = p6 at *
 have l6 : p6 < h6.size := c6.lt g6.wf
 have hs6 : h.size ≤ p6 := s5
 obtain ⟨h6', w1, w2, w3, w4⟩ := c6.sets g6.wf (i := 0) (us := ptr0) (by simp [ptr0]) rfl
 have w2 : Cl h6' p6 ptr0 := w2
 have g6' := w3.newGrow g6 hw (by simpa using hs6)
 refine WO.op (StepK.store (v := .agg ptr0) rfl rfl rfl w1) <| WO.nil <| WC.seq <| WC.seqO <| omv rfl <| WO.nil <| WC.block ?_
 replace c2 := c2.chg w3 (by simp; omega)
 replace r5 : RdAt _ rb _ 0 := Cl.chg r5 w3 (by simp; omega)
 refine WC.loop (σ := Nat) (fun j => [(2, .ptr (some (p2, 0))), (4, .ptr (some (rb, 0))), (5, iv p.locs.length), (6, .ptr (some (p6, 0))), (7, iv j)])
  (fun j h' => j ≤ p.locs.length ∧ Grow h h' ∧ Cl h' p2 ptr0 ∧ RdAt h' rb (encLs (p.locs.drop j) ++ (putF p.len 2 ++ (putF p.birth 6 ++ p.sum))) 0 ∧ ∃ x, Cl h' p6 [x, iv 0, iv 0, .str []] ∧ Grown h' h.size 2 x ((p.locs.take j).map rn) ∧ Off x p2 ∧ Off x rb ∧ Off x p6) (fun j => p.locs.length - j) 0
  (Cov.cons rfl (Cov.cons rfl (Cov.cons rfl (Cov.cons rfl (Cov.cons rfl (Cov.nil _)))))) ⟨Nat.zero_le _, g6', c2, r5, _, w2, Grown.nil _ _ _, Off.nil _, Off.nil _, Off.nil _⟩ ?_
 clear c2 r5 c6 r4 w1 w2 w3 w4
 rintro j h7 ⟨hj, g7, c2, r7, x, c6, gx, ox2, oxr, ox6⟩
 refine WC.seq <| WC.seqO <| omv rfl <| omv rfl ?_
 by_cases hlt : j < p.locs.length
 ·refine obn rfl rfl (ltT (by omega)) (WO.nil (WC.cond rfl (fun hc => WC.skip ?_) (fun hc => by cases hc)))
  have hlc := o.lc _ (List.getElem_mem hlt)
  have htk : p.locs.take (j + 1) = p.locs.take j ++ [p.locs[j]] := List.take_succ_eq_append_getElem hlt
  have hdr : p.locs.drop j = p.locs[j] :: p.locs.drop (j + 1) := List.drop_eq_getElem_cons hlt
  have htl : (p.locs.take j).length ≤ 2 := by rw [List.length_take]; omega
  rw [hdr, encLs_cons, encL] at r7
  generalize p.locs[j] = l at *
  have hb7 : Byt (putF l.1 1 ++ (putF l.2 2 ++ (encLs (p.locs.drop (j + 1)) ++ (putF p.len 2 ++ (putF p.birth 6 ++ p.sum))))) := (putF_byt _ _).app ((putF_byt _ _).app ((encLs_byt _).app ((putF_byt _ _).app ((putF_byt _ _).app hby))))
  have hb8 : Byt (putF l.2 2 ++ (encLs (p.locs.drop (j + 1)) ++ (putF p.len 2 ++ (putF p.birth 6 ++ p.sum)))) := (putF_byt _ _).app ((encLs_byt _).app ((putF_byt _ _).app ((putF_byt _ _).app hby)))
  simp only [List.append_assoc] at r7
  have l2' := c2.lt g7.wf
  have lr' : rb < h7.size := Cl.lt r7 g7.wf
  have l6' := c6.lt g7.wf
  have z7 := g7.size
  refine WC.seq (WC.block (WC.seqO <| obu rfl rfl <| WO.ops StepK.alloc ?_))
  obtain ⟨h8, e1, _, g78, e2⟩ := box_two (x := iv 0) (y := iv 0) (u := iv 0) (w := iv 0) g7 rfl rfl
  refine WO.op (StepK.store (v := .agg [iv 0, iv 0]) rfl rfl rfl e1) <| WO.nil <| WC.seqO <| omv rfl ?_
  have c8 : Cl h8 h7.size [iv 0, iv 0] := ⟨_, e2⟩
  obtain ⟨p8, hp8⟩ : ∃ p8, p8 = h7.size := ⟨_, rfl⟩
  rw [← hp8] at c8 ⊢
  have g8 := g7.trans g78
  refine WO.call rfl rfl (rnumber_ans S.toStdM h8 g8.wf rb _ _ 1 (Cl.grow r7 g78) hb7) ?_
  rw [numberF_app hlc.1.1 (by omega)]
  rintro _ h9 ⟨rfl, r9, k9⟩
  dsimp only at r9 ⊢
  have t1 : ((l.1.toNat : Nat) : Int) = l.1 := Int.toNat_of_nonneg hlc.1.1
  have t2 : ((l.2.toNat : Nat) : Int) = l.2 := Int.toNat_of_nonneg hlc.2.1
  rw [t1]
  obtain ⟨h10, a1, a2, a3, a4⟩ := (c8.chg k9 (by simp; omega)).set k9.wf (i := 0) (by simp) (v := iv l.1) rfl
  refine ofa rfl <| WO.op (StepK.store rfl rfl rfl a1) <| WO.nil <| WC.seqO <| omv rfl ?_
  have r10 : RdAt h10 rb _ 0 := Cl.chg r9 a3 (by simp; omega)
  refine WO.call rfl rfl (rnumber_ans S.toStdM h10 a3.wf rb _ _ 2 r10 hb8) ?_
  rw [numberF_app hlc.2.1 (by omega)]
  rintro _ h11 ⟨rfl, r11, k11⟩
  dsimp only at r11 ⊢
  rw [t2]
  obtain ⟨h12, b1, b2, b3, b4⟩ := (Cl.chg a2 k11 (by simp; omega)).set k11.wf (i := 1) (by simp) (v := iv l.2) rfl
  refine ofa rfl <| WO.op (StepK.store rfl rfl rfl b1) <| WO.nil <| WC.ops ?_
  have b2 : Cl h12 p8 [iv l.1, iv l.2] := b2
  have r12 : RdAt h12 rb _ 0 := Cl.chg r11 b3 (by simp; omega)
  have K : Chg [rb, p8] h8 h12 := (((k9.mono (by simp)).two (a3.mono (by simp))).two (k11.mono (by simp))).two (b3.mono (by simp))
  have g12 : Grow h h12 := K.newGrow g8 hw (fun y hy => by simp at hy; omega)
  have c612 : Cl h12 p6 _ := (c6.grow g78).chg K (by simp; omega)
  have c212 : Cl h12 p2 ptr0 := (c2.grow g78).chg K (by simp; omega)
  have ox8 : Off x p8 := gx.offNew g7.wf (by omega)
  have gx12 := (gx.grow g78).chg K (fun y hy => by simp at hy; rcases hy with rfl | rfl <;> assumption)
  refine ofa rfl <| old rfl (c612.rd (i := 0) rfl) <| WO.ops (StepK.loadN rfl (b2.rds rfl)) <| WO.ops (StepK.buildSl rfl rfl) ?_
  have gp := (Grow.refl g12.wf).push (.cells [iv l.1, iv l.2] (.tip [] 0 none))
  have hnew : (h12.push (.cells [iv l.1, iv l.2] (.tip [] 0 none))).get h12.size = some (.cells [iv l.1, iv l.2] (.tip [] 0 none)) := get_push_self _ _
  change WO C _ _ (h12.push (.cells [iv l.1, iv l.2] (.tip [] 0 none))) _
  have g13 := g12.trans gp
  have r13 : RdAt _ rb _ 0 := Cl.grow r12 gp
  have c6a := c612.grow gp
  have c2a := c212.grow gp
  have gx13 := gx12.grow gp
  have z12 := K.size
  have z78 := g78.size
  have zgp := gp.size
  generalize h12.push (.cells [iv l.1, iv l.2] (.tip [] 0 none)) = h13 at *
  obtain ⟨w, h14, q1, q2, q3, q4, q5⟩ := Grown.append2 (bytes := 16) (tyK := none) hw g13 gx13 (sl_one hnew rfl) (by decide) (by decide) (by rw [List.length_map]; exact decide_eq_true (by simp; omega)) (fun c hc v hv => by
   obtain rfl := List.mem_singleton.1 hc
   simp at hv; rcases hv with rfl | rfl <;> rfl)
  obtain ⟨h15, d1, d2, d3, d4⟩ := (Cl.frm c6a q4 ox6).set q3.wf (i := 0) (by simp) (v := w) q2.one
  have d1' : h14.wr p6 (0 + 0) w.cellsOf = some h15 := by rw [one_cells q2.one]; exact d1
  refine WO.ops (StepK.append rfl rfl q1) <| ofa rfl <| WO.op (StepK.store rfl rfl (by rw [one_cells q2.one]; rfl) d1') <| WO.nil <| WC.ops ?_
  have ow2 := q5 p2 (by omega) ox2
  have owr := q5 rb (by omega) oxr
  have ow6 := q5 p6 (by omega) ox6
  refine omv rfl <| oad rfl rfl (by omega) <| omv rfl (WO.nil ⟨j + 1, ?_, ⟨hlt, d3.newGrow q3 hw (by simpa using hs6), (Cl.frm c2a q4 ox2).chg d3 (by simp; omega), Cl.chg (Cl.frm r13 q4 oxr) d3 (by simp; omega), w, d2, ?_, ow2, owr, ow6⟩, by omega⟩)
  ·exact Cov.cons rfl (Cov.cons rfl (Cov.cons rfl (Cov.cons rfl (Cov.cons rfl (Cov.nil _)))))
  ·rw [htk, List.map_append]
   exact q2.chg d3 (fun y hy => by obtain rfl := List.mem_singleton.1 hy; exact ow6)
 obtain rfl : j = p.locs.length := by omega
 rw [List.take_length] at gx
 rw [List.drop_length, show encLs [] = [] from rfl, List.nil_append] at r7
 refine obn rfl rfl (ltF (by omega)) (WO.nil (WC.cond rfl (fun hc => by cases hc) (fun hc => WC.exit (WC.seqO ?_))))
 have hb7 : Byt (putF p.len 2 ++ (putF p.birth 6 ++ p.sum)) := (putF_byt _ _).app ((putF_byt _ _).app hby)
 have nr : rb ≠ p6 := by omega
 refine omv rfl ?_
 refine WO.call rfl rfl (rnumber_ans S.toStdM h7 g7.wf rb _ _ 2 r7 hb7) ?_
 rw [numberF_app o.ln.1 (by have := o.ln; omega)]
 rintro _ h8 ⟨rfl, r8, c8⟩
 dsimp only at r8 ⊢
 have t1 : ((p.len.toNat : Nat) : Int) = p.len := Int.toNat_of_nonneg o.ln.1
 have t2 : ((p.birth.toNat : Nat) : Int) = p.birth := Int.toNat_of_nonneg o.bi.1
 rw [t1]
 obtain ⟨h9, a1, a2, a3, a4⟩ := (c6.chg c8 (by simp; omega)).set c8.wf (i := 1) (by simp) (v := iv p.len) rfl
 have r9 : RdAt h9 rb _ 0 := Cl.chg r8 a3 (by simpa using nr)
 refine ofa rfl <| WO.op (StepK.store rfl rfl rfl a1) <| WO.nil <| WC.seqO <| omv rfl ?_
 refine WO.call rfl rfl (rnumber_ans S.toStdM h9 a3.wf rb _ _ 6 r9 ((putF_byt _ _).app hby)) ?_
 rw [numberF_app o.bi.1 (by have := o.bi; omega)]
 rintro _ h10 ⟨rfl, r10, c10⟩
 dsimp only at r10 ⊢
 rw [t2]
 obtain ⟨h11, b1, b2, b3, b4⟩ := (Cl.chg a2 c10 (by simp; omega)).set c10.wf (i := 2) (by simp) (v := iv p.birth) rfl
 have r11 : RdAt h11 rb _ 0 := Cl.chg r10 b3 (by simpa using nr)
 rw [← List.append_nil p.sum] at r11
 refine ofa rfl <| WO.op (StepK.store rfl rfl rfl b1) <| WO.nil <| WC.seqO <| omv rfl ?_
 refine WO.call rfl rfl (rbytes_ans S.toStdM h11 b3.wf rb _ 0 32 r11) ?_
 rw [bytesF_app _ _ (by have := o.sm; omega)]
 rintro _ h12 ⟨rfl, r12, c12⟩
 dsimp only at r12 ⊢
 obtain ⟨h13, d1, d2, d3, d4⟩ := (Cl.chg b2 c12 (by simp; omega)).set c12.wf (i := 3) (by simp) (v := .str p.sum) rfl
 have r13 : RdAt h13 rb [] 0 := Cl.chg r12 d3 (by simpa using nr)
 have d2 : Cl h13 p6 (p.v x) := d2
 have K : Chg [rb, p6] h7 h13 := (((((c8.mono (by simp)).two (a3.mono (by simp))).two (c10.mono (by simp))).two (b3.mono (by simp))).two (c12.mono (by simp))).two (d3.mono (by simp))
 have g13 : Grow h h13 := K.newGrow g7 hw (fun y hy => by simp at hy; omega)
 have gx13 := gx.chg K (fun y hy => by simp at hy; rcases hy with rfl | rfl <;> assumption)
 have c213 := c2.chg K (by simp; omega)
 refine ofa rfl <| WO.op (StepK.store rfl rfl rfl d1) <| WO.nil <| WC.seqO <| omv rfl ?_
 refine WO.call rfl rfl (rend_ans S.toStdM h13 g13.wf rb [] 0 r13) ?_
 rintro _ h14 ⟨rfl, g14⟩
 rw [show endF [] 0 = 0 from rfl]
 have g14' := g13.trans g14
 refine omv rfl <| WO.nil <| WC.seq <| WC.seqO <| omv rfl <| obn rfl rfl (neF rfl) <| WO.nil <| WC.cond rfl (fun hc => by cases hc) (fun hc => WC.skip (WC.seq (WC.seqO ?_)))
 refine WO.ops (StepK.loadN rfl ((d2.grow g14).rds rfl)) ?_
 refine WO.call rfl rfl (r04check_ok S h14 g14'.wf p o x (gx13.grow g14).sl) ?_
 rintro _ h15 ⟨rfl, g15⟩
 have g15' := g14'.trans g15
 refine obn rfl rfl (neF rfl) <| WO.nil <| WC.cond rfl (fun hc => by cases hc) (fun hc => WC.skip (WC.seqO ?_))
 have gA := g14.trans g15
 obtain ⟨h16, z1, z2, z3, z4⟩ := (c213.grow gA).sets g15'.wf (i := 0) (us := p.v x) (by simp [Ptr.v, ptr0]) (by simp only [Ptr.v, List.all_cons, List.all_nil, gx.one]; rfl)
 have z2 : Cl h16 p2 (p.v x) := z2
 have g16 := z3.newGrow g15' hw (by simpa using hp2)
 have gx16 := (gx13.grow gA).chg z3 (by simpa using ox2)
 refine WO.ops (StepK.loadN rfl ((d2.grow gA).rds rfl)) <| WO.op (StepK.store (v := .agg (p.v x)) rfl rfl rfl z1) <| omv rfl <| WO.nil <| WC.ret ⟨trivial, g16.wf, .tuple [.agg (p.v x), iv 0], ?_, fun h17 g17 => ⟨x, rfl, gx16.grow g17, g16.trans g17⟩, fun hc => ?_⟩
 ·have hl : loadA h16 (some 4) (.ptr (some (p2, 0))) = some (.agg (p.v x)) := by
   have q1 : h16.rds p2 0 4 = some (p.v x) := z2.rds rfl
   simp only [loadA, q1]
  simp only [retE]
  rw [show ressE _ h16 [.cell 2 (some 4), .tmp 3] = some [.agg (p.v x), iv 0] from ressCT rfl hl rfl]
  rfl
 ·have hc' : x.scopd h.size = true := by
   change (V.tuple [.agg (p.v x), iv 0]).scopd h.size = true at hc
   simpa [V.scopd, V.scopeds, Ptr.v, iv] using hc
  exact ⟨x, rfl, gx16.scopd hc' h, Grow.refl hw⟩
end
end Abs
end Go.Proofs.YtdebiolekbldiaaGreatDoor
namespace Go.Proofs.YtdebiolekbldiaaGreatDoor
namespace Abs
set_option linter.unusedVariables false
set_option linter.unusedSimpArgs false
open Go.RowKit
attribute [local irreducible] WO WC WD StepK Ans Does Runs DoesD
section
variable {C : Cfg} (S : StdO C)
include S
theorem r04dec_nil (h : Heap) (hw : Wf h) : Ans C 11 [.str []] h fun r h' => r = .tuple [.agg ptr0, iv 2] ∧ Grow h h' := by
 have hF : C.F 11 = some a11 := S.f rfl
 unfold a11 at hF
 refine Ans.val (fun _ _ => S.s _ _ _ rfl) hF rfl rfl hw (fun h2 g => ?_)
 clear hF
 refine WC.seqO (WO.ops StepK.alloc ?_)
 have c2 : Cl (h2.push (.cells ptr0 (.tip [] 0 none))) h2.size ptr0 := Cl.new _ _ _
 have g3 := g.push (.cells ptr0 (.tip [] 0 none))
 change WO C _ _ (h2.push (.cells ptr0 (.tip [] 0 none))) _
 generalize h2.push (.cells ptr0 (.tip [] 0 none)) = h3 at *
 have hp2 : h.size ≤ h2.size := g.size
 generalize h2.size = p2 at *
 refine omv rfl <| WO.nil <| WC.seqO <| omv rfl <| obu rfl rfl <| WO.ops (StepK.box rfl) ?_
 have r4 : RdAt (h3.push (.cells [.str [], iv 0] (.tip [] 0 none))) h3.size [] 0 := Cl.new _ _ _
 have g34 := (Grow.refl g3.wf).push (.cells [.str [], iv 0] (.tip [] 0 none))
 change WO C _ _ (h3.push (.cells [.str [], iv 0] (.tip [] 0 none))) _
 generalize h3.push (.cells [.str [], iv 0] (.tip [] 0 none)) = h4 at *
 have hrb : h.size ≤ h3.size := g3.size
 have l2 : p2 < h3.size := c2.lt g3.wf
 generalize h3.size = rb at *
 have g4 := g3.trans g34
 replace c2 := c2.grow g34
 refine omv rfl <| WO.nil <| WC.seqO <| omv rfl ?_
 refine WO.call rfl rfl (rnumber_ans S.toStdM h4 g4.wf rb _ _ 1 r4 Byt.nil) ?_
 rw [show numberF [] 0 1 = (0, [], 2) from rfl]
 rintro _ h5 ⟨rfl, r5, c5⟩
 have g5 := Chg.newGrow g4 c5 hw (by simpa using hrb)
 replace c2 := c2.chg c5 (by simp; omega)
 dsimp only at r5
 refine omv rfl <| WO.nil <| WC.seq <| WC.seqO <| omv rfl <| onk rfl <| ofa rfl <| old rfl (Cl.rd r5 (i := 1) rfl) <| obn rfl rfl (neT (by decide)) <| WO.nil <| WC.cond rfl (fun hc => WC.seqD ?_) (fun hc => by cases hc)
 have e1 : h5.rd rb (0 + 1) = some (iv 2) := Cl.rd r5 (i := 1) rfl
 obtain ⟨h6, w1, w2, w3, w4⟩ := c2.sets g5.wf (i := 0) (us := ptr0) (by simp [ptr0]) rfl
 have w2 : Cl h6 p2 ptr0 := w2
 have e1' : h6.rd rb (0 + 1) = some (iv 2) := Cl.rd (Cl.chg r5 w3 (by simp; omega)) (i := 1) rfl
 refine dbu rfl rfl <| dmv rfl <| dnk rfl <| dfa rfl <| WD.load1 rfl e1 <| WD.opC (by repeat (first | exact trivial | refine ⟨by with_reducible assumption, ?_⟩)) rfl (StepK.store (v := .agg ptr0) rfl rfl rfl w1) <| dmv rfl <| WD.nil (by repeat (first | exact trivial | refine ⟨by with_reducible assumption, ?_⟩)) <| WC.ret ⟨trivial, w3.newGrow g5 hw (by simpa using hp2), ?_⟩
 have hl : loadA h6 (some 4) (.ptr (some (p2, 0))) = some (.agg ptr0) := by
  have q1 : h6.rds p2 0 4 = some ptr0 := w2.rds rfl
  simp only [loadA, q1]
 simp only [retE]
 rw [show ressE _ h6 [.cell 2 (some 4), .tmp 3] = some [.agg ptr0, iv 2] from ressCT rfl hl rfl]
 rfl
theorem r18locs_ok (h : Heap) (hw : Wf h) (p : Ptr) (o : p.ok) (hby : Byt p.sum) : Ans C 19 [.str (encP p)] h fun r h' => Grown h' h.size 2 r (p.locs.map rn) ∧ Grow h h' := by
 have hF : C.F 19 = some a19 := S.f rfl
 unfold a19 at hF
 refine Ans.fn (fun _ _ => S.s _ _ _ rfl) hF rfl rfl hw (fun h2 g => ?_)
 clear hF
 refine WC.seqO <| omv rfl <| WO.nil <| WC.seqO <| omv rfl ?_
 refine WO.call rfl rfl (r04dec_ok S h2 g.wf p o hby) ?_
 rintro _ h3 ⟨x, rfl, gx, g23⟩
 have g3 := g.trans g23
 have gx' := gx.up g.size
 refine omv rfl <| oex rfl rfl <| oex rfl rfl <| WO.ops StepK.alloc ?_
 have c4 : Cl (h3.push (.cells ptr0 (.tip [] 0 none))) h3.size ptr0 := Cl.new _ _ _
 have g34 := (Grow.refl g3.wf).push (.cells ptr0 (.tip [] 0 none))
 change WO C _ _ (h3.push (.cells ptr0 (.tip [] 0 none))) _
 have ox : Off x h3.size := gx'.offNew g3.wf (Nat.le_refl _)
 generalize h3.push (.cells ptr0 (.tip [] 0 none)) = h4 at *
 have hp3 := g3.size
 generalize h3.size = q at *
 have g4 := g3.trans g34
 obtain ⟨h5, w1, w2, w3, w4⟩ := c4.sets g4.wf (i := 0) (us := p.v x) (by simp [ptr0, Ptr.v]) (by simp only [Ptr.v, List.all_cons, List.all_nil, gx.one]; rfl)
 have w2 : Cl h5 q (p.v x) := w2
 have g5 := w3.newGrow g4 hw (by simpa using hp3)
 have gx5 := (gx'.grow g34).chg w3 (by simpa using ox)
 exact WO.op (StepK.store (v := .agg (p.v x)) rfl rfl rfl w1) <| omv rfl <| WO.nil <| WC.seq <| WC.seqO <| omv rfl <| obn rfl rfl (neF rfl) <| WO.nil <| WC.cond rfl (fun hc => by cases hc) (fun hc => WC.skip <| WC.seqO <| ofa rfl <| old rfl (w2.rd (i := 0) rfl) <| omv rfl <| WO.nil <| WC.ret ⟨trivial, g5.wf, x, rfl, fun h6 g6 => ⟨gx5.grow g6, g5.trans g6⟩, fun hc => ⟨gx5.scopd hc h, Grow.refl hw⟩⟩)
theorem r18locs_nil (h : Heap) (hw : Wf h) : Ans C 19 [.str []] h fun r h' => r = .slice none 0 0 ∧ Grow h h' := by
 have hF : C.F 19 = some a19 := S.f rfl
 unfold a19 at hF
 refine Ans.val (fun _ _ => S.s _ _ _ rfl) hF rfl rfl hw (fun h2 g => ?_)
 clear hF
 refine WC.seqO <| omv rfl <| WO.nil <| WC.seqO <| omv rfl ?_
 refine WO.call rfl rfl (r04dec_nil S h2 g.wf) ?_
 rintro _ h3 ⟨rfl, g23⟩
 have g3 := g.trans g23
 refine omv rfl <| oex rfl rfl <| oex rfl rfl <| WO.ops StepK.alloc ?_
 have c4 : Cl (h3.push (.cells ptr0 (.tip [] 0 none))) h3.size ptr0 := Cl.new _ _ _
 have g34 := (Grow.refl g3.wf).push (.cells ptr0 (.tip [] 0 none))
 change WO C _ _ (h3.push (.cells ptr0 (.tip [] 0 none))) _
 generalize h3.push (.cells ptr0 (.tip [] 0 none)) = h4 at *
 have hp3 := g3.size
 generalize h3.size = p at *
 obtain ⟨h5, w1, w2, w3, w4⟩ := c4.sets (g3.trans g34).wf (i := 0) (us := ptr0) (by simp [ptr0]) rfl
 exact WO.op (StepK.store (v := .agg ptr0) rfl rfl rfl w1) <| omv rfl <| WO.nil <| WC.seq <| WC.seqO <| omv rfl <| obn rfl rfl (neT (by decide)) <| WO.nil <| WC.cond rfl (fun hc => WC.seqO <| omv rfl <| WO.nil <| WC.ret ⟨trivial, w3.newGrow (g3.trans g34) hw (by simpa using hp3), rfl⟩) (fun hc => by cases hc)
end
end Abs
end Go.Proofs.YtdebiolekbldiaaGreatDoor
