/- Layer 4: pointers that may be: Check. Layer 4: pointers as bytes: Encode. Layer 4: bytes as pointers: Decode. Layer 5: Write. Layer 18, plainly: what is taken of free sectors. No program is in sight. -/
import Derived.Test.YtdebiolekbldiaaGreatDoorS7
import Derived.Test.YtdebiolekbldiaaGreatDoorB14
import Derived.Test.YtdebiolekbldiaaGreatDoorN0
namespace Go.Proofs.YtdebiolekbldiaaGreatDoor
namespace Abs
set_option linter.unusedVariables false
set_option linter.unusedSimpArgs false
open Go.RowKit
attribute [local irreducible] WO WC WD StepK Ans Does Runs DoesD
structure Ptr where
 locs : List (Int × Int)
 len : Int
 birth : Int
 sum : List Nat
structure Ptr.ok (p : Ptr) : Prop where
 n1 : 1 ≤ p.locs.length
 n2 : p.locs.length ≤ 2
 lc : ∀ l ∈ p.locs, (0 ≤ l.1 ∧ l.1 ≤ 1) ∧ (0 ≤ l.2 ∧ l.2 ≤ 511)
 df : ∀ a b, p.locs = [a, b] → a.1 ≠ b.1
 ln : 0 ≤ p.len ∧ p.len ≤ 960
 bi : 0 ≤ p.birth ∧ p.birth ≤ 1099511627776
 sm : p.sum.length = 32
def Ptr.v (p : Ptr) (x : V) : List V := [x, iv p.len, iv p.birth, .str p.sum]
section
variable {C : Cfg} (S : StdO C)
include S
theorem ptIn_ans (h : Heap) (hw : Wf h) (n m : Int) : Ans C 94 [iv n, iv m] h fun v h' => v = .bool (decide (0 ≤ n ∧ n ≤ m)) ∧ Grow h h' := by
 have hF : C.F 94 = some a94 := S.f rfl
 unfold a94 at hF
 refine Ans.val (fun _ _ => S.s _ _ _ rfl) hF rfl rfl hw fun h2 g => ?_
 clear hF
 refine WC.seqO ?_
 refine omv rfl ?_
 refine WO.nil (WC.seqO ?_)
 refine omv rfl <| obn rfl rfl rfl <| omv rfl ?_
 refine WO.splitG rfl (fun hc => ?_) (fun hc => ?_)
 ·have hc : n ≥ 0 := of_decide_eq_true hc
  refine WO.run rfl <| omv rfl <| WO.run rfl <| omv rfl <| WO.run rfl <| obn rfl rfl rfl <| opt rfl rfl <| omv rfl ?_
  refine WO.nil (WC.ret ⟨trivial, g, ?_⟩)
  show some (V.bool (decide (n ≤ m))) = some (.bool (decide (0 ≤ n ∧ n ≤ m)))
  congr 2
  exact decide_eq_decide.2 ⟨fun q => ⟨hc, q⟩, fun q => q.2⟩
 ·have hc : ¬ n ≥ 0 := of_decide_eq_false hc
  refine WO.skip rfl rfl <| WO.skip rfl rfl <| WO.skip rfl rfl <| opf rfl rfl <| omv rfl ?_
  refine WO.nil (WC.ret ⟨trivial, g, ?_⟩)
  show some (V.bool false) = some (.bool (decide (0 ≤ n ∧ n ≤ m)))
  rw [decide_eq_false (by omega)]
theorem ptCheck_ok (h : Heap) (hw : Wf h) (p : Ptr) (o : p.ok) (x : V) (sx : Sl h 2 x (p.locs.map rn)) : Ans C 75 [.agg (p.v x)] h fun r h' => r = iv 0 ∧ Grow h h' := by
 have hF : C.F 75 = some a75 := S.f rfl
 unfold a75 at hF
 refine Ans.val (fun _ _ => S.s _ _ _ rfl) hF rfl rfl hw fun h2 g => ?_
 clear hF
 refine WC.seqO (WO.ops (StepK.box rfl) ?_)
 have cp : Cl (h2.push (.cells (p.v x) (.tip [] 0 none))) h2.size (p.v x) := Cl.new _ _ _
 have g3 := g.push (.cells (p.v x) (.tip [] 0 none))
 change WO C _ _ (h2.push (.cells (p.v x) (.tip [] 0 none))) _
 generalize h2.push (.cells (p.v x) (.tip [] 0 none)) = h3 at *
 generalize h2.size = q at *
 have s3 := sx.grow g3
 have hln := s3.len
 rw [List.length_map] at hln
 have n2 := o.n2
 refine omv rfl <| WO.nil <| WC.seq <| WC.seqO ?_
 refine ofa rfl <| old rfl (cp.rd (i := 0) rfl) <| ols rfl hln <| omv rfl <| WO.nil <| WC.block ?_
 refine WC.loop (σ := Nat) (fun j => [(1, .ptr (some (q, 0))), (7, x), (8, iv p.locs.length), (9, iv j)]) (fun j h' => j ≤ p.locs.length ∧ Grow h3 h') (fun j => p.locs.length - j) 0
  (Cov.cons rfl (Cov.cons rfl (Cov.cons rfl (Cov.cons rfl (Cov.nil _))))) ⟨Nat.zero_le _, Grow.refl g3.wf⟩ ?_
 rintro j h4 ⟨hj, g34⟩
 have g4 := g3.trans g34
 refine WC.seqO ?_
 by_cases hlt : j < p.locs.length
 ·refine obn rfl rfl (ltT (by omega)) (WO.nil (WC.seq (WC.cond rfl (fun hc => WC.skip ?_) (fun hc => by cases hc))))
  obtain ⟨c, of, k1, k2⟩ := (s3.grow g34).at (i := j) (by simpa using hlt)
  rw [List.getElem_map] at k2
  have hlc := o.lc _ (List.getElem_mem hlt)
  generalize p.locs[j] = l at *
  refine WC.seq (WC.block (WC.seqO ?_))
  refine WO.ops (StepK.idxSl rfl rfl k1) <| WO.ops (StepK.loadN rfl k2) <| WO.ops StepK.alloc ?_
  obtain ⟨h5, w5, g5, _, r5⟩ := box_two (x := iv 0) (y := iv 0) (u := iv l.1) (w := iv l.2) g34 rfl rfl
  have r0 : h5.rd h4.size (0 + 0) = some (iv l.1) := rd_get r5 rfl
  have r1 : h5.rd h4.size (0 + 1) = some (iv l.2) := rd_get r5 rfl
  generalize h4.size = b5 at *
  refine WO.op (StepK.store rfl rfl rfl w5) <| WO.nil <| WC.seqO ?_
  refine ofa rfl <| old rfl r0 ?_
  refine WO.call rfl rfl (ptIn_ans S h5 g5.wf l.1 1) ?_
  rintro _ h6 ⟨rfl, g6⟩
  rw [decide_eq_true hlc.1]
  refine ont rfl <| omv rfl <| WO.run rfl <| ofa rfl <| WO.run rfl <| old rfl (g6.rd r1) <| WO.run rfl ?_
  refine WO.call rfl rfl (ptIn_ans S h6 g6.wf l.2 511) ?_
  rintro _ h7 ⟨rfl, g7⟩
  rw [decide_eq_true hlc.2]
  refine WO.run rfl <| ont rfl <| opf rfl rfl <| WO.nil <| WC.cond rfl (fun hc => by cases hc) (fun hc => WC.skip (WC.ops ?_))
  refine oad rfl rfl (by omega) <| omv rfl (WO.nil ⟨j + 1, ?_, ⟨hlt, (g5.trans g6).trans g7⟩, by omega⟩)
  exact Cov.cons rfl (Cov.cons rfl (Cov.cons rfl (Cov.cons (by simp [Env.get, iv]) (Cov.nil _))))
 refine obn rfl rfl (ltF (by omega)) (WO.nil (WC.seq (WC.cond rfl (fun hc => by cases hc) (fun hc => WC.exit (WC.seqO ?_)))))
 have cp4 := cp.grow g34
 have s4 := s3.grow g34
 have f0 : h4.rd q (0 + 0) = some x := cp4.rd rfl
 refine ofa rfl <| old rfl f0 <| ols rfl hln <| omv rfl <| WO.nil <| WC.seq <| WC.seqD ?_
 have n1 := o.n1
 refine dmv rfl <| dbn rfl rfl (ltF (by omega)) <| dmv rfl <| WD.run rfl <| dmv rfl <| WD.run rfl <| dbn rfl rfl (gtF (by omega)) <| dpf rfl rfl <| dmv rfl <| WD.run rfl <| dmv rfl <| WD.run rfl ?_
 have f1 : h4.rd q (0 + 1) = some (iv p.len) := cp4.rd rfl
 have f2 : h4.rd q (0 + 2) = some (iv p.birth) := cp4.rd rfl
 have f3 : h4.rd q (0 + 3) = some (.str p.sum) := cp4.rd rfl
 by_cases h2 : p.locs.length = 2
 ·obtain ⟨a, b, hab⟩ : ∃ a b, p.locs = [a, b] := by
   match hp : p.locs, h2 with
   | [a, b], _ => exact ⟨a, b, rfl⟩
  have hne := o.df a b hab
  rw [hab] at s4
  obtain ⟨c0, o0, i0, j0⟩ := s4.at (i := 0) (by simp)
  obtain ⟨c1, o1, i1, j1⟩ := s4.at (i := 1) (by simp)
  have r0 : h4.rd c0 (o0 + 0) = some (iv a.1) := rds_rd j0 (j := 0) rfl
  have r1 : h4.rd c1 (o1 + 0) = some (iv b.1) := rds_rd j1 (j := 0) rfl
  refine dbn rfl rfl (eqT (by omega)) <| WD.run rfl <| dmv rfl <| WD.run rfl <| dfa rfl <| WD.run rfl <| WD.load1 rfl f0 <| WD.run rfl <| WD.pure (StepK.idxSl rfl rfl i0) rfl <| WD.run rfl <| dfa rfl <| WD.run rfl <| WD.load1 rfl r0 <| WD.run rfl <| dfa rfl <| WD.run rfl <| WD.load1 rfl f0 <| WD.run rfl <| WD.pure (StepK.idxSl rfl rfl i1) rfl <| WD.run rfl <| dfa rfl <| WD.run rfl <| WD.load1 rfl r1 <| WD.run rfl <| dbn rfl rfl (eqF hne) <| WD.run rfl <| dpt rfl rfl <| dpf rfl rfl <| dmv rfl <|
   WD.run rfl <| dfa rfl <| WD.run rfl <| WD.load1 rfl f1 <| WD.run rfl ?_
  refine WD.call (by repeat (first | exact trivial | refine ⟨by with_reducible assumption, ?_⟩)) rfl rfl (ptIn_ans S h4 g4.wf p.len 960) ?_
  rintro _ h5 ⟨rfl, g5⟩
  rw [decide_eq_true o.ln]
  have f2' := g5.rd f2
  refine WD.run rfl <| dnt rfl <| dpf rfl rfl <| dmv rfl <| WD.run rfl <| dfa rfl <| WD.run rfl <| WD.load1 rfl f2' <| WD.run rfl ?_
  have f0' := g5.rd f0
  have f1' := g5.rd f1
  have r0' := g5.rd r0
  have r1' := g5.rd r1
  refine WD.call (by repeat (first | exact trivial | refine ⟨by with_reducible assumption, ?_⟩)) rfl rfl (ptIn_ans S h5 g5.wf p.birth 1099511627776) ?_
  rintro _ h6 ⟨rfl, g6⟩
  rw [decide_eq_true o.bi]
  have f3' := g6.rd (g5.rd f3)
  refine WD.run rfl <| dnt rfl <| dpf rfl rfl <| dmv rfl <| WD.run rfl <| dfa rfl <| WD.run rfl <| WD.load1 rfl f3' <| WD.run rfl <| dlt rfl <| WD.run rfl <| dbn rfl rfl (neF (by have := o.sm; omega)) <| dpf rfl rfl ?_
  have f0'' := g6.rd f0'
  have f1'' := g6.rd f1'
  have f2'' := g6.rd f2'
  have r0'' := g6.rd r0'
  have r1'' := g6.rd r1'
  refine WD.nil (by repeat (first | exact trivial | refine ⟨by with_reducible assumption, ?_⟩)) (WC.cond rfl (fun hc => by cases hc) (fun hc => WC.skip (WC.seqO (omv rfl (WO.nil (WC.ret ⟨trivial, (g4.trans g5).trans g6, rfl⟩))))))
 ·refine dbn rfl rfl (eqF (by omega)) <| WD.run rfl <| dmv rfl ?_
  refine WD.skipn rfl rfl rfl <| WD.skipn rfl rfl rfl <| WD.skipn rfl rfl rfl <| WD.skipn rfl rfl rfl <| WD.skipn rfl rfl rfl <| WD.skipn rfl rfl rfl <| WD.skipn rfl rfl rfl <| WD.skipn rfl rfl rfl <| WD.skipn rfl rfl rfl <| WD.skipn rfl rfl rfl <| WD.skipn rfl rfl rfl <| WD.run rfl <| dpf rfl rfl <| dpf rfl rfl <| dmv rfl <|
   WD.run rfl <| dfa rfl <| WD.run rfl <| WD.load1 rfl f1 <| WD.run rfl ?_
  refine WD.call (by repeat (first | exact trivial | refine ⟨by with_reducible assumption, ?_⟩)) rfl rfl (ptIn_ans S h4 g4.wf p.len 960) ?_
  rintro _ h5 ⟨rfl, g5⟩
  rw [decide_eq_true o.ln]
  have f2' := g5.rd f2
  refine WD.run rfl <| dnt rfl <| dpf rfl rfl <| dmv rfl <| WD.run rfl <| dfa rfl <| WD.run rfl <| WD.load1 rfl f2' <| WD.run rfl ?_
  have f0' := g5.rd f0
  have f1' := g5.rd f1
  refine WD.call (by repeat (first | exact trivial | refine ⟨by with_reducible assumption, ?_⟩)) rfl rfl (ptIn_ans S h5 g5.wf p.birth 1099511627776) ?_
  rintro _ h6 ⟨rfl, g6⟩
  rw [decide_eq_true o.bi]
  have f3' := g6.rd (g5.rd f3)
  refine WD.run rfl <| dnt rfl <| dpf rfl rfl <| dmv rfl <| WD.run rfl <| dfa rfl <| WD.run rfl <| WD.load1 rfl f3' <| WD.run rfl <| dlt rfl <| WD.run rfl <| dbn rfl rfl (neF (by have := o.sm; omega)) <| dpf rfl rfl ?_
  have f0'' := g6.rd f0'
  have f1'' := g6.rd f1'
  have f2'' := g6.rd f2'
  refine WD.nil (by repeat (first | exact trivial | refine ⟨by with_reducible assumption, ?_⟩)) (WC.cond rfl (fun hc => by cases hc) (fun hc => WC.skip (WC.seqO (omv rfl (WO.nil (WC.ret ⟨trivial, (g4.trans g5).trans g6, rfl⟩))))))
end
end Abs
end Go.Proofs.YtdebiolekbldiaaGreatDoor
namespace Go.Proofs.YtdebiolekbldiaaGreatDoor
namespace Abs
set_option linter.unusedVariables false
set_option linter.unusedSimpArgs false
open Go.RowKit
attribute [local irreducible] WO WC WD StepK Ans Does Runs DoesD
def encL (l : Int × Int) : List Nat := putF l.1 1 ++ putF l.2 2
def encLs (ls : List (Int × Int)) : List Nat := (ls.map encL).flatten
def encP (p : Ptr) : List Nat := putF p.locs.length 1 ++ encLs p.locs ++ (putF p.len 2 ++ putF p.birth 6 ++ p.sum)
theorem encL_len {l : Int × Int} (h : (0 ≤ l.1 ∧ l.1 ≤ 1) ∧ (0 ≤ l.2 ∧ l.2 ≤ 511)) : (encL l).length = 3 := by
 have m1 : mostF 1 = 255 := rfl
 have m2 : mostF 2 = 65535 := rfl
 unfold encL
 rw [List.length_append, putF_len h.1.1 (by omega), putF_len h.2.1 (by omega)]; rfl
theorem encLs_len : ∀ (ls : List (Int × Int)), (∀ l ∈ ls, (0 ≤ l.1 ∧ l.1 ≤ 1) ∧ (0 ≤ l.2 ∧ l.2 ≤ 511)) → (encLs ls).length = 3 * ls.length
 | [], _ => rfl
 | l :: r, h => by
  have h1 := encL_len (h l List.mem_cons_self)
  have h2 := encLs_len r fun x hx => h x (List.mem_cons_of_mem _ hx)
  unfold encLs at h2 ⊢
  simp only [List.map_cons, List.flatten_cons, List.length_append, List.length_cons, h1, h2]; omega
theorem encLs_byt (ls : List (Int × Int)) : Byt (encLs ls) := by
 intro b hb
 unfold encLs at hb
 obtain ⟨t, h1, h2⟩ := List.mem_flatten.1 hb
 obtain ⟨l, _, rfl⟩ := List.mem_map.1 h1
 exact ((putF_byt _ _).app (putF_byt _ _)) b h2
theorem encP_byt {p : Ptr} (h : Byt p.sum) : Byt (encP p) := ((putF_byt _ _).app (encLs_byt _)).app (((putF_byt _ _).app (putF_byt _ _)).app h)
section
variable {C : Cfg} (S : StdO C)
include S
theorem ptEncode_ok (h : Heap) (hw : Wf h) (p : Ptr) (o : p.ok) (hby : Byt p.sum) (x : V) (sx : Sl h 2 x (p.locs.map rn)) : Ans C 91 [.agg (p.v x)] h fun r h' => r = .tuple [.str (encP p), iv 0] ∧ Grow h h' := by
 have hF : C.F 91 = some a91 := S.f rfl
 unfold a91 at hF
 refine Ans.val (fun _ _ => S.s _ _ _ rfl) hF rfl rfl hw fun h2 g => ?_
 clear hF
 have m1 : mostF 1 = 255 := rfl
 have m2 : mostF 2 = 65535 := rfl
 have m6 : mostF 6 = 281474976710655 := rfl
 refine WC.seqO (WO.ops (StepK.box rfl) ?_)
 have cp : Cl (h2.push (.cells (p.v x) (.tip [] 0 none))) h2.size (p.v x) := Cl.new _ _ _
 have g3 := g.push (.cells (p.v x) (.tip [] 0 none))
 change WO C _ _ (h2.push (.cells (p.v x) (.tip [] 0 none))) _
 generalize h2.push (.cells (p.v x) (.tip [] 0 none)) = h3 at *
 have hq0 : h.size ≤ h2.size := g.size
 generalize h2.size = q at *
 refine omv rfl <| omv rfl <| WO.nil <| WC.seq <| WC.seqO ?_
 refine WO.ops (StepK.loadN rfl (cp.rds rfl)) ?_
 refine WO.call rfl rfl (ptCheck_ok S h3 g3.wf p o x (sx.grow g3)) ?_
 rintro _ h4 ⟨rfl, g34⟩
 have g4 := g3.trans g34
 have c4 := cp.grow g34
 refine omv rfl <| WO.nil <| WC.seqO <| omv rfl <| obn rfl rfl (neF rfl) <| WO.nil <| WC.cond rfl (fun hc => by cases hc) (fun hc => WC.skip (WC.seqO ?_))
 refine WO.ops StepK.alloc ?_
 have d0 := Bld.new h4
 have g5 := g4.push (.cells [.ptr none, .slice none 0 0] (.tip [] 0 (some 177)))
 have c5 := c4.grow ((Grow.refl g4.wf).push (.cells [.ptr none, .slice none 0 0] (.tip [] 0 (some 177))))
 change WO C _ _ (h4.push (.cells [.ptr none, .slice none 0 0] (.tip [] 0 (some 177)))) _
 have hs4 := g4.size
 have hqd : q < h4.size := c4.lt g4.wf
 generalize h4.push (.cells [.ptr none, .slice none 0 0] (.tip [] 0 (some 177))) = h5 at *
 generalize h4.size = d at *
 have s5 := sx.grow g5
 have hln := s5.len
 rw [List.length_map] at hln
 have n2 := o.n2
 refine WO.nil <| WC.seqO <| ofa rfl <| old rfl (c5.rd (i := 0) rfl) <| ols rfl hln ?_
 refine WO.call rfl rfl (put_ans S.toStdM h5 g5.wf p.locs.length 1) ?_
 rintro _ h6 ⟨rfl, g6⟩
 have e1 : (putF (p.locs.length : Int) 1).length = 1 := putF_len (by omega) (by omega)
 have g6' := g5.trans g6
 refine WO.call rfl rfl (bwstr_ans S.toStdL h6 g6'.wf [d] d [] _ (d0.grow g6) (by simp [e1])) ?_
 rintro _ h7 ⟨F7, d7, c7, cm7⟩
 have g7 := Chg.newGrow g6' c7 hw (by simpa using hs4)
 have hF7 : ∀ y ∈ F7, h.size ≤ y ∧ y ≠ q := fun y hy => by
  rcases cm7 y hy with r | r
  ·obtain rfl := List.mem_singleton.1 r; exact ⟨hs4, by omega⟩
  ·have := g6'.size; have := (c5.grow g6).lt g6'.wf; exact ⟨by omega, by omega⟩
 have k7 : Cl h7 q (p.v x) := (c5.grow g6).chg c7 (by simp; omega)
 refine WO.nil <| WC.seq <| WC.seqO <| ofa rfl <| old rfl (k7.rd (i := 0) rfl) <| ols rfl hln <| omv rfl <| WO.nil <| WC.block ?_
 rw [List.nil_append] at d7
 refine WC.loop (σ := Nat) (fun j => [(1, .ptr (some (q, 0))), (5, .ptr (some (d, 0))), (19, x), (20, iv p.locs.length), (21, iv j)])
  (fun j h' => j ≤ p.locs.length ∧ Grow h h' ∧ Cl h' q (p.v x) ∧ ∃ F, Bld h' F d (putF p.locs.length 1 ++ encLs (p.locs.take j)) ∧ ∀ y ∈ F, h.size ≤ y ∧ y ≠ q) (fun j => p.locs.length - j) 0
  (Cov.cons rfl (Cov.cons rfl (Cov.cons rfl (Cov.cons rfl (Cov.cons rfl (Cov.nil _)))))) ⟨Nat.zero_le _, g7, k7, F7, by simpa [encLs] using d7, hF7⟩ ?_
 clear d7 hF7 k7 c7 cm7
 rintro j h8 ⟨hj, g8, k8, F, d8, hF⟩
 have hll := encLs_len (p.locs.take j) (fun l hl => o.lc l (List.mem_of_mem_take hl))
 have htl : (p.locs.take j).length = j := by rw [List.length_take]; omega
 refine WC.seqO ?_
 by_cases hlt : j < p.locs.length
 ·refine obn rfl rfl (ltT (by omega)) (WO.nil (WC.seq (WC.cond rfl (fun hc => WC.skip ?_) (fun hc => by cases hc))))
  obtain ⟨c, of, k1, k2⟩ := (sx.grow g8).at (i := j) (by simpa using hlt)
  rw [List.getElem_map] at k2
  have hlc := o.lc _ (List.getElem_mem hlt)
  have htk : p.locs.take (j + 1) = p.locs.take j ++ [p.locs[j]] := List.take_succ_eq_append_getElem hlt
  generalize p.locs[j] = l at *
  refine WC.seq (WC.block (WC.seqO ?_))
  refine WO.ops (StepK.idxSl rfl rfl k1) <| WO.ops (StepK.loadN rfl k2) <| WO.ops StepK.alloc ?_
  obtain ⟨h9, w9, g9, _, r9⟩ := box_two (x := iv 0) (y := iv 0) (u := iv l.1) (w := iv l.2) (Grow.refl g8.wf) rfl rfl
  have c9 : Cl h9 h8.size [iv l.1, iv l.2] := ⟨_, r9⟩
  have r0 : h9.rd h8.size (0 + 0) = some (iv l.1) := rd_get r9 rfl
  have r1 : h9.rd h8.size (0 + 1) = some (iv l.2) := rd_get r9 rfl
  have hu : ∀ y ∈ F, y < h8.size := d8.lows g8.wf
  have hq8 := k8.lt g8.wf
  generalize hb5 : h8.size = b5 at *
  refine WO.op (StepK.store rfl rfl rfl w9) <| WO.nil <| WC.draw ?_
  have g89 := g8.trans g9
  refine dfa rfl <| WD.load1 rfl r0 <| dfa rfl <| WD.load1 rfl r1 ?_
  refine WD.call (by repeat (first | exact trivial | refine ⟨by with_reducible assumption, ?_⟩)) rfl rfl (put_ans S.toStdM h9 g89.wf l.1 1) ?_
  rintro _ h10 ⟨rfl, g10⟩
  have r0' := g10.rd r0
  have r1' := g10.rd r1
  have g10' := g89.trans g10
  refine WD.call (by repeat (first | exact trivial | refine ⟨by with_reducible assumption, ?_⟩)) rfl rfl (put_ans S.toStdM h10 g10'.wf l.2 2) ?_
  rintro _ h11 ⟨rfl, g11⟩
  have r0a := g11.rd r0'
  have r1a := g11.rd r1'
  have g11' := g10'.trans g11
  have el := encL_len hlc
  have l1 : (putF l.1 1).length = 1 := putF_len hlc.1.1 (by omega)
  have l2 : (putF l.2 2).length = 2 := putF_len hlc.2.1 (by omega)
  refine dbn rfl rfl (add_str (by omega)) ?_
  have g811 := (g9.trans g10).trans g11
  refine WD.call (by repeat (first | exact trivial | refine ⟨by with_reducible assumption, ?_⟩)) rfl rfl (bwstr_ans S.toStdL h11 g11'.wf F d _ (encL l) (d8.grow g811) (by rw [List.length_append, e1, hll, htl, el]; omega)) ?_
  rintro _ h12 ⟨F', d12, c12, cm12⟩
  have g12 := Chg.newGrow g11' c12 hw (fun y hy => (hF y hy).1)
  have k12 : Cl h12 q (p.v x) := (k8.grow g811).chg c12 (fun hy => (hF q hy).2 rfl)
  have z12 : Cl h12 b5 [iv l.1, iv l.2] := (c9.grow (g10.trans g11)).chg c12 (fun hy => by have := hu _ hy; omega)
  have z0 : h12.rd b5 (0 + 0) = some (iv l.1) := z12.rd rfl
  have z1 : h12.rd b5 (0 + 1) = some (iv l.2) := z12.rd rfl
  refine WD.nil (by repeat (first | exact trivial | refine ⟨by with_reducible assumption, ?_⟩)) (WC.ops ?_)
  refine oad rfl rfl (by omega) <| omv rfl (WO.nil ⟨j + 1, ?_, ⟨hlt, g12, k12, F', ?_, fun y hy => ?_⟩, by omega⟩)
  ·exact Cov.cons rfl (Cov.cons rfl (Cov.cons rfl (Cov.cons rfl (Cov.cons (by simp [Env.get, iv]) (Cov.nil _)))))
  ·have e : putF (p.locs.length : Int) 1 ++ encLs (p.locs.take (j + 1)) = putF (p.locs.length : Int) 1 ++ encLs (p.locs.take j) ++ encL l := by
    rw [htk, encLs, List.map_append, List.flatten_append, ← List.append_assoc, encLs]; simp
   rw [e]; exact d12
  ·rcases cm12 y hy with r | r
   ·exact hF y r
   ·have := g11'.size; have := g811.size; exact ⟨by omega, by omega⟩
 obtain rfl : j = p.locs.length := by omega
 rw [List.take_length] at d8 hll
 refine obn rfl rfl (ltF (by omega)) (WO.nil (WC.seq (WC.cond rfl (fun hc => by cases hc) (fun hc => WC.exit (WC.seqD ?_)))))
 have f1 : h8.rd q (0 + 1) = some (iv p.len) := k8.rd rfl
 have f2 : h8.rd q (0 + 2) = some (iv p.birth) := k8.rd rfl
 have f3 : h8.rd q (0 + 3) = some (.str p.sum) := k8.rd rfl
 refine dfa rfl <| WD.load1 rfl f1 <| dfa rfl <| WD.load1 rfl f2 <| dfa rfl <| WD.load1 rfl f3 ?_
 refine WD.call (by repeat (first | exact trivial | refine ⟨by with_reducible assumption, ?_⟩)) rfl rfl (put_ans S.toStdM h8 g8.wf p.len 2) ?_
 rintro _ h9 ⟨rfl, g9⟩
 have f1' := g9.rd f1
 have f2' := g9.rd f2
 have f3' := g9.rd f3
 have g9' := g8.trans g9
 refine WD.call (by repeat (first | exact trivial | refine ⟨by with_reducible assumption, ?_⟩)) rfl rfl (put_ans S.toStdM h9 g9'.wf p.birth 6) ?_
 rintro _ h10 ⟨rfl, g10⟩
 have f1a := g10.rd f1'
 have f2a := g10.rd f2'
 have f3a := g10.rd f3'
 have g10' := g9'.trans g10
 have l1 : (putF p.len 2).length = 2 := putF_len o.ln.1 (by have := o.ln; omega)
 have l2 : (putF p.birth 6).length = 6 := putF_len o.bi.1 (by have := o.bi; omega)
 have l3 := o.sm
 refine dbn rfl rfl (add_str (by omega)) <| dbn rfl rfl (add_str (by rw [List.length_append]; omega)) ?_
 have g810 := g9.trans g10
 refine WD.call (by repeat (first | exact trivial | refine ⟨by with_reducible assumption, ?_⟩)) rfl rfl (bwstr_ans S.toStdL h10 g10'.wf F d _ _ (d8.grow g810) (by simp only [List.length_append, e1, hll, l1, l2, l3]; omega)) ?_
 rintro _ h11 ⟨F', d11, c11, cm11⟩
 have g11 := Chg.newGrow g10' c11 hw (fun y hy => (hF y hy).1)
 have k11 : Cl h11 q (p.v x) := (k8.grow g810).chg c11 (fun hy => (hF q hy).2 rfl)
 have z1 : h11.rd q (0 + 1) = some (iv p.len) := k11.rd rfl
 have z2 : h11.rd q (0 + 2) = some (iv p.birth) := k11.rd rfl
 have z3 : h11.rd q (0 + 3) = some (.str p.sum) := k11.rd rfl
 refine WD.nil (by repeat (first | exact trivial | refine ⟨by with_reducible assumption, ?_⟩)) (WC.seqO ?_)
 refine WO.call rfl rfl (bstr_ans S.toStdL h11 g11.wf F' d (encP p) d11 (encP_byt hby) (by simp only [encP, List.length_append, e1, hll, l1, l2, l3]; omega)) ?_
 rintro _ h12 ⟨rfl, _, c12⟩
 have g12 := Chg.newGrow g11 c12 hw (fun y hy => by
  rcases cm11 y hy with r | r
  ·exact (hF y r).1
  ·have := g10'.size; omega)
 exact omv rfl <| omv rfl <| WO.nil <| WC.ret ⟨trivial, g12, rfl⟩
end
end Abs
end Go.Proofs.YtdebiolekbldiaaGreatDoor
namespace Go.Proofs.YtdebiolekbldiaaGreatDoor
namespace Abs
set_option linter.unusedVariables false
set_option linter.unusedSimpArgs false
open Go.RowKit
attribute [local irreducible] WO WC WD StepK Ans Does Runs DoesD
theorem ressCT {e : List (Nat × V)} {h : Heap} {a b : Nat} {n : Option Nat} {x v w : V} (ea : Env.get e a = some x) (hl : loadA h n x = some v) (eb : Env.get e b = some w) : ressE e h [.cell a n, .tmp b] = some [v, w] := by
 simp only [ressE, resE, ea, hl, eb]
theorem encLs_cons (l : Int × Int) (r : List (Int × Int)) : encLs (l :: r) = encL l ++ encLs r := rfl
section
variable {C : Cfg} (S : StdO C)
include S
end
end Abs
end Go.Proofs.YtdebiolekbldiaaGreatDoor
namespace Go.Proofs.YtdebiolekbldiaaGreatDoor
namespace Abs
set_option linter.unusedVariables false
set_option linter.unusedSimpArgs false
open Go.RowKit
attribute [local irreducible] WO WC WD StepK Ans Does Runs DoesD
def blkOf : V → Option Nat
 | .slice (some (b, _)) _ _ => some b
 | .oslice b _ _ _ _ => some b
 | _ => none
theorem rds_keep {h h' : Heap} {b o n : Nat} {vs : List V} (hr : h.rds b o n = some vs) (hk : ∀ ob, h.get b = some ob → h'.get b = some ob) : h'.rds b o n = some vs := by
 simp only [Heap.rds] at hr ⊢
 split at hr
 ·rename_i q; rw [hk _ q]; exact hr
 ·cases hr
theorem Sl.keepB {h h' : Heap} {sz : Nat} {x : V} {es : List (List V)} (s : Sl h sz x es) (hk : ∀ b, blkOf x = some b → ∀ ob, h.get b = some ob → h'.get b = some ob) : Sl h' sz x es := by
 refine ⟨s.1, ?_⟩
 have := s.2
 split at this
 ·exact this
 ·exact ⟨this.1, this.2.1, fun q => rds_keep (this.2.2 q) (hk _ rfl)⟩
 ·exact ⟨this.1, this.2.1, this.2.2.1, fun q => rds_keep (this.2.2.2 q) (hk _ rfl)⟩
 ·exact this
theorem Grown.blk {h : Heap} {low sz : Nat} {x : V} {es : List (List V)} (g : Grown h low sz x es) {b : Nat} (hb : blkOf x = some b) : low ≤ b := by
 obtain ⟨_, ⟨rfl, _⟩ | ⟨b', S, ty, rfl, _, q, _⟩⟩ := g
 ·cases hb
 ·cases hb; exact q.1
theorem Grown.blkLt {h : Heap} {low sz : Nat} {x : V} {es : List (List V)} (g : Grown h low sz x es) (hw : Wf h) {b : Nat} (hb : blkOf x = some b) : b < h.size := by
 obtain ⟨_, ⟨rfl, _⟩ | ⟨b', S, ty, rfl, _, q, q2⟩⟩ := g
 ·cases hb
 ·cases hb; exact Wf.lt hw q2
theorem Grown.keepB {h h' : Heap} {low sz : Nat} {x : V} {es : List (List V)} (g : Grown h low sz x es) (hk : ∀ b, blkOf x = some b → ∀ ob, h.get b = some ob → h'.get b = some ob) : Grown h' low sz x es :=
 g.frame fun b o q o2 l k z e => hk b (by rw [e]; rfl) o q
theorem Grown.same_len {h h' : Heap} {low low' sz : Nat} {x : V} {es fs : List (List V)} (g : Grown h low sz x es) (k : Grown h' low' sz x fs) : es.length = fs.length := by
 obtain ⟨_, ⟨rfl, rfl⟩ | ⟨b, S, ty, rfl, _⟩⟩ := g
 ·obtain ⟨_, ⟨_, rfl⟩ | ⟨b, S, ty, q, _⟩⟩ := k
  ·rfl
  ·cases q
 ·obtain ⟨_, ⟨q, _⟩ | ⟨b', S', ty', q, _⟩⟩ := k
  ·cases q
  ·injection q
def Dv.more (D : Dv) (l : List (Int × Int × List Nat)) : Dv := { D with ws := D.ws ++ l }
theorem Dv.more_nil (D : Dv) : D.more [] = D := by unfold Dv.more; rw [List.append_nil]
def wrs (locs : List (Int × Int)) (t : List Nat) : List (Int × Int × List Nat) := locs.map fun l => (l.1, l.2, t)
section
variable {C : Cfg} (S : StdO C)
include S
theorem bkWrite_ok (hSm : ∀ f args h v h', C.S f args h = some (some (v, h')) → HM h h') (hB h : Heap) (hw0 : Wf hB) (gB : Grow hB h) (ro : Ro hB) (b b0 b1 : Nat) (wv : V) (D : Dv) (d : DevAt hB.size h b b0 b1 wv D) (x : V) (p : Ptr) (t : List Nat)
  (sx : Sl h 2 x (p.locs.map rn)) (hx : ∀ c, blkOf x = some c → c ≠ b ∧ Off wv c) (hpt : p.len = t.length ∧ p.sum = ofF t) (o : p.ok) (hlc : ∀ l ∈ p.locs, l.2 < (D.s l.1).length ∧ D.l l.1 = false) (hws : D.ws.length ≤ 900000) :
  Ans C 90 [.ptr (some (b, 0)), x, .str t, iv p.birth] h fun r h' => ∃ y wv', r = .tuple [.agg (p.v y), iv 0] ∧ Grown h' h.size 2 y (p.locs.map rn) ∧ Grow hB h' ∧ DevAt hB.size h' b b0 b1 wv' (D.more (wrs p.locs t)) ∧ DFr h h' [b] wv wv' := by
 have hw := gB.wf
 obtain ⟨lb, lb0, lb1⟩ := d.lt hw
 have nb1 : hB.size ≤ h.size := gB.size
 have n1 := o.n1
 have n2 := o.n2
 have htl : t.length ≤ 960 := by have := o.ln; have := hpt.1; omega
 have hF : C.F 90 = some a90 := S.f rfl
 unfold a90 at hF
 refine Ans.loc hSm (S.s _ _ _ rfl) hF rfl rfl hw (fun h2 g2 hs2 hg2 => ?_) (fun v h1 hl hr _ => ?_)
 rotate_left
 ·exfalso
  obtain ⟨y, wv', _, _, _, d', _⟩ := hr
  have e1 := (Cl.of_get d'.B (hl b lb)).inj d.B
  have e2 : wv' = wv := by simp at e1; exact e1.2.2.2.2
  rw [e2] at d'
  have e3 := d'.W.same_len d.W
  simp only [Dv.more, wrs, List.length_append, List.length_map] at e3
  omega
 clear hF
 refine WC.seqO (WO.ops StepK.alloc ?_)
 have c8 : Cl (h2.push (.cells [.slice none 0 0, iv 0, iv 0, .str []] (.tip [] 0 none))) h2.size [.slice none 0 0, iv 0, iv 0, .str []] := Cl.new _ _ _
 have g3 := g2.push (.cells [.slice none 0 0, iv 0, iv 0, .str []] (.tip [] 0 none))
 have z3 : (h2.push (.cells [.slice none 0 0, iv 0, iv 0, .str []] (.tip [] 0 none))).size = h2.size + 1 := rfl
 change WO C _ _ (h2.push (.cells [.slice none 0 0, iv 0, iv 0, .str []] (.tip [] 0 none))) _
 generalize h2.push (.cells [.slice none 0 0, iv 0, iv 0, .str []] (.tip [] 0 none)) = h3 at *
 generalize h2.size = p8 at *
 refine omv rfl <| WO.nil <| WC.seqO ?_
 obtain ⟨y, h4, a1, a2, a3, a4, a5⟩ := Grown.append2 (h0 := h) (sz := 2) (bytes := 16) (tyK := none) (x := .slice none 0 0) (y := x) hw g3 (Grown.nil _ _ _) (sx.grow g3) (by decide) (by decide) (decide_eq_true (by simp; omega)) (fun c hc v hv => by
  obtain ⟨l, _, rfl⟩ := List.mem_map.1 hc
  simp at hv; rcases hv with rfl | rfl <;> rfl)
 rw [List.nil_append] at a2
 obtain ⟨yb, rfl⟩ : ∃ yb, y = .oslice yb 0 p.locs.length p.locs.length 2 := by
  obtain ⟨_, ⟨_, q⟩ | ⟨b', S', ty', q, _⟩⟩ := a2
  ·have := congrArg List.length q; simp at this; rw [this] at n1; simp at n1
  ·rw [List.length_map] at q; exact ⟨b', q⟩
 generalize hyy : V.oslice yb 0 p.locs.length p.locs.length 2 = y at *
 have hfv : ∀ (s : List Nat), fillV [.slice none 0 0, iv 0, iv 0, .str []] [(0, 1, y), (1, 1, iv (t.length : Int)), (2, 1, iv p.birth), (3, 1, .str s)] = some [y, iv (t.length : Int), iv p.birth, .str s] := fun s => by rw [← hyy]; rfl
 have hy8 : Off y p8 := a5 p8 (by omega) (Off.nil _)
 have g34 : Grow h3 h4 := ⟨a3.wf, append_size a1, fun b o q => a4 b o q (Off.nil b)⟩
 replace c8 := c8.grow g34
 refine omv rfl <| WO.ops (StepK.append rfl rfl a1) <| omv rfl <| olt rfl <| omv rfl <| omv rfl ?_
 refine WO.call rfl rfl (Ans.sum (R := fun v h' => v = .str (ofF t) ∧ h' = h4) (S.of h4 t (by omega) ((ro.grow gB).grow a3)) ⟨rfl, rfl⟩) ?_
 rintro _ h4x ⟨rfl, e4⟩
 rw [e4]
 clear e4 h4x
 refine obu rfl (hfv _) <| WO.ops StepK.alloc ?_
 have hcs : [y, iv (t.length : Int), iv p.birth, .str (ofF t)] = p.v y := by rw [Ptr.v, hpt.1, hpt.2]
 have c10 : Cl (h4.push (.cells [.slice none 0 0, iv 0, iv 0, .str []] (.tip [] 0 none))) h4.size [.slice none 0 0, iv 0, iv 0, .str []] := Cl.new _ _ _
 have gp := (Grow.refl a3.wf).push (.cells [.slice none 0 0, iv 0, iv 0, .str []] (.tip [] 0 none))
 change WO C _ _ (h4.push (.cells [.slice none 0 0, iv 0, iv 0, .str []] (.tip [] 0 none))) _
 generalize h4.push (.cells [.slice none 0 0, iv 0, iv 0, .str []] (.tip [] 0 none)) = h5 at *
 obtain ⟨h6, b1', b2', b3', b4'⟩ := c10.sets gp.wf (i := 0) (us := [y, iv (t.length : Int), iv p.birth, .str (ofF t)]) (by simp) (by simp only [List.all_cons, List.all_nil, a2.one]; rfl)
 have k10 : Cl h6 h4.size (p.v y) := by rw [← hcs]; exact b2'
 have g46 : Grow h4 h6 := b3'.newGrow gp a3.wf (fun x hx => by obtain rfl := List.mem_singleton.1 hx; omega)
 have g6 := a3.trans g46
 have y6 := a2.grow g46
 replace c8 := c8.grow g46
 have l10 := k10.lt g6.wf
 have s34 := g34.size
 have hy10 : ∀ c, blkOf y = some c → c < h4.size := fun c hc => a2.blkLt a3.wf hc
 generalize h4.size = p10 at *
 refine WO.op (StepK.store (v := .agg [y, iv (t.length : Int), iv p.birth, .str (ofF t)]) rfl rfl rfl b1') <| WO.nil <| WC.seq <| WC.seqO ?_
 refine WO.ops (StepK.loadN rfl (k10.rds rfl)) ?_
 refine WO.call rfl rfl (ptCheck_ok S h6 g6.wf p o y y6.sl) ?_
 rintro _ h7 ⟨rfl, g67⟩
 have g7 := g6.trans g67
 replace k10 := k10.grow g67
 replace c8 := c8.grow g67
 have y7 := y6.grow g67
 have s67 := g67.size
 refine obn rfl rfl (neF rfl) <| WO.nil <| WC.cond rfl (fun hc => by cases hc) (fun hc => WC.skip (WC.seqO (omv rfl <| WO.nil <| WC.seq <| WC.seqO ?_)))
 have s7 := sx.grow g7
 have hln := s7.len
 rw [List.length_map] at hln
 have d7 := d.grow g7
 refine omv rfl <| ols rfl hln <| omv rfl <| WO.nil <| WC.block ?_
 refine WC.loop (σ := Nat) (fun j => [(0, .ptr (some (b, 0))), (1, x), (2, .str t), (8, .ptr (some (p8, 0))), (9, iv 0), (10, .ptr (some (p10, 0))), (11, .bool false), (28, x), (29, iv p.locs.length), (30, iv j)]) (fun j h' => j ≤ p.locs.length ∧ Grow h7 h') (fun j => p.locs.length - j) 0
  (Cov.cons rfl (Cov.cons rfl (Cov.cons rfl (Cov.cons rfl (Cov.cons rfl (Cov.cons rfl (Cov.cons rfl (Cov.cons rfl (Cov.cons rfl (Cov.cons rfl (Cov.nil _))))))))))) ⟨Nat.zero_le _, Grow.refl g7.wf⟩ ?_
 rintro j h8 ⟨hj, g78⟩
 have g8 := g7.trans g78
 refine WC.seqO ?_
 by_cases hlt : j < p.locs.length
 ·refine obn rfl rfl (ltT (by omega)) (WO.nil (WC.seq (WC.cond rfl (fun hc => WC.skip ?_) (fun hc => by cases hc))))
  obtain ⟨c, of, k1, k2⟩ := (sx.grow g8).at (i := j) (by simpa using hlt)
  rw [List.getElem_map] at k2
  have hl1 := o.lc _ (List.getElem_mem hlt)
  have hl2 := hlc _ (List.getElem_mem hlt)
  generalize p.locs[j] = l at *
  have hdv : isDev l.1 = true := by
   have : l.1 = 0 ∨ l.1 = 1 := by omega
   rcases this with q | q <;> rw [q] <;> rfl
  refine WC.seq (WC.block (WC.seqO ?_))
  refine WO.ops (StepK.idxSl rfl rfl k1) <| WO.ops (StepK.loadN rfl k2) <| WO.ops StepK.alloc ?_
  obtain ⟨h9, w9, g9, _, r9⟩ := box_two (x := iv 0) (y := iv 0) (u := iv l.1) (w := iv l.2) (Grow.refl g8.wf) rfl rfl
  have r0 : h9.rd h8.size (0 + 0) = some (iv l.1) := rd_get r9 rfl
  have r1 : h9.rd h8.size (0 + 1) = some (iv l.2) := rd_get r9 rfl
  generalize h8.size = b5 at *
  refine WO.op (StepK.store rfl rfl rfl w9) <| WO.nil <| WC.seq <| WC.seqD ?_
  have g09 := g8.trans g9
  refine dfa rfl <| WD.load1 rfl r1 <| dmv rfl <| dfa rfl <| WD.load1 rfl r0 ?_
  refine WD.call (by repeat (first | exact trivial | refine ⟨by with_reducible assumption, ?_⟩)) rfl rfl (size_ans S h9 g09.wf b b0 b1 wv D (Cl.grow d.B g09) l.1) ?_
  rintro _ h10 ⟨rfl, g10⟩
  rw [if_pos hdv]
  have r0' := g10.rd r0
  have r1' := g10.rd r1
  refine dbn rfl rfl (geF (by omega)) <| WD.nil (by repeat (first | exact trivial | refine ⟨by with_reducible assumption, ?_⟩)) (WC.cond rfl (fun hc => by cases hc) (fun hc => WC.skip (WC.ops ?_)))
  have g010 := g09.trans g10
  refine omv rfl <| omv rfl <| WO.run rfl <| omv rfl <| WO.run rfl <| ofa rfl <| WO.run rfl <| old rfl r0' <| WO.run rfl ?_
  refine WO.call rfl rfl (lost_ans S h10 g010.wf b b0 b1 wv D (Cl.grow d.B g010) l.1) ?_
  rintro _ h11 ⟨rfl, g11⟩
  rw [hl2.2, Bool.and_false]
  refine opf rfl rfl <| omv rfl <| WO.nil <| WC.ops ?_
  refine oad rfl rfl (by omega) <| omv rfl (WO.nil ⟨j + 1, ?_, ⟨hlt, ((g78.trans g9).trans g10).trans g11⟩, by omega⟩)
  exact Cov.cons rfl (Cov.cons rfl (Cov.cons rfl (Cov.cons rfl (Cov.cons rfl (Cov.cons rfl (Cov.cons rfl (Cov.cons rfl (Cov.cons rfl (Cov.cons (by simp [Env.get, iv]) (Cov.nil _))))))))))
 refine obn rfl rfl (ltF (by omega)) (WO.nil (WC.seq (WC.cond rfl (fun hc => by cases hc) (fun hc => WC.exit (WC.seq (WC.seqO ?_))))))
 have gB8 := gB.trans g8
 have d8 := d.grow g8
 replace k10 := k10.grow g78
 replace c8 := c8.grow g78
 have y8 := y7.grow g78
 have s78 := g78.size
 refine omv rfl <| WO.nil <| WC.cond rfl (fun hc => by cases hc) (fun hc => WC.skip (WC.seq (WC.seqO ?_)))
 refine omv rfl <| ols rfl hln <| omv rfl <| WO.nil <| WC.block ?_
 have hoff : ∀ c, h.size ≤ c → Off wv c := fun c hc => d.W.offNew hw hc
 refine WC.loop (σ := Nat) (fun j => [(0, .ptr (some (b, 0))), (2, .str t), (8, .ptr (some (p8, 0))), (9, iv 0), (10, .ptr (some (p10, 0))), (52, x), (53, iv p.locs.length), (54, iv j)])
  (fun j h' => j ≤ p.locs.length ∧ Grow hB h' ∧ ∃ wv', DevAt hB.size h' b b0 b1 wv' (D.more (wrs (p.locs.take j) t)) ∧ DFr h8 h' [b] wv wv') (fun j => p.locs.length - j) 0
  (Cov.cons rfl (Cov.cons rfl (Cov.cons rfl (Cov.cons rfl (Cov.cons rfl (Cov.cons rfl (Cov.cons rfl (Cov.cons rfl (Cov.nil _))))))))) ⟨Nat.zero_le _, gB8, wv, by rw [show wrs (p.locs.take 0) t = [] from rfl, Dv.more_nil]; exact d8, DFr.refl⟩ ?_
 clear hlt hj j
 rintro j h9 ⟨hj, gB9, wv', d9, fr⟩
 have sx9 : Sl h9 2 x (p.locs.map rn) := (sx.grow g8).keepB fun c hc ob hob => fr.keep c ob hob (by simpa using (hx c hc).1) (hx c hc).2
 refine WC.seqO ?_
 by_cases hlt : j < p.locs.length
 ·refine obn rfl rfl (ltT (by omega)) (WO.nil (WC.seq (WC.cond rfl (fun hc => WC.skip ?_) (fun hc => by cases hc))))
  obtain ⟨c, of, k1, k2⟩ := sx9.at (i := j) (by simpa using hlt)
  rw [List.getElem_map] at k2
  have hl1 := o.lc _ (List.getElem_mem hlt)
  have hl2 := hlc _ (List.getElem_mem hlt)
  have htk : p.locs.take (j + 1) = p.locs.take j ++ [p.locs[j]] := List.take_succ_eq_append_getElem hlt
  generalize p.locs[j] = l at *
  have hdv : isDev l.1 = true := by
   have : l.1 = 0 ∨ l.1 = 1 := by omega
   rcases this with q | q <;> rw [q] <;> rfl
  refine WC.seq (WC.block (WC.seqO ?_))
  refine WO.ops (StepK.idxSl rfl rfl k1) <| WO.ops (StepK.loadN rfl k2) <| WO.ops StepK.alloc ?_
  obtain ⟨h10, w10, g10, _, r10⟩ := box_two (x := iv 0) (y := iv 0) (u := iv l.1) (w := iv l.2) (Grow.refl gB9.wf) rfl rfl
  have r2 : h10.rds h9.size 0 2 = some [iv l.1, iv l.2] := rds_all r10 rfl
  generalize h9.size = b5 at *
  refine WO.op (StepK.store rfl rfl rfl w10) <| WO.nil <| WC.ops <| omv rfl <| WO.ops (StepK.loadN rfl r2) <| omv rfl ?_
  have gB10 := gB9.trans g10
  have hm : (D.more (wrs (p.locs.take j) t)).may l.1 l.2 t.length = 0 := by
   unfold Dv.may
   rw [if_neg, if_neg]
   ·show ¬ D.l l.1 = true; rw [hl2.2]; decide
   ·rintro (q | q | q | q)
    ·rw [hdv] at q; cases q
    ·omega
    ·have : ((D.more (wrs (p.locs.take j) t)).s l.1).length = (D.s l.1).length := rfl
     omega
    ·omega
  have hlw : (D.more (wrs (p.locs.take j) t)).ws.length ≤ 1000000 := by
   simp only [Dv.more, wrs, List.length_append, List.length_map, List.length_take]; omega
  refine WO.call rfl rfl (write_ok S hB h10 hw0 gB10 b b0 b1 wv' _ (d9.grow g10) l.1 l.2 t hm hlw) ?_
  rintro _ h11 ⟨rfl, g11, wv2, d11, fr11⟩
  have e : ({ (D.more (wrs (p.locs.take j) t)) with ws := (D.more (wrs (p.locs.take j) t)).ws ++ [(l.1, l.2, t)] } : Dv) = D.more (wrs (p.locs.take (j + 1)) t) := by
   rw [htk]; simp [Dv.more, wrs]
  rw [e] at d11
  refine WO.nil <| WC.ops ?_
  refine oad rfl rfl (by omega) <| omv rfl (WO.nil ⟨j + 1, ?_, ⟨hlt, g11, wv2, d11, (fr.trans g8.wf (DFr.ofChg (g10.chg _))).trans g8.wf fr11⟩, by omega⟩)
  exact Cov.cons rfl (Cov.cons rfl (Cov.cons rfl (Cov.cons rfl (Cov.cons rfl (Cov.cons rfl (Cov.cons rfl (Cov.cons (by simp [Env.get, iv]) (Cov.nil _))))))))
 obtain rfl : j = p.locs.length := by omega
 rw [List.take_length] at d9
 refine obn rfl rfl (ltF (by omega)) (WO.nil (WC.seq (WC.cond rfl (fun hc => by cases hc) (fun hc => WC.exit (WC.seqO ?_)))))
 have hp8 : p8 ∉ [b] := by simp; omega
 have hp10 : p10 ∉ [b] := by simp; omega
 have k9 := fr.chg k10 hp10 (hoff _ (by omega))
 have c9 := fr.chg c8 hp8 (hoff _ (by omega))
 have hyb : ∀ c, blkOf y = some c → h.size ≤ c ∧ c < p10 := fun c hc => ⟨a2.blk hc, hy10 c hc⟩
 have y9 := y8.keepB fun c hc ob hob => fr.keep c ob hob (by have := (hyb c hc).1; simp; omega) (hoff _ (hyb c hc).1)
 have hne8 : ∀ c, blkOf y = some c → c ≠ p8 := fun c hc => by
  rw [← hyy] at hc
  cases hc
  exact hy8 yb 0 _ _ _ hyy.symm
 obtain ⟨hZ, z1, z2, z3, z4⟩ := c9.sets gB9.wf (i := 0) (us := p.v y) (by simp [Ptr.v]) (by simp only [Ptr.v, List.all_cons, List.all_nil, a2.one]; rfl)
 have z2 : Cl hZ p8 (p.v y) := z2
 have ow8 : Off wv' p8 := fr.off _ (by omega) (hoff _ (by omega))
 have gZ := z3.newGrow gB9 hw0 (fun c hc => by obtain rfl := List.mem_singleton.1 hc; omega)
 have dZ := d9.chg z3 (fun c hc => by obtain rfl := List.mem_singleton.1 hc; exact ⟨by simp; omega, ow8⟩)
 have yZ := y9.keepB fun c hc ob hob => z3.keep c ob (by simpa using hne8 c hc) hob
 refine WO.ops (StepK.loadN rfl (k9.rds rfl)) <| WO.op (StepK.store (v := .agg (p.v y)) rfl rfl rfl z1) <| omv rfl <| WO.nil <| WC.ret ⟨trivial, .tuple [.agg (p.v y), iv 0], ?_, fun n => ⟨y, wv', rfl, yZ.same (fun _ => rfl), gZ.low1 n, { dZ with B := dZ.B, S0 := dZ.S0, S1 := dZ.S1, W := dZ.W.same (fun _ => rfl) }, ?_⟩⟩
 ·have hl : loadA hZ (some 4) (.ptr (some (p8, 0))) = some (.agg (p.v y)) := by
   have q1 : hZ.rds p8 0 4 = some (p.v y) := z2.rds rfl
   simp only [loadA, q1]
  simp only [retE]
  rw [show ressE _ hZ [.cell 8 (some 4), .tmp 9] = some [.agg (p.v y), iv 0] from ressCT rfl hl rfl]
  rfl
 ·have f1 : DFr h h8 [b] wv wv := DFr.ofChg (g8.chg _)
  have f2 := f1.trans hw fr
  refine ⟨Nat.le_trans f2.size z3.size, fun c ob q1 q2 q3 => ?_, f2.off⟩
  have := Wf.lt hw q1
  exact z3.keep c ob (by simp; omega) (f2.keep c ob q1 q2 q3)
end
end Abs
end Go.Proofs.YtdebiolekbldiaaGreatDoor
namespace Go.Proofs.YtdebiolekbldiaaGreatDoor
namespace Abs
set_option linter.unusedVariables false
set_option linter.unusedSimpArgs false
attribute [local irreducible] WO WC WD StepK Ans Does Runs DoesD
def tl1 : List (Int × Int) → List (Int × Int)
 | [] => []
 | r :: l => if r.2 = 1 then l else (r.1 + 1, r.2 - 1) :: l
theorem spMay_cons {last : Int} {r : Int × Int} {l : List (Int × Int)} : spMayF last (r :: l) = true ↔ (last < r.1 ∧ 1 ≤ r.2 ∧ r.2 ≤ 1073741824 ∧ r.1 ≤ 1073741824 - r.2) ∧ spMayF (r.1 + r.2) l = true := by
 simp only [spMayF]
 split
 ·constructor
  ·intro h; cases h
  ·rintro ⟨h1, _⟩; omega
 ·constructor
  ·intro h; exact ⟨by omega, h⟩
  ·exact fun h => h.2
theorem spMay_up : ∀ {l : List (Int × Int)} {a b : Int}, spMayF a l = true → b ≤ a → spMayF b l = true
 | [], _, _, _, _ => rfl
 | r :: l, a, b, h, hb => by
  rw [spMay_cons] at h ⊢
  exact ⟨by omega, h.2⟩
structure RunOk (R : List (Int × Int)) : Prop where
 may : spMayF (-1) R = true
 bd : ∀ r ∈ R, 4 ≤ r.1 ∧ r.1 + r.2 ≤ 512
theorem run_len : ∀ {R : List (Int × Int)} {last : Int}, -1 ≤ last → spMayF last R = true → (∀ r ∈ R, r.1 + r.2 ≤ 512) → last ≤ 512 → 2 * (R.length : Int) ≤ 512 - last
 | [], last, h0, h, hb, h1 => by simp; omega
 | r :: l, last, h0, h, hb, h1 => by
  rw [spMay_cons] at h
  have := hb r List.mem_cons_self
  have ih := run_len (by omega) h.2 (fun x hx => hb x (List.mem_cons_of_mem _ hx)) (by omega)
  simp only [List.length_cons]; omega
theorem RunOk.len {R : List (Int × Int)} (o : RunOk R) : R.length ≤ 256 := by
 have := run_len (by omega) o.may (fun r hr => (o.bd r hr).2) (by omega)
 omega
theorem RunOk.each {R : List (Int × Int)} (o : RunOk R) : ∀ r ∈ R, -9223372036854775808 ≤ r.2 ∧ r.2 < 9223372036854775808 := fun r hr => by
 have := spMayF_bounds R (-1) (by omega) o.may r hr
 omega
theorem RunOk.tl {R : List (Int × Int)} (o : RunOk R) : RunOk (tl1 R) := by
 cases R with
 | nil => exact o
 | cons r l =>
  have h := o.may
  rw [spMay_cons] at h
  have hr := o.bd r List.mem_cons_self
  simp only [tl1]
  split
  ·exact ⟨spMay_up h.2 (by omega), fun x hx => o.bd x (List.mem_cons_of_mem _ hx)⟩
  ·refine ⟨?_, fun x hx => ?_⟩
   ·rw [spMay_cons]
    dsimp only
    refine ⟨by omega, ?_⟩
    rw [show r.1 + 1 + (r.2 - 1) = r.1 + r.2 by omega]; exact h.2
   ·rcases List.mem_cons.1 hx with rfl | q
    ·dsimp only; omega
    ·exact o.bd x (List.mem_cons_of_mem _ q)
theorem spTake_one {R : List (Int × Int)} (o : RunOk R) : spTakeF R 1 = match R with | [] => (0, [], false) | r :: l => (r.1, tl1 (r :: l), true) := by
 unfold spTakeF
 rw [if_neg (by rw [o.may]; simp)]
 cases R with
 | nil => simp [spIdxF]
 | cons r l =>
  have h := o.may
  rw [spMay_cons] at h
  have e : spIdxF (fun r => decide (r.2 ≥ 1)) 0 (r :: l) = 0 := by simp only [spIdxF]; rw [if_pos (by simp; omega)]
  dsimp only
  rw [e]
  simp only [tl1]
  by_cases q : r.2 = 1
  ·simp [q]
  ·simp [q]
def Fre (R : List (Int × Int)) (a : Int) : Prop := ∃ r ∈ R, r.1 ≤ a ∧ a < r.1 + r.2
theorem fre_low : ∀ {R : List (Int × Int)} {last : Int}, spMayF last R = true → ∀ {a}, Fre R a → last < a
 | r :: l, last, h, a, ⟨x, hx, h1, h2⟩ => by
  rw [spMay_cons] at h
  rcases List.mem_cons.1 hx with rfl | q
  ·omega
  ·have := fre_low h.2 ⟨x, q, h1, h2⟩
   omega
theorem fre_tl {r : Int × Int} {l : List (Int × Int)} (o : RunOk (r :: l)) (a : Int) : Fre (tl1 (r :: l)) a ↔ Fre (r :: l) a ∧ a ≠ r.1 := by
 have h := o.may
 rw [spMay_cons] at h
 have hlow : Fre l a → r.1 + r.2 < a := fun q => fre_low h.2 q
 simp only [tl1]
 split
 ·constructor
  ·rintro ⟨x, hx, h1, h2⟩
   have := hlow ⟨x, hx, h1, h2⟩
   exact ⟨⟨x, List.mem_cons_of_mem _ hx, h1, h2⟩, by omega⟩
  ·rintro ⟨⟨x, hx, h1, h2⟩, hne⟩
   rcases List.mem_cons.1 hx with rfl | q
   ·omega
   ·exact ⟨x, q, h1, h2⟩
 ·constructor
  ·rintro ⟨x, hx, h1, h2⟩
   rcases List.mem_cons.1 hx with rfl | q
   ·dsimp only at h1 h2; exact ⟨⟨r, List.mem_cons_self, by omega, by omega⟩, by omega⟩
   ·have := hlow ⟨x, q, h1, h2⟩
    exact ⟨⟨x, List.mem_cons_of_mem _ q, h1, h2⟩, by omega⟩
  ·rintro ⟨⟨x, hx, h1, h2⟩, hne⟩
   rcases List.mem_cons.1 hx with rfl | q
   ·exact ⟨_, List.mem_cons_self, by dsimp only; omega, by dsimp only; omega⟩
   ·exact ⟨x, List.mem_cons_of_mem _ q, h1, h2⟩
theorem fre_hd {r : Int × Int} {l : List (Int × Int)} (o : RunOk (r :: l)) : Fre (r :: l) r.1 := by
 have h := o.may
 rw [spMay_cons] at h
 exact ⟨r, List.mem_cons_self, by omega, by omega⟩
theorem fre_bd {R : List (Int × Int)} (o : RunOk R) {a : Int} (h : Fre R a) : 4 ≤ a ∧ a < 512 := by
 obtain ⟨r, hr, h1, h2⟩ := h
 have := o.bd r hr
 omega
def cnt : List (Int × Int) → Int
 | [] => 0
 | r :: l => r.2 + cnt l
theorem cnt_pos : ∀ {R : List (Int × Int)} {last : Int}, spMayF last R = true → 0 ≤ cnt R ∧ (cnt R = 0 → R = [])
 | [], _, _ => ⟨Int.le_refl _, fun _ => rfl⟩
 | r :: l, last, h => by
  rw [spMay_cons] at h
  have := (cnt_pos h.2).1
  simp only [cnt]
  exact ⟨by omega, fun q => by omega⟩
theorem cnt_le : ∀ {R : List (Int × Int)} {last : Int}, -1 ≤ last → spMayF last R = true → (∀ r ∈ R, r.1 + r.2 ≤ 512) → last ≤ 512 → cnt R ≤ 512 - last
 | [], last, h0, h, hb, h1 => by simp only [cnt]; omega
 | r :: l, last, h0, h, hb, h1 => by
  rw [spMay_cons] at h
  have := hb r List.mem_cons_self
  have ih := cnt_le (by omega) h.2 (fun x hx => hb x (List.mem_cons_of_mem _ hx)) (by omega)
  simp only [cnt]; omega
theorem RunOk.cnt {R : List (Int × Int)} (o : RunOk R) : 0 ≤ cnt R ∧ cnt R ≤ 513 ∧ (cnt R = 0 ↔ R = []) := by
 have h1 := cnt_pos o.may
 have h2 := cnt_le (by omega) o.may (fun r hr => (o.bd r hr).2) (by omega)
 exact ⟨h1.1, by omega, h1.2, fun q => by rw [q]; rfl⟩
theorem cnt_tl {r : Int × Int} {l : List (Int × Int)} : Abs.cnt (tl1 (r :: l)) = Abs.cnt (r :: l) - 1 := by
 simp only [tl1]
 split
 ·simp only [Abs.cnt]; omega
 ·simp only [Abs.cnt]; omega
theorem sum_cnt : ∀ {R : List (Int × Int)} {n last : Int}, 0 ≤ n → -1 ≤ last → spMayF last R = true → n + cnt R ≤ 1000000 → spSumF n R = n + cnt R
 | [], n, _, _, _, _, _ => by simp [spSumF, cnt]
 | r :: l, n, last, h0, hl, h, hb => by
  rw [spMay_cons] at h
  have hc := (cnt_pos h.2).1
  simp only [spSumF, cnt] at hb ⊢
  have e : wr64 (n + r.2) = n + r.2 := by unfold wr64; exact StepK.wrap64 (by omega) (by omega)
  rw [e, sum_cnt (by omega) (by omega) h.2 (by omega)]; omega
theorem RunOk.tot {R : List (Int × Int)} (o : RunOk R) : spTotF R = Abs.cnt R := by
 unfold spTotF
 rw [if_pos o.may, sum_cnt (by omega) (by omega) o.may (by have := o.cnt; omega)]; omega
def tk (R0 R1 : List (Int × Int)) (dl : List Int) : Nat → Option (List (Int × Int) × List (Int × Int) × List (Int × Int))
 | 0 => some ([], R0, R1)
 | j + 1 => match tk R0 R1 dl j with
  | none => none
  | some (ls, A, B) => if dl.getD j 0 = 0 then (match A with | [] => none | r :: l => some (ls ++ [(0, r.1)], tl1 (r :: l), B))
   else (match B with | [] => none | r :: l => some (ls ++ [(1, r.1)], A, tl1 (r :: l)))
theorem tk_none {R0 R1 : List (Int × Int)} {dl : List Int} : ∀ {j k : Nat}, tk R0 R1 dl j = none → j ≤ k → tk R0 R1 dl k = none
 | j, 0, h, hj => by
  obtain rfl : j = 0 := by omega
  exact h
 | j, k + 1, h, hj => by
  by_cases e : j = k + 1
  ·rw [← e]; exact h
  ·simp only [tk, tk_none h (by omega : j ≤ k)]
theorem tk_ok {R0 R1 : List (Int × Int)} {dl : List Int} (o0 : RunOk R0) (o1 : RunOk R1) : ∀ {j : Nat} {x : List (Int × Int) × List (Int × Int) × List (Int × Int)}, tk R0 R1 dl j = some x → RunOk x.2.1 ∧ RunOk x.2.2 ∧ x.1.length = j ∧ ∀ l ∈ x.1, (0 ≤ l.1 ∧ l.1 ≤ 1) ∧ (4 ≤ l.2 ∧ l.2 < 512)
 | 0, x, h => by cases h; exact ⟨o0, o1, rfl, fun l hl => by cases hl⟩
 | j + 1, x, h => by
  simp only [tk] at h
  split at h
  ·cases h
  ·rename_i ls A B hj
   obtain ⟨i1, i2, i3, i4⟩ := tk_ok o0 o1 hj
   dsimp only at i1 i2 i3 i4
   split at h
   ·split at h
    ·cases h
    ·rename_i r l
     cases h
     have hb := fre_bd i1 (fre_hd i1)
     refine ⟨i1.tl, i2, by simp [i3], fun y hy => ?_⟩
     rcases List.mem_append.1 hy with q | q
     ·exact i4 y q
     ·obtain rfl := List.mem_singleton.1 q; exact ⟨⟨by dsimp only; omega, by dsimp only; omega⟩, hb⟩
   ·split at h
    ·cases h
    ·rename_i r l
     cases h
     have hb := fre_bd i2 (fre_hd i2)
     refine ⟨i1, i2.tl, by simp [i3], fun y hy => ?_⟩
     rcases List.mem_append.1 hy with q | q
     ·exact i4 y q
     ·obtain rfl := List.mem_singleton.1 q; exact ⟨⟨by dsimp only; omega, by dsimp only; omega⟩, hb⟩
end Abs
end Go.Proofs.YtdebiolekbldiaaGreatDoor
