/- Layer 18: Open (for StoreRoom alone: nothing is said of the caches). Layer 18: choose, Put, PutData. Layer 18: Put, PutData, PutOn. -/
import Derived.Test.YtdebiolekbldiaaGreatDoorS17
import Derived.Test.YtdebiolekbldiaaGreatDoorN0
namespace Go.Proofs.YtdebiolekbldiaaGreatDoor
namespace Abs
set_option linter.unusedVariables false
set_option linter.unusedSimpArgs false
open Go.RowKit
attribute [local irreducible] WO WC WD StepK Ans Does Runs DoesD
theorem WD.newMap {C : Cfg} {q : Nat} {l : List DOp} {P : List (Nat × (Heap → Prop))} {e : List (Nat × V)} {h : Heap} {Q : List (Nat × V) → Heap → Prop} {d idx : Nat} {anc : List Nat}
  (hq : WD C (q + 1) l ((q, fun h1 => h1.get h.size = some (.map [] [] 0)) :: P) ((d, .map (some h.size)) :: e) (h.push (.map [] [] 0)) Q) : WD C q (⟨⟨some d, none, .makeMap⟩, idx, anc⟩ :: l) P e h Q := by
 unfold WD at hq ⊢
 intro tm hs
 refine DoesD.op rfl rfl (by simp only [opK]) (fun h1 hr => ?_) (hq _ (hs.set d _))
 simp only [okLater, if_true, K.isAlloc, opK, hr, get_push, sameObj]
section
variable {C : Cfg} (S : StdO C)
include S
theorem arcNew_no (h : Heap) (hw : Wf h) (n : Int) (hn : n < 1) : Ans C 62 [iv n] h fun r h' => r = .ptr none ∧ Grow h h' := by
 have hF : C.F 62 = some a62 := S.f rfl
 unfold a62 at hF
 refine Ans.val (fun _ _ => S.s _ _ _ rfl) hF rfl rfl hw (fun h2 g => ?_)
 clear hF
 refine WC.seqO (omv rfl <| WO.nil <| WC.seq <| WC.seqO ?_)
 refine omv rfl <| obn rfl rfl (ltT hn) <| omv rfl ?_
 (repeat (first | refine omv rfl ?_ | refine ols rfl (by first | with_reducible assumption | rfl) ?_ | refine ofa rfl ?_ | refine oad rfl rfl (by omega) ?_ | refine osb rfl rfl (by omega) ?_ | refine obn rfl rfl rfl ?_ | refine opt rfl rfl ?_ | refine opf rfl rfl ?_ | refine ont rfl ?_ | refine oeq rfl rfl rfl ?_ | refine oex rfl rfl ?_ | refine obu rfl rfl ?_ | refine ofd rfl rfl ?_ | refine olt rfl ?_ | refine onk rfl ?_ | refine old rfl (by first | with_reducible assumption | rfl) ?_ | refine WO.run rfl ?_ | refine WO.skip rfl rfl ?_ | refine WO.skipu rfl ?_))
 exact WO.nil <| WC.cond rfl (fun hc => WC.seqO (omv rfl (WO.nil (WC.ret ⟨trivial, g, rfl⟩)))) (fun hc => by cases hc)
def arc0 (n : Int) : List V := [.slice none 0 0, .slice none 0 0, .slice none 0 0, .slice none 0 0, iv 0, iv n]
theorem arcNew_ok (h : Heap) (hw : Wf h) (n : Int) (hn : 1 ≤ n ∧ n ≤ 64) : Ans C 62 [iv n] h fun r h' => ∃ a, r = .ptr (some (a, 0)) ∧ Grow h h' ∧ h.size ≤ a ∧ Cl h' a (arc0 n) := by
 have hF : C.F 62 = some a62 := S.f rfl
 unfold a62 at hF
 refine Ans.fn (fun _ _ => S.s _ _ _ rfl) hF rfl rfl hw (fun h2 g => ?_)
 clear hF
 refine WC.seqO (omv rfl <| WO.nil <| WC.seq <| WC.seqO ?_)
 refine omv rfl <| obn rfl rfl (ltF (by omega)) <| omv rfl <| WO.run rfl <| omv rfl <| WO.run rfl <| obn rfl rfl (gtF (by omega)) <| opf rfl rfl <| WO.nil <| WC.cond rfl (fun hc => by cases hc) (fun hc => WC.skip <| WC.seqO ?_)
 refine omv rfl <| obu rfl rfl <| WO.ops (StepK.box rfl) <| omv rfl <| WO.nil <| WC.ret ?_
 have gp := g.push (.cells (arc0 n) (.tip [] 0 none))
 have z := g.size
 refine ⟨trivial, gp.wf, .ptr (some (h2.size, 0)), rfl, fun h3 g3 => ⟨h2.size, rfl, gp.trans g3, z, Cl.grow (Cl.new h2 (arc0 n) none) g3⟩, fun hc => ?_⟩
 simp [V.scopd] at hc
 omega
end
theorem new_rd (m n : Nat) (reg : Nat) (hr : reg ≤ n) (hn : n ≤ 512) {g : Nat} (hg : g < (roomN reg + 6) / 7) : (Dv.new m n).rd 1 ((n - reg + 8 * g : Nat) : Int) = ([], 0) := by
 unfold roomN at hg
 have hm : (Dv.new m n).may 1 ((n - reg + 8 * g : Nat) : Int) 0 = 0 := by
  unfold Dv.may
  have e1 : ((Dv.new m n).s 1).length = n := by simp [Dv.new, Dv.s]
  rw [if_neg, if_neg]
  ·simp [Dv.new, Dv.l]
  ·rw [e1]
   simp [isDev]
   omega
 unfold Dv.rd
 rw [if_pos hm]
 have e2 : (Dv.new m n).last 1 ((n - reg + 8 * g : Nat) : Int) = none := by simp [Dv.new, Dv.last]
 rw [e2]
 have e3 : (Dv.new m n).s 1 = List.replicate n [] := rfl
 rw [e3]
 have e4 : ∀ i : Nat, (List.replicate n ([] : List Nat)).getD i [] = [] := fun i => by
  rw [List.getD_eq_getElem?_getD, List.getElem?_replicate]; split <;> rfl
 rw [e4]; rfl
def OpX (nb : Nat) (h : Heap) (s b b0 b1 n : Nat) (P : Pol) (T : SV) : Prop := True
theorem OpX.grow {nb : Nat} {h h' : Heap} {s b b0 b1 n : Nat} {P : Pol} {T : SV} (o : OpX nb h s b b0 b1 n P T) (g7 : Grow h h') : OpX nb h' s b b0 b1 n P T := trivial
section
variable {C : Cfg} (S : StdX C)
include S
theorem open_new (hSm : ∀ f args h v h', C.S f args h = some (some (v, h')) → HM h h') (nb : Nat) (h : Heap) (hw : Wf h) (ro : Ro h) (b b0 b1 : Nat) (wv : V) (D : Dv) (d : DevAt nb h b b0 b1 wv D) (f n : Nat) (hn2 : 2 ≤ n) (hfn : f + n ≤ D.s1.length) (hz : D.s1.length ≤ 1000) (hws : D.ws = [])
  (hrd : ∀ g, g < (roomN n + 6) / 7 → D.rd 1 ((f + 8 * g : Nat) : Int) = ([], 0)) :
  Ans C 63 [.ptr (some (b, 0)), iv f, iv n] h fun r h' => ∃ s, r = .ptr (some (s, 0)) ∧ Grow h h' ∧ h.size ≤ s := by
 obtain ⟨lb, lb0, lb1⟩ := d.lt hw
 have hF : C.F 63 = some a63 := S.f rfl
 unfold a63 at hF
 refine Ans.fn (fun _ _ => S.s _ _ _ rfl) hF rfl rfl hw (fun h2 g2 => ?_)
 clear hF
 have hR : roomN n ≤ n := by unfold roomN; omega
 refine WC.seqO (omv rfl (WO.nil (WC.seq (WC.seqO ?_))))
 refine omv rfl <| oeq rfl rfl (t := false) rfl <| omv rfl <| WO.run rfl <| omv rfl <| WO.run rfl <| obn rfl rfl (ltF (by omega)) <| opf rfl rfl <| omv rfl <| WO.run rfl <| omv rfl <| WO.run rfl <| obn rfl rfl (ltF (by omega)) <| opf rfl rfl <|
  omv rfl <| WO.run rfl <| omv rfl <| WO.run rfl <| omv rfl <| WO.run rfl ?_
 refine WO.call rfl rfl (size_ans S.toStdO h2 g2.wf b b0 b1 wv D (Cl.grow d.B g2) 1) ?_
 rintro _ h3 ⟨rfl, g23⟩
 rw [show (if isDev 1 = true then ((D.s 1).length : Int) else 0) = (D.s1.length : Int) from rfl]
 have g3 := g2.trans g23
 refine WO.run rfl <| omv rfl <| WO.run rfl <| osb rfl rfl (by omega) <| WO.run rfl <| obn rfl rfl (gtF (by omega)) <| opf rfl rfl <| WO.nil <| WC.cond rfl (fun hc => by cases hc) (fun hc => WC.skip (WC.seqO ?_))
 refine omv rfl <| omv rfl <| omv rfl <| WO.ops StepK.makeMap ?_
 have g4 := g3.push (.map [] [] 0)
 have z4 : (h3.push (.map [] [] 0)).size = h3.size + 1 := rfl
 have z3 := g3.size
 generalize h3.push (.map [] [] 0) = h4 at *
 generalize h3.size = mb at *
 refine obu rfl rfl <| WO.ops (StepK.box rfl) ?_
 have c5 : Cl (h4.push (.cells [.ptr (some (b, 0)), iv f, iv n, .map (some mb), iv 0, iv 0] (.tip [] 0 none))) h4.size [.ptr (some (b, 0)), iv f, iv n, .map (some mb), iv 0, iv 0] := Cl.new _ _ _
 have gp := (Grow.refl g4.wf).push (.cells [.ptr (some (b, 0)), iv f, iv n, .map (some mb), iv 0, iv 0] (.tip [] 0 none))
 change WO C _ _ (h4.push (.cells [.ptr (some (b, 0)), iv f, iv n, .map (some mb), iv 0, iv 0] (.tip [] 0 none))) _
 have g5 := g4.trans gp
 generalize h4.push (.cells [.ptr (some (b, 0)), iv f, iv n, .map (some mb), iv 0, iv 0] (.tip [] 0 none)) = h5 at *
 have zs := g4.size
 generalize h4.size = s at *
 refine omv rfl <| WO.nil <| WC.seqO <| omv rfl <| WO.nil <| WC.seq <| WC.seqO ?_
 refine omv rfl ?_
 refine WO.call rfl rfl (room_ans S.toStdO h5 g5.wf s n (c5.rd rfl) (by omega)) ?_
 rintro _ h6 ⟨rfl, g56⟩
 have g6 := g5.trans g56
 have c6 := c5.grow g56
 have ec : (roomN n : Int) + 7 - 1 = ((roomN n + 6 : Nat) : Int) := by omega
 refine oad rfl rfl (by omega) <| osb rfl rfl (by omega) ?_
 rw [ec]
 refine obn rfl rfl (quo_nat (roomN n + 6) 7 (by decide) (by omega)) <| omv rfl <| WO.nil (WC.block ?_)
 generalize hG : (roomN n + 6) / 7 = G at *
 have hG2 : G ≤ 1000 := by omega
 refine WC.loop (σ := Nat) (fun p => [(7, .ptr (some (s, 0))), (8, iv (-1)), (40, iv G), (41, iv p)])
  (fun p h' => p ≤ G ∧ Grow h h' ∧ Cl h' s [.ptr (some (b, 0)), iv f, iv n, .map (some mb), iv 0, iv 0]) (fun p => G - p) 0
  (Cov.cons rfl (Cov.cons rfl (Cov.cons rfl (Cov.cons rfl (Cov.nil _))))) ⟨Nat.zero_le _, g6, c6⟩ ?_
 rintro j h7 ⟨hj, g7, c7⟩
 refine WC.seqO ?_
 by_cases hlt : j < G
 ·refine obn rfl rfl (ltT (by omega)) (WO.nil (WC.seq (WC.cond rfl (fun hc => WC.skip ?_) (fun hc => by cases hc))))
  refine WC.seq (WC.block (WC.seqO (omv rfl <| omv rfl <| WO.nil (WC.seqO ?_))))
  refine omv rfl <| omv rfl ?_
  refine WO.call rfl rfl (load_none S.toStdO nb h7 g7.wf s b b0 b1 wv D (d.grow g7) f j _ _ _ _ c7 (by omega) (by omega) hws (hrd j hlt)) ?_
  rintro _ h8 ⟨rfl, g78⟩
  refine omv rfl <| oex rfl rfl <| oex rfl rfl <| WO.ops StepK.alloc ?_
  have gq := (Grow.refl g78.wf).push (.cells [iv 0, .slice none 0 0] (.tip [] 0 none))
  have k8 : Cl (h8.push (.cells [iv 0, .slice none 0 0] (.tip [] 0 none))) h8.size [iv 0, .slice none 0 0] := Cl.new _ _ _
  change WO C _ _ (h8.push (.cells [iv 0, .slice none 0 0] (.tip [] 0 none))) _
  generalize h8.push (.cells [iv 0, .slice none 0 0] (.tip [] 0 none)) = h9 at *
  obtain ⟨h10, u1, u2, u3, u4⟩ := k8.sets gq.wf (i := 0) (us := [iv 0, .slice none 0 0]) (by simp) rfl
  have g810 : Grow h8 h10 := u3.newGrow gq g78.wf (fun x hx => by obtain rfl := List.mem_singleton.1 hx; omega)
  have g10 := g78.trans g810
  refine WO.op (StepK.store (v := .agg [iv 0, .slice none 0 0]) rfl rfl rfl u1) <| omv rfl <| WO.nil (WC.seq (WC.seqO ?_))
  refine omv rfl <| ont rfl <| omv rfl ?_
  (repeat (first | refine omv rfl ?_ | refine ols rfl (by first | with_reducible assumption | rfl) ?_ | refine ofa rfl ?_ | refine oad rfl rfl (by omega) ?_ | refine osb rfl rfl (by omega) ?_ | refine obn rfl rfl rfl ?_ | refine opt rfl rfl ?_ | refine opf rfl rfl ?_ | refine ont rfl ?_ | refine oeq rfl rfl rfl ?_ | refine oex rfl rfl ?_ | refine obu rfl rfl ?_ | refine ofd rfl rfl ?_ | refine olt rfl ?_ | refine onk rfl ?_ | refine old rfl (by first | with_reducible assumption | rfl) ?_ | refine WO.run rfl ?_ | refine WO.skip rfl rfl ?_ | refine WO.skipu rfl ?_))
  refine WO.nil (WC.cond rfl (fun hc => WC.exit (WC.ops ?_)) (fun hc => by cases hc))
  exact oad rfl rfl (by omega) <| omv rfl (WO.nil ⟨j + 1, Cov.cons rfl (Cov.cons rfl (Cov.cons rfl (Cov.cons rfl (Cov.nil _)))), ⟨hlt, g7.trans g10, c7.grow g10⟩, by omega⟩)
 ·obtain rfl : j = G := by omega
  refine obn rfl rfl (ltF (by omega)) (WO.nil (WC.seq (WC.cond rfl (fun hc => by cases hc) (fun hc => WC.exit (WC.seqO ?_)))))
  refine omv rfl <| omv rfl <| WO.nil <| WC.ret ⟨trivial, g7.wf, .ptr (some (s, 0)), rfl, fun h8 g8 => ⟨s, rfl, g7.trans g8, by omega⟩, fun hc => ?_⟩
  change (V.ptr (some (s, 0))).scopd h.size = true at hc
  simp [V.scopd] at hc
  omega
end
section
variable {C : Cfg} (S : StdO C)
include S
theorem stOpen_nil (h : Heap) (hw : Wf h) (P : Pol) (y : V) (tx : Int) : Ans C 27 [.ptr none, .agg P.v, y, iv tx] h fun r h' => r = .tuple [.ptr none, iv 1] ∧ Grow h h' := by
 have hF : C.F 27 = some a27 := S.f rfl
 unfold a27 at hF
 refine Ans.val (fun _ _ => S.s _ _ _ rfl) hF rfl rfl hw (fun h2 g2 => ?_)
 clear hF
 refine WC.seqO (WO.ops (StepK.box rfl) ?_)
 have g3 := g2.push (.cells P.v (.tip [] 0 none))
 change WO C _ _ (h2.push (.cells P.v (.tip [] 0 none))) _
 generalize h2.push (.cells P.v (.tip [] 0 none)) = h3 at *
 refine omv rfl <| omv rfl <| WO.nil <| WC.seq <| WC.seqO ?_
 refine omv rfl <| oeq rfl rfl (t := true) rfl <| omv rfl ?_
 (repeat (first | refine omv rfl ?_ | refine ols rfl (by first | with_reducible assumption | rfl) ?_ | refine ofa rfl ?_ | refine oad rfl rfl (by omega) ?_ | refine osb rfl rfl (by omega) ?_ | refine obn rfl rfl rfl ?_ | refine opt rfl rfl ?_ | refine opf rfl rfl ?_ | refine ont rfl ?_ | refine oeq rfl rfl rfl ?_ | refine oex rfl rfl ?_ | refine obu rfl rfl ?_ | refine ofd rfl rfl ?_ | refine olt rfl ?_ | refine onk rfl ?_ | refine old rfl (by first | with_reducible assumption | rfl) ?_ | refine WO.run rfl ?_ | refine WO.skip rfl rfl ?_ | refine WO.skipu rfl ?_))
 exact WO.nil <| WC.cond rfl (fun hc => WC.seqO (omv rfl <| omv rfl <| WO.nil <| WC.ret ⟨trivial, g3, rfl⟩)) (fun hc => by cases hc)
theorem stOpen_pol (h : Heap) (hw : Wf h) (b : Nat) (P : Pol) (hP : ¬ P.ok) (y : V) (tx : Int) : Ans C 27 [.ptr (some (b, 0)), .agg P.v, y, iv tx] h fun r h' => r = .tuple [.ptr none, iv 1] ∧ Grow h h' := by
 have hF : C.F 27 = some a27 := S.f rfl
 unfold a27 at hF
 refine Ans.val (fun _ _ => S.s _ _ _ rfl) hF rfl rfl hw (fun h2 g2 => ?_)
 clear hF
 refine WC.seqO (WO.ops (StepK.box rfl) ?_)
 have cp : Cl (h2.push (.cells P.v (.tip [] 0 none))) h2.size P.v := Cl.new _ _ _
 have g3 := g2.push (.cells P.v (.tip [] 0 none))
 change WO C _ _ (h2.push (.cells P.v (.tip [] 0 none))) _
 generalize h2.push (.cells P.v (.tip [] 0 none)) = h3 at *
 generalize h2.size = p at *
 refine omv rfl <| omv rfl <| WO.nil <| WC.seq <| WC.seqO ?_
 refine omv rfl <| oeq rfl rfl (t := false) rfl <| omv rfl <| WO.run rfl <| WO.ops (StepK.loadN rfl (cp.rds rfl)) <| WO.run rfl ?_
 refine WO.call rfl rfl (clCheck_ans S h3 g3.wf P) ?_
 rintro _ h4 ⟨rfl, g34⟩
 rw [if_neg hP]
 exact WO.run rfl <| obn rfl rfl (neT (by decide)) <| opf rfl rfl <| WO.nil <| WC.cond rfl (fun hc => WC.seqO (omv rfl <| omv rfl <| WO.nil <| WC.ret ⟨trivial, g3.trans g34, rfl⟩)) (fun hc => by cases hc)
theorem dnew_no (h : Heap) (hw : Wf h) (m n : Int) (hmn : ¬ ((1 ≤ m ∧ m ≤ 512) ∧ (1 ≤ n ∧ n ≤ 512))) : Ans C 28 [iv m, iv n] h fun r h' => r = .ptr none ∧ Grow h h' := by
 have hF : C.F 28 = some a28 := S.f rfl
 unfold a28 at hF
 refine Ans.val (fun _ _ => S.s _ _ _ rfl) hF rfl rfl hw (fun h2 g => ?_)
 clear hF
 refine WC.seqO (omv rfl (WO.nil (WC.seq (WC.seqO ?_))))
 refine omv rfl <| omv rfl <| omn rfl rfl ?_
 by_cases e1 : (if n < m then n else m) < 1
 ·refine obn rfl rfl (ltT e1) <| omv rfl ?_
  (repeat (first | refine omv rfl ?_ | refine ols rfl (by first | with_reducible assumption | rfl) ?_ | refine ofa rfl ?_ | refine oad rfl rfl (by omega) ?_ | refine osb rfl rfl (by omega) ?_ | refine obn rfl rfl rfl ?_ | refine opt rfl rfl ?_ | refine opf rfl rfl ?_ | refine ont rfl ?_ | refine oeq rfl rfl rfl ?_ | refine oex rfl rfl ?_ | refine obu rfl rfl ?_ | refine ofd rfl rfl ?_ | refine olt rfl ?_ | refine onk rfl ?_ | refine old rfl (by first | with_reducible assumption | rfl) ?_ | refine WO.run rfl ?_ | refine WO.skip rfl rfl ?_ | refine WO.skipu rfl ?_))
  exact WO.nil <| WC.cond rfl (fun hc => WC.seqO (omv rfl <| WO.nil <| WC.ret ⟨trivial, g, rfl⟩)) (fun hc => by cases hc)
 have e2 : 512 < (if n > m then n else m) := by split at e1 <;> split <;> omega
 exact obn rfl rfl (ltF e1) <| omv rfl <| WO.run rfl <| omv rfl <| WO.run rfl <| omv rfl <| WO.run rfl <| omx rfl rfl <| WO.run rfl <| obn rfl rfl (gtT e2) <| opf rfl rfl <| WO.nil <| WC.cond rfl (fun hc => WC.seqO (omv rfl <| WO.nil <| WC.ret ⟨trivial, g, rfl⟩)) (fun hc => by cases hc)
end
theorem Dv.new_len0 (m n : Nat) : (Dv.new m n).s0.length = m := by simp [Dv.new]
theorem Dv.new_len1 (m n : Nat) : (Dv.new m n).s1.length = n := by simp [Dv.new]
theorem FrU.of {h h0 : Heap} {F : List Nat} {u : V} {R : List (Int × Int)} (g : Grown h h0.size 2 u (R.map rn)) (o : RunOk R) (hF : ∀ x ∈ F, x < h0.size) : FrU h F (.slice none 0 0) u R :=
 ⟨g.sl, o, fun _ c hc => ⟨fun q => by have := hF _ q; have := g.blk hc; omega, Off.nil _⟩, g.one⟩
section
variable {C : Cfg} (S : StdX C)
include S
theorem stOpen_ok (hSm : ∀ f args h v h', C.S f args h = some (some (v, h')) → HM h h') (hB h : Heap) (hw0 : Wf hB) (gB : Grow hB h) (ro : Ro hB) (b b0 b1 m n : Nat) (hm : m ≤ 512) (hn : n ≤ 512) (d : DevAt hB.size h b b0 b1 (.slice none 0 0) (Dv.new m n)) (P : Pol) (hP : P.ok)
  (y : V) (us : List (Int × Int)) (sy : Sl h 2 y (us.map rn)) (hus : us.length ≤ 1000) (tx : Int) (htx : 0 ≤ tx ∧ tx ≤ 1099511627776) :
  Ans C 27 [.ptr (some (b, 0)), .agg P.v, y, iv tx] h fun r h' => (¬ UsOk m n us → r = .tuple [.ptr none, iv 1] ∧ Grow h h') ∧ (UsOk m n us → ∃ s T u0 u1, r = .tuple [.ptr (some (s, 0)), iv 0] ∧ Grow h h' ∧ h.size ≤ s ∧
   StAt hB h' s b b0 b1 (.slice none 0 0) (Dv.new m n) T u0 u1 (TM0 m n (regN P.sec n) us 0) (TM0 m n (regN P.sec n) us 1) ∧ T.P = P ∧ T.txg = tx ∧ OpX hB.size h' s b b0 b1 n P T) := by
 have hw := gB.wf
 obtain ⟨lb, lb0, lb1⟩ := d.lt hw
 have zB := gB.size
 have hF : C.F 27 = some a27 := S.f rfl
 unfold a27 at hF
 refine Ans.fn (fun _ _ => S.toStdO.s _ _ _ rfl) hF rfl rfl hw (fun h2 g2 => ?_)
 clear hF
 refine WC.seqO (WO.ops (StepK.box rfl) ?_)
 have cp : Cl (h2.push (.cells P.v (.tip [] 0 none))) h2.size P.v := Cl.new _ _ _
 have g3 := g2.push (.cells P.v (.tip [] 0 none))
 change WO C _ _ (h2.push (.cells P.v (.tip [] 0 none))) _
 generalize h2.push (.cells P.v (.tip [] 0 none)) = h3 at *
 generalize h2.size = p at *
 refine omv rfl <| omv rfl <| WO.nil <| WC.seq <| WC.seqO ?_
 refine omv rfl <| oeq rfl rfl (t := false) rfl <| omv rfl <| WO.run rfl <| WO.ops (StepK.loadN rfl (cp.rds rfl)) <| WO.run rfl ?_
 refine WO.call rfl rfl (clCheck_ans S.toStdO h3 g3.wf P) ?_
 rintro _ h4 ⟨rfl, g34⟩
 rw [if_pos hP]
 have g4 := g3.trans g34
 have cp4 := cp.grow g34
 refine WO.run rfl <| obn rfl rfl (neF rfl) <| opf rfl rfl <| WO.nil <| WC.cond rfl (fun hc => by cases hc) (fun hc => WC.skip <| WC.seqD ?_)
 have q5 : h4.rds p 0 5 = some P.v := cp4.rds rfl
 have q3 : h4.rd p (0 + 3) = some (iv P.arc) := cp4.rd (i := 3) rfl
 refine dmv rfl <| WD.loadN rfl q5 <| dfa rfl <| WD.load1 rfl q3 <| WD.newMap ?_
 have m5 : (h4.push (.map [] [] 0)).get h4.size = some (.map [] [] 0) := get_push_self _ _
 have g45 := (Grow.refl g4.wf).push (.map [] [] 0)
 have z5 : (h4.push (.map [] [] 0)).size = h4.size + 1 := rfl
 generalize h4.push (.map [] [] 0) = h5 at *
 have z4 := g4.size
 generalize h4.size = mb at *
 have g5 := g4.trans g45
 have q5' := g45.rds q5
 have q3' := g45.rd q3
 have arcA : Ans C 62 [iv P.arc] h5 fun r h' => Grow h5 h' ∧ ((P.arc < 1 ∧ r = .ptr none) ∨ (1 ≤ P.arc ∧ ∃ a, r = .ptr (some (a, 0)) ∧ Cl h' a (arc0 P.arc) ∧ h5.size ≤ a ∧ a < h'.size)) := by
  by_cases ha : P.arc < 1
  ·exact (arcNew_no S.toStdO h5 g5.wf _ ha).mono fun r h' ⟨q1, q2⟩ => ⟨q2, .inl ⟨ha, q1⟩⟩
  ·exact (arcNew_ok S.toStdO h5 g5.wf _ ⟨by omega, hP.2.1.2⟩).mono fun r h' ⟨a, q1, q2, q3, q4⟩ => ⟨q2, .inr ⟨by omega, a, q1, q4, q3, q4.lt q2.wf⟩⟩
 refine WD.call (by repeat (first | exact trivial | refine ⟨by with_reducible assumption, ?_⟩)) rfl rfl arcA ?_
 rintro va h6 ⟨g56, hva⟩
 have g6 := g5.trans g56
 have m6 := g56.ext _ _ m5
 have q5'' := g56.rds q5'
 have q3'' := g56.rd q3'
 have ova : V.one va = true := by rcases hva with ⟨_, rfl⟩ | ⟨_, a, rfl, _⟩ <;> rfl
 have hcv : va.cellsOf = [va] := one_cells ova
 have bld : fillV [.ptr none, .bool false, .bool false, iv 0, iv 0, iv 0, .slice none 0 0, .slice none 0 0, iv 0, .ptr none, .map none, .ptr none, iv 0, iv 0, iv 0] [(0, 1, .ptr (some (b, 0))), (1, 5, .agg P.v), (9, 1, va), (10, 1, .map (some mb))] = some [.ptr (some (b, 0)), .bool P.fast, .bool P.mirror, iv P.small, iv P.arc, iv P.sec, .slice none 0 0, .slice none 0 0, iv 0, va, .map (some mb), .ptr none, iv 0, iv 0, iv 0] := by
  simp only [fillV, hcv]; rfl
 refine dbu rfl bld <| WD.alloc rfl (StepK.box rfl) ?_
 obtain ⟨T, hT⟩ : ∃ T : SV, T = ⟨P, 0, va, .map (some mb), .ptr none, iv 0, iv 0, iv 0⟩ := ⟨_, rfl⟩
 have ecs : (V.agg [.ptr (some (b, 0)), .bool P.fast, .bool P.mirror, iv P.small, iv P.arc, iv P.sec, .slice none 0 0, .slice none 0 0, iv 0, va, .map (some mb), .ptr none, iv 0, iv 0, iv 0]).cellsOf = stC b T (.slice none 0 0) (.slice none 0 0) := by rw [hT]; rfl
 rw [ecs]
 have n7 : (h6.push (.cells (stC b T (.slice none 0 0) (.slice none 0 0)) (.tip [] 0 none))).get h6.size = some (.cells (stC b T (.slice none 0 0) (.slice none 0 0)) (.tip [] 0 none)) := get_push_self _ _
 have c7 : Cl (h6.push (.cells (stC b T (.slice none 0 0) (.slice none 0 0)) (.tip [] 0 none))) h6.size (stC b T (.slice none 0 0) (.slice none 0 0)) := Cl.new _ _ _
 have g67 := (Grow.refl g6.wf).push (.cells (stC b T (.slice none 0 0) (.slice none 0 0)) (.tip [] 0 none))
 have z7 : (h6.push (.cells (stC b T (.slice none 0 0) (.slice none 0 0)) (.tip [] 0 none))).size = h6.size + 1 := rfl
 generalize h6.push (.cells (stC b T (.slice none 0 0) (.slice none 0 0)) (.tip [] 0 none)) = h7 at *
 have z56 := g56.size
 generalize h6.size = s at *
 have g7 := g6.trans g67
 have m7 := g67.ext _ _ m6
 have r5 := g67.rds q5''
 have r3 := g67.rd q3''
 refine dmv rfl <| WD.nil (by repeat (first | exact trivial | refine ⟨by with_reducible assumption, ?_⟩)) ?_
 show WC C _ _ _ _
 have ls : s < h7.size := by omega
 have z7' := g7.size
 have hn1 := Dv.new_len1 m n
 have hrg := regN_le P.sec n
 refine WC.seqM (M := fun e' h9 => Cov [(2, y), (3, iv tx), (10, .ptr (some (s, 0)))] e' ∧ ∃ vs, Chg [s] h7 h9 ∧ V.one vs = true ∧ Cl h9 s (stC b { T with vs := vs } (.slice none 0 0) (.slice none 0 0))) (WC.seqO ?_) (fun e' h9 hM => ?_)
 rotate_left
 ·obtain ⟨hcov, vs, C9, ovs, c9⟩ := hM
  refine WC.cov hcov ?_
  have g9 : Grow h h9 := C9.newGrow g7 hw (fun x hx => by obtain rfl := List.mem_singleton.1 hx; omega)
  refine WC.seq <| WC.seqO <| omv rfl <| omv rfl <| omv rfl ?_
  have hT1 : T.P = P := by rw [hT]
  have h0' : (Dv.new m n).s0.length ≤ 512 := by rw [Dv.new_len0]; exact hm
  have h1' : (Dv.new m n).s1.length ≤ 512 := by rw [hn1]; exact hn
  by_cases ok : UsOk m n us
  rotate_left
  ·have call := settle_bad S.toStdO h9 C9.wf s b b0 b1 _ _ (Cl.grow d.B g9) { T with vs := vs } (.slice none 0 0) (.slice none 0 0) rfl rfl c9 h0' h1' y us (sy.grow g9) hus tx htx (by rw [Dv.new_len0, hn1]; exact ok)
   refine WO.call rfl rfl call ?_
   rintro _ h10 ⟨rfl, g10⟩
   refine omv rfl <| WO.nil <| WC.seqO <| omv rfl <| obn rfl rfl (neT (by decide)) <| WO.nil <| WC.cond rfl (fun hc => WC.seqO <| omv rfl <| omv rfl <| omv rfl <| WO.nil <| WC.ret ?_) (fun hc => by cases hc)
   exact ⟨trivial, g10.wf, .tuple [.ptr none, iv 1], rfl, fun h11 g11 => ⟨fun _ => ⟨rfl, (g9.trans g10).trans g11⟩, fun q => absurd q ok⟩, fun _ => ⟨fun _ => ⟨rfl, Grow.refl hw⟩, fun q => absurd q ok⟩⟩
  have call := settle_ok S.toStdO h9 C9.wf s b b0 b1 _ _ (Cl.grow d.B g9) { T with vs := vs } (.slice none 0 0) (.slice none 0 0) rfl rfl c9 h0' h1' y us (sy.grow g9) hus tx htx (by rw [Dv.new_len0, hn1]; exact ok)
  refine WO.call rfl rfl call ?_
  rintro r h10 ⟨rfl, u0, u1, C10, c10, k0, k1⟩
  rw [Dv.new_len0, hn1] at k0 k1
  have hTP : ({ T with vs := vs } : SV).P = P := hT1
  rw [hTP] at k0 k1
  have z79 := C9.size
  have z9 := C10.size
  refine omv rfl <| WO.nil <| WC.seqO <| omv rfl <| obn rfl rfl (neF rfl) <| WO.nil <| WC.cond rfl (fun hc => by cases hc) (fun hc => WC.skip <| WC.seqO <| omv rfl <| omv rfl <| omv rfl <| WO.nil <| WC.ret ?_)
  have g10 : Grow h h10 := C10.newGrow g9 hw (fun x hx => by obtain rfl := List.mem_singleton.1 hx; omega)
  refine ⟨trivial, C10.wf, .tuple [.ptr (some (s, 0)), iv 0], rfl, fun h11 g11 => ⟨fun q => absurd ok q, fun _ => ⟨s, { T with vs := vs, txg := tx }, u0, u1, rfl, g10.trans g11, by omega, ?_, hT1, rfl, ?_⟩⟩, fun hc => ?_⟩
  ·refine StAt.grow (h := h10) ?_ g11
   refine ⟨gB.trans g10, d.grow g10, c10, by omega, by simp; omega, Off.nil _, FrU.of k0 (TM0_ok hm hn) (fun x hx => by simp at hx; omega), FrU.of k1 (TM0_ok hm hn) (fun x hx => by simp at hx; omega), rfl, rfl, fun a ha => ?_, fun a ha => ?_, htx, by show T.P.ok; rw [hT1]; exact hP⟩
   ·obtain ⟨k, q1, q2, q3⟩ := (TM0_fre hm hn a).1 ha
    rw [Dv.new_len0]
    simp only [if_true] at q1
    omega
   ·obtain ⟨k, q1, q2, q3⟩ := (TM0_fre hm hn a).1 ha
    rw [hn1]
    simp only [show ¬ (1 : Int) = 0 by decide, if_false] at q1
    omega
  ·trivial
  ·simp [V.scopd, V.scopeds] at hc; omega
 refine omv rfl ?_
 refine WO.call rfl rfl (region_ans S.toStdO h7 g7.wf s b b0 b1 _ _ (Cl.grow d.B g7) T _ _ c7 (by rw [hn1]; omega)) ?_
 rintro _ h8 ⟨rfl, g78⟩
 rw [hn1, show T.P = P by rw [hT]]
 have c8 := c7.grow g78
 have g8 := g7.trans g78
 have m8 := g78.ext _ _ m7
 have z8 := g78.size
 refine omv rfl <| WO.nil <| WC.seqO <| omv rfl ?_
 by_cases hr0 : regN P.sec n = 0
 ·rw [hr0]
  refine obn rfl rfl (gtF (by decide)) <| WO.nil <| WC.cond rfl (fun hc => by cases hc) (fun hc => WC.skip ⟨Cov.cons rfl (Cov.cons rfl (Cov.cons rfl (Cov.nil _))), .ptr none, ⟨g78.wf, g78.size, fun x o _ q => g78.ext x o q⟩, rfl, ?_⟩)
  rw [hT] at c8 ⊢
  exact c8
 refine obn rfl rfl (gtT (by omega)) <| WO.nil <| WC.cond rfl (fun hc => WC.ops ?_) (fun hc => by cases hc)
 refine omv rfl <| omv rfl <| omv rfl ?_
 refine WO.call rfl rfl (size_ans S.toStdO h8 g8.wf b b0 b1 _ _ (Cl.grow d.B g8) 1) ?_
 rintro _ h9 ⟨rfl, g89⟩
 rw [show (if isDev 1 = true then (((Dv.new m n).s 1).length : Int) else 0) = ((Dv.new m n).s1.length : Int) from rfl, hn1]
 have g9 := g8.trans g89
 refine omv rfl <| osb rfl rfl (by omega) <| omv rfl ?_
 have ei : (n : Int) - (regN P.sec n : Int) = ((n - regN P.sec n : Nat) : Int) := by omega
 rw [ei]
 have reg2 : 2 ≤ regN P.sec n := by
  unfold regN at hr0 ⊢
  split
  ·omega
  ·rename_i q; rw [if_neg q] at hr0; exact absurd rfl hr0
 refine WO.call rfl rfl (open_new S hSm hB.size h9 g9.wf ((ro.grow gB).grow g9) b b0 b1 _ _ (d.grow g9) (n - regN P.sec n) (regN P.sec n) reg2 (by rw [hn1]; omega) (by rw [hn1]; omega) rfl (fun g hg => new_rd m n _ (by omega) hn hg)) ?_
 rintro _ h10 ⟨xs, rfl, g910, xn⟩
 have z9 := g89.size
 have c10 := (c8.grow g89).grow g910
 obtain ⟨h11, t1, t2, t3, t4⟩ := c10.set g910.wf (i := 11) (by simp [stC]) (v := .ptr (some (xs, 0))) rfl
 have g710 := (g78.trans g89).trans g910
 refine onk rfl <| ofa rfl <| WO.op (StepK.store rfl rfl rfl t1) <| WO.nil ⟨Cov.cons rfl (Cov.cons rfl (Cov.cons rfl (Cov.nil _))), .ptr (some (xs, 0)), ⟨t3.wf, Nat.le_trans g710.size t3.size, fun x o hx q => t3.keep x o hx (g710.ext x o q)⟩, rfl, ?_⟩
 rw [hT] at t2 ⊢
 exact t2
end
end Abs
end Go.Proofs.YtdebiolekbldiaaGreatDoor
namespace Go.Proofs.YtdebiolekbldiaaGreatDoor
namespace Abs
set_option linter.unusedVariables false
set_option linter.unusedSimpArgs false
open Go.RowKit
attribute [local irreducible] WO WC WD StepK Ans Does Runs DoesD
def PutS (hB h : Heap) (s b b0 b1 : Nat) (wv : V) (D : Dv) (T : SV) (t : List Nat) (u0 u1 : V) (e : Int) : Option (List (Int × Int) × List (Int × Int) × List (Int × Int)) → V → Heap → Prop
 | none => fun r h' => r = .tuple [.str [], iv e] ∧ Grow h h'
 | some (ls, A, B) => fun r h' => r = .tuple [.str (encP (refP ls t T.txg)), iv 0] ∧ ∃ wv' u0' u1', StAt hB h' s b b0 b1 wv' (D.more (wrs ls t)) T u0' u1' A B ∧ DFr h h' [s, b] wv wv' ∧
   (A ≠ [] → ∀ c, blkOf u0' = some c → blkOf u0 = some c ∨ h.size ≤ c) ∧ (B ≠ [] → ∀ c, blkOf u1' = some c → blkOf u1 = some c ∨ h.size ≤ c)
theorem PutS.pre {hB h0 h h' : Heap} {s b b0 b1 : Nat} {wv : V} {D : Dv} {T : SV} {t : List Nat} {u0 u1 : V} {e : Int} {o : Option (List (Int × Int) × List (Int × Int) × List (Int × Int))} {r : V} (g : Grow h0 h) (hw : Wf h0) (ho : ∀ x, h0.size ≤ x → Off wv x) (p : PutS hB h s b b0 b1 wv D T t u0 u1 e o r h') : PutS hB h0 s b b0 b1 wv D T t u0 u1 e o r h' := by
 cases o with
 | none => exact ⟨p.1, g.trans p.2⟩
 | some x =>
  obtain ⟨ls, A, B⟩ := x
  obtain ⟨p1, wv', u0', u1', p2, p3, p4, p5⟩ := p
  have z := g.size
  refine ⟨p1, wv', u0', u1', p2, ⟨Nat.le_trans z p3.size, fun x o q1 q2 q3 => p3.keep x o (g.ext x o q1) q2 q3, fun x q1 q2 => p3.off x (by omega) q2⟩, fun hA c hc => (p4 hA c hc).imp id (fun q => by omega), fun hB c hc => (p5 hB c hc).imp id (fun q => by omega)⟩
theorem wish_cases (P : Pol) (kind size : Int) : wishF P kind size = [1, 0] ∨ wishF P kind size = [1] ∨ wishF P kind size = [0] := by
 unfold wishF
 split
 ·split
  ·split
   ·exact .inl rfl
   ·exact .inr (.inl rfl)
  ·exact .inr (.inr rfl)
 ·split
  ·exact .inr (.inr rfl)
  ·exact .inr (.inl rfl)
theorem chooseF_dl (P : Pol) (kind size a b : Int) : (chooseF P kind size a b = ([], 6) ∧ ¬ 0 < a) ∨ ((chooseF P kind size a b).2 = 0 ∧ ((chooseF P kind size a b).1 = [1, 0] ∧ 0 < a ∧ 0 < b ∨ (chooseF P kind size a b).1 = [1] ∧ 0 < b ∨ (chooseF P kind size a b).1 = [0] ∧ 0 < a)) := by
 unfold chooseF
 rcases wish_cases P kind size with h | h | h <;> rw [h] <;> by_cases ha : 0 < a <;> by_cases hb : 0 < b <;> simp [List.filter, frOf, ha, hb]
def stPutF (P : Pol) (kind : Int) (t : List Nat) (R0 R1 : List (Int × Int)) : Option (List (Int × Int) × List (Int × Int) × List (Int × Int)) :=
 if (chooseF P kind t.length (cnt R0) (cnt R1)).2 = 0 then tk R0 R1 (chooseF P kind t.length (cnt R0) (cnt R1)).1 (chooseF P kind t.length (cnt R0) (cnt R1)).1.length else none
theorem StAt.off {hB h : Heap} {s b b0 b1 : Nat} {wv : V} {D : Dv} {T : SV} {u0 u1 : V} {R0 R1 : List (Int × Int)} (x : StAt hB h s b b0 b1 wv D T u0 u1 R0 R1) : ∀ y, h.size ≤ y → Off wv y := fun y hy => x.d.W.offNew x.g.wf hy
theorem PutS.low {hB h h' : Heap} {s b b0 b1 : Nat} {wv : V} {D : Dv} {T : SV} {t : List Nat} {u0 u1 : V} {e : Int} {o : Option (List (Int × Int) × List (Int × Int) × List (Int × Int))} {r : V} (p : PutS hB h s b b0 b1 wv D T t u0 u1 e o r h') (n : Nat) : PutS hB h s b b0 b1 wv D T t u0 u1 e o r { h' with low := n } := by
 cases o with
 | none => exact ⟨p.1, p.2.low1 n⟩
 | some x =>
  obtain ⟨ls, A, B⟩ := x
  obtain ⟨p1, wv', u0', u1', p2, p3, p4, p5⟩ := p
  exact ⟨p1, wv', u0', u1', p2.grow ((Grow.refl p2.g.wf).low1 n), ⟨p3.size, p3.keep, p3.off⟩, p4, p5⟩
theorem PutS.loc {hB h h1 : Heap} {s b b0 b1 : Nat} {wv : V} {D : Dv} {T : SV} {t : List Nat} {u0 u1 : V} {e : Int} {R0 R1 : List (Int × Int)} {o : Option (List (Int × Int) × List (Int × Int) × List (Int × Int))} {r : V} (x : StAt hB h s b b0 b1 wv D T u0 u1 R0 R1) (ho : ∀ q, o = some q → q.1 ≠ []) (hl : ∀ c, c < h.size → h1.get c = h.get c) (p : PutS hB h s b b0 b1 wv D T t u0 u1 e o r h1) : PutS hB h s b b0 b1 wv D T t u0 u1 e o r h := by
 cases o with
 | none => exact ⟨p.1, Grow.refl x.g.wf⟩
 | some q =>
  obtain ⟨ls, A, B⟩ := q
  exfalso
  have hne := ho _ rfl
  obtain ⟨p1, wv', u0', u1', p2, _⟩ := p
  have lb := (x.d.lt x.g.wf).1
  have e1 := (Cl.of_get p2.d.B (hl b lb)).inj x.d.B
  have e2 : wv' = wv := by simp at e1; exact e1.2.2.2.2
  have d' := p2.d
  rw [e2] at d'
  have e3 := d'.W.same_len x.d.W
  simp only [Dv.more, wrs, List.length_append, List.length_map] at e3
  have : ls.length ≠ 0 := fun q => hne (List.length_eq_zero_iff.1 q)
  omega
theorem tk_len {R0 R1 : List (Int × Int)} {dl : List Int} (o0 : RunOk R0) (o1 : RunOk R1) {n : Nat} (hn : 1 ≤ n) : ∀ q, tk R0 R1 dl n = some q → q.1 ≠ [] := fun q hq e => by
 have := (tk_ok o0 o1 hq).2.2.1
 rw [e] at this; simp at this; omega
theorem stPutF_ne {P : Pol} {kind : Int} {t : List Nat} {R0 R1 : List (Int × Int)} (o0 : RunOk R0) (o1 : RunOk R1) : ∀ q, stPutF P kind t R0 R1 = some q → q.1 ≠ [] := fun q hq => by
 unfold stPutF at hq
 rcases chooseF_dl P kind t.length (cnt R0) (cnt R1) with ⟨e, _⟩ | ⟨e, h⟩
 ·rw [e] at hq; cases hq
 ·rw [if_pos e] at hq
  refine tk_len o0 o1 ?_ q hq
  rcases h with ⟨h, _⟩ | ⟨h, _⟩ | ⟨h, _⟩ <;> rw [h] <;> decide
section
variable {C : Cfg} (S : StdO C)
include S
theorem stput_s (hSm : ∀ f args h v h', C.S f args h = some (some (v, h')) → HM h h') (hB h : Heap) (hw0 : Wf hB) (ro : Ro hB) (s b b0 b1 : Nat) (wv : V) (D : Dv) (T : SV) (u0 u1 : V) (R0 R1 : List (Int × Int)) (x : StAt hB h s b b0 b1 wv D T u0 u1 R0 R1) (hws : D.ws.length ≤ 900000)
  (dl : List Int) (y : V) (sy : Sl h 1 y (ints dl)) (hdl : ∀ d ∈ dl, d = 0 ∨ d = 1) (hn1 : 1 ≤ dl.length) (hn2 : dl.length ≤ 2) (hdd : ∀ a c, dl = [a, c] → a ≠ c) (t : List Nat) (ht : t.length ≤ 960) :
  Ans C 64 [.ptr (some (s, 0)), .str t, y] h (PutS hB h s b b0 b1 wv D T t u0 u1 6 (tk R0 R1 dl dl.length)) := by
 refine (stput_ans S hSm hB h hw0 x.g ro s b b0 b1 wv D x.d T u0 u1 R0 R1 x.cs x.ns x.sb x.os x.f0 x.f1 x.l0 x.l1 x.hb0 x.hb1 hws x.tx dl y sy hdl hn1 hn2 hdd t ht).mono fun r h' hr => ?_
 cases hq : tk R0 R1 dl dl.length with
 | none => rw [hq] at hr; exact hr
 | some q =>
  obtain ⟨ls, A, B⟩ := q
  rw [hq] at hr
  obtain ⟨p1, p2, wv', u0', u1', p3, p4, p5, p6, p7, p8, p9, p10⟩ := hr
  obtain ⟨k1, k2, k3⟩ := tk_fre x.f0.ok x.f1.ok hq
  exact ⟨p1, wv', u0', u1', ⟨p2, p3, p4, x.ns, x.sb, p8, p5, p6, x.l0, x.l1, fun a ha => x.hb0 a (k1 a ha), fun a ha => x.hb1 a (k2 a ha), x.tx, x.pk⟩, p7, p9, p10⟩
theorem stChoose_ans (hSm : ∀ f args h v h', C.S f args h = some (some (v, h')) → HM h h') (hB h : Heap) (hw0 : Wf hB) (ro : Ro hB) (s b b0 b1 : Nat) (wv : V) (D : Dv) (T : SV) (u0 u1 : V) (R0 R1 : List (Int × Int)) (x : StAt hB h s b b0 b1 wv D T u0 u1 R0 R1) (hws : D.ws.length ≤ 900000)
  (kind : Int) (hk : kind = 0 ∨ kind = 1) (t : List Nat) (ht : t.length ≤ 960) :
  Ans C 52 [.ptr (some (s, 0)), iv kind, .str t] h (PutS hB h s b b0 b1 wv D T t u0 u1 6 (stPutF T.P kind t R0 R1)) := by
 have hw := x.g.wf
 have hF : C.F 52 = some a52 := S.f rfl
 unfold a52 at hF
 refine Ans.loc hSm (S.s _ _ _ rfl) hF rfl rfl hw (fun h2 g2 hs2 hg2 => ?_) (fun v h1 hl hr _ => hr.loc x (stPutF_ne x.f0.ok x.f1.ok) hl)
 clear hF
 have x2 := x.grow g2
 refine WC.seqO (omv rfl <| omv rfl <| WO.nil <| WC.seq <| WC.seqO ?_)
 refine omv rfl <| oeq rfl rfl (t := false) rfl <| WO.nil <| WC.cond rfl (fun hc => by cases hc) (fun hc => WC.skip <| WC.seqO <| omv rfl ?_)
 refine WO.call rfl rfl (free_ans S hB h2 s b b0 b1 wv D T u0 u1 R0 R1 x2) ?_
 rintro _ h3 ⟨rfl, g23⟩
 have x3 := x2.grow g23
 have g3 := g2.trans g23
 refine omv rfl <| oex rfl rfl <| oex rfl rfl <| omv rfl <| omv rfl <| WO.nil <| WC.seqO ?_
 have qP : h3.rds s 1 5 = some T.P.v := Cl.rdsAt x3.cs (o := 1) (n := 5) (by simp [stC])
 refine omv rfl <| onk rfl <| ofa rfl <| WO.ops (StepK.loadN rfl qP) <| omv rfl <| omv rfl <| olt rfl <| omv rfl <| omv rfl <| WO.ops (StepK.buildSl rfl rfl) ?_
 have sl : Sl (h3.push (.cells [iv (cnt R0), iv (cnt R1)] (.tip [] 0 none))) 1 (.slice (some (h3.size, 0)) 2 2) (ints [cnt R0, cnt R1]) := new_ret (h := h) rfl rfl
 have g34 := (Grow.refl g3.wf).push (.cells [iv (cnt R0), iv (cnt R1)] (.tip [] 0 none))
 change WO C _ _ (h3.push (.cells [iv (cnt R0), iv (cnt R1)] (.tip [] 0 none))) _
 generalize h3.push (.cells [iv (cnt R0), iv (cnt R1)] (.tip [] 0 none)) = h4 at *
 generalize h3.size = p at *
 have x4 := x3.grow g34
 have g4 := g3.trans g34
 refine WO.call rfl rfl (choose_ans S h4 g4.wf T.P kind t.length (cnt R0) (cnt R1) _ x.pk hk ⟨by omega, by omega⟩ sl x.f0.ok.cnt.1 x.f1.ok.cnt.1) ?_
 rintro _ h5 ⟨u, rfl, su, g45⟩
 have x5 := x4.grow g45
 have g5 := g4.trans g45
 refine omv rfl <| oex rfl rfl <| oex rfl rfl <| omv rfl <| omv rfl <| WO.nil <| WC.seq <| WC.seqO <| omv rfl ?_
 rcases chooseF_dl T.P kind t.length (cnt R0) (cnt R1) with ⟨e, _⟩ | ⟨e, hcs⟩
 ·rw [e]
  refine obn rfl rfl (neT (by decide)) <| WO.nil <| WC.cond rfl (fun hc => WC.seqO (omv rfl <| omv rfl <| omv rfl <| WO.nil <| WC.ret ⟨trivial, .tuple [.str [], iv 6], rfl, fun n => ?_⟩)) (fun hc => by cases hc)
  unfold stPutF
  rw [e]
  exact ⟨rfl, g5.low1 n⟩
 ·rw [e]
  refine obn rfl rfl (neF rfl) <| WO.nil <| WC.cond rfl (fun hc => by cases hc) (fun hc => WC.skip <| WC.seqO <| omv rfl <| omv rfl <| omv rfl ?_)
  have hF : stPutF T.P kind t R0 R1 = tk R0 R1 (chooseF T.P kind t.length (cnt R0) (cnt R1)).1 (chooseF T.P kind t.length (cnt R0) (cnt R1)).1.length := by unfold stPutF; rw [if_pos e]
  have hd : (∀ d ∈ (chooseF T.P kind t.length (cnt R0) (cnt R1)).1, d = 0 ∨ d = 1) ∧ 1 ≤ (chooseF T.P kind t.length (cnt R0) (cnt R1)).1.length ∧ (chooseF T.P kind t.length (cnt R0) (cnt R1)).1.length ≤ 2 ∧ (∀ a c, (chooseF T.P kind t.length (cnt R0) (cnt R1)).1 = [a, c] → a ≠ c) := by
   rcases hcs with ⟨h, _⟩ | ⟨h, _⟩ | ⟨h, _⟩ <;> rw [h] <;> simp
  generalize (chooseF T.P kind t.length (cnt R0) (cnt R1)).1 = dl at *
  refine WO.call rfl rfl (stput_s S hSm hB h5 hw0 ro s b b0 b1 wv D T u0 u1 R0 R1 x5 hws dl u su hd.1 hd.2.1 hd.2.2.1 hd.2.2.2 t ht) ?_
  rintro r h6 hr
  rw [← hF] at hr
  have hr2 := hr.pre g5 hw x.off
  cases hq : stPutF T.P kind t R0 R1 with
  | none =>
   rw [hq] at hr2
   obtain ⟨rfl, g6⟩ := hr2
   exact oex rfl rfl <| oex rfl rfl <| omv rfl <| omv rfl <| WO.nil <| WC.ret ⟨trivial, _, rfl, fun n => PutS.low (o := none) ⟨rfl, g6⟩ n⟩
  | some q =>
   obtain ⟨ls, A, B⟩ := q
   rw [hq] at hr2
   have hr3 := hr2
   obtain ⟨rfl, _⟩ := hr2
   exact oex rfl rfl <| oex rfl rfl <| omv rfl <| omv rfl <| WO.nil <| WC.ret ⟨trivial, _, rfl, fun n => PutS.low (o := some (ls, A, B)) hr3 n⟩
end
end Abs
end Go.Proofs.YtdebiolekbldiaaGreatDoor
namespace Go.Proofs.YtdebiolekbldiaaGreatDoor
namespace Abs
set_option linter.unusedVariables false
set_option linter.unusedSimpArgs false
open Go.RowKit
attribute [local irreducible] WO WC WD StepK Ans Does Runs DoesD
def DevsOk (dl : List Int) : Prop := (1 ≤ dl.length ∧ dl.length ≤ 2) ∧ (dl.length = 2 → dl.getD 0 0 ≠ dl.getD 1 0) ∧ ∀ d ∈ dl, d = 0 ∨ d = 1
instance (dl : List Int) : Decidable (DevsOk dl) := inferInstanceAs (Decidable (_ ∧ _ ∧ ∀ d ∈ dl, _))
def onF (dl : List Int) (R0 R1 : List (Int × Int)) : Option (List (Int × Int) × List (Int × Int) × List (Int × Int)) := if DevsOk dl then tk R0 R1 dl dl.length else none
def onE (dl : List Int) : Int := if DevsOk dl then 6 else 1
section
variable {C : Cfg} (S : StdO C)
include S
theorem stPut_ans (hSm : ∀ f args h v h', C.S f args h = some (some (v, h')) → HM h h') (hB h : Heap) (hw0 : Wf hB) (ro : Ro hB) (s b b0 b1 : Nat) (wv : V) (D : Dv) (T : SV) (u0 u1 : V) (R0 R1 : List (Int × Int)) (x : StAt hB h s b b0 b1 wv D T u0 u1 R0 R1) (hws : D.ws.length ≤ 900000) (t : List Nat) (ht : t.length ≤ 960) :
  Ans C 29 [.ptr (some (s, 0)), .str t] h (PutS hB h s b b0 b1 wv D T t u0 u1 6 (stPutF T.P 0 t R0 R1)) := by
 have hw := x.g.wf
 have hF : C.F 29 = some a29 := S.f rfl
 unfold a29 at hF
 refine Ans.loc hSm (S.s _ _ _ rfl) hF rfl rfl hw (fun h2 g2 hs2 hg2 => ?_) (fun v h1 hl hr _ => hr.loc x (stPutF_ne x.f0.ok x.f1.ok) hl)
 clear hF
 refine WC.seqO (omv rfl <| omv rfl <| WO.nil <| WC.seqO <| omv rfl <| omv rfl ?_)
 refine WO.call rfl rfl (stChoose_ans S hSm hB h2 hw0 ro s b b0 b1 wv D T u0 u1 R0 R1 (x.grow g2) hws 0 (.inl rfl) t ht) ?_
 rintro r h6 hr
 have hr2 := hr.pre g2 hw x.off
 cases hq : stPutF T.P 0 t R0 R1 with
 | none =>
  rw [hq] at hr2
  obtain ⟨rfl, g6⟩ := hr2
  exact oex rfl rfl <| oex rfl rfl <| omv rfl <| omv rfl <| WO.nil <| WC.ret ⟨trivial, _, rfl, fun n => PutS.low (o := none) ⟨rfl, g6⟩ n⟩
 | some q =>
  obtain ⟨ls, A, B⟩ := q
  rw [hq] at hr2
  have hr3 := hr2
  obtain ⟨rfl, _⟩ := hr2
  exact oex rfl rfl <| oex rfl rfl <| omv rfl <| omv rfl <| WO.nil <| WC.ret ⟨trivial, _, rfl, fun n => PutS.low (o := some (ls, A, B)) hr3 n⟩
theorem stPutData_ans (hSm : ∀ f args h v h', C.S f args h = some (some (v, h')) → HM h h') (hB h : Heap) (hw0 : Wf hB) (ro : Ro hB) (s b b0 b1 : Nat) (wv : V) (D : Dv) (T : SV) (u0 u1 : V) (R0 R1 : List (Int × Int)) (x : StAt hB h s b b0 b1 wv D T u0 u1 R0 R1) (hws : D.ws.length ≤ 900000) (t : List Nat) (ht : t.length ≤ 960) :
  Ans C 21 [.ptr (some (s, 0)), .str t] h (PutS hB h s b b0 b1 wv D T t u0 u1 6 (stPutF T.P 1 t R0 R1)) := by
 have hw := x.g.wf
 have hF : C.F 21 = some a21 := S.f rfl
 unfold a21 at hF
 refine Ans.loc hSm (S.s _ _ _ rfl) hF rfl rfl hw (fun h2 g2 hs2 hg2 => ?_) (fun v h1 hl hr _ => hr.loc x (stPutF_ne x.f0.ok x.f1.ok) hl)
 clear hF
 refine WC.seqO (omv rfl <| omv rfl <| WO.nil <| WC.seqO <| omv rfl <| omv rfl ?_)
 refine WO.call rfl rfl (stChoose_ans S hSm hB h2 hw0 ro s b b0 b1 wv D T u0 u1 R0 R1 (x.grow g2) hws 1 (.inr rfl) t ht) ?_
 rintro r h6 hr
 have hr2 := hr.pre g2 hw x.off
 cases hq : stPutF T.P 1 t R0 R1 with
 | none =>
  rw [hq] at hr2
  obtain ⟨rfl, g6⟩ := hr2
  exact oex rfl rfl <| oex rfl rfl <| omv rfl <| omv rfl <| WO.nil <| WC.ret ⟨trivial, _, rfl, fun n => PutS.low (o := none) ⟨rfl, g6⟩ n⟩
 | some q =>
  obtain ⟨ls, A, B⟩ := q
  rw [hq] at hr2
  have hr3 := hr2
  obtain ⟨rfl, _⟩ := hr2
  exact oex rfl rfl <| oex rfl rfl <| omv rfl <| omv rfl <| WO.nil <| WC.ret ⟨trivial, _, rfl, fun n => PutS.low (o := some (ls, A, B)) hr3 n⟩
theorem stPutOn_ans (hSm : ∀ f args h v h', C.S f args h = some (some (v, h')) → HM h h') (hB h : Heap) (hw0 : Wf hB) (ro : Ro hB) (s b b0 b1 : Nat) (wv : V) (D : Dv) (T : SV) (u0 u1 : V) (R0 R1 : List (Int × Int)) (x : StAt hB h s b b0 b1 wv D T u0 u1 R0 R1) (hws : D.ws.length ≤ 900000) (t : List Nat) (ht : t.length ≤ 960)
  (dl : List Int) (y : V) (sy : Sl h 1 y (ints dl)) (hdl : dl.length ≤ 1000) :
  Ans C 31 [.ptr (some (s, 0)), .str t, y] h (PutS hB h s b b0 b1 wv D T t u0 u1 (onE dl) (onF dl R0 R1)) := by
 have hw := x.g.wf
 have hne : ∀ q, onF dl R0 R1 = some q → q.1 ≠ [] := fun q hq => by
  unfold onF at hq
  split at hq
  ·rename_i hd; exact tk_len x.f0.ok x.f1.ok hd.1.1 q hq
  ·cases hq
 have hF : C.F 31 = some a31 := S.f rfl
 unfold a31 at hF
 refine Ans.loc hSm (S.s _ _ _ rfl) hF rfl rfl hw (fun h2 g2 hs2 hg2 => ?_) (fun v h1 hl hr _ => hr.loc x hne hl)
 clear hF
 have sy2 := sy.grow g2
 have hyl : slLen y = some dl.length := by have := sy.len; simpa [ints] using this
 have at2 : ∀ i (hi : i < dl.length), ∃ c o, idxSlA 1 y (iv i) = some (.ptr (some (c, o))) ∧ h2.rd c o = some (iv dl[i]) := fun i hi => by
  obtain ⟨c, o, k1, k2⟩ := sy2.at (i := i) (by simpa [ints] using hi)
  rw [ints_at hi] at k2
  exact ⟨c, o, k1, rds_rd k2 (j := 0) rfl⟩
 have bad : ¬ DevsOk dl → ∀ (h3 : Heap), Grow h h3 → PutS hB h s b b0 b1 wv D T t u0 u1 (onE dl) (onF dl R0 R1) (.tuple [.str [], iv 1]) h3 := by
  intro hno h3 g3
  unfold onE onF
  rw [if_neg hno, if_neg hno]
  exact ⟨rfl, g3⟩
 have hge : ∀ i (hi : i < dl.length), dl.getD i 0 = dl[i] := fun i hi => by rw [List.getD_eq_getElem?_getD, List.getElem?_eq_getElem hi]; rfl
 refine WC.seqO (omv rfl <| omv rfl <| WO.nil <| WC.seq <| WC.seqD ?_)
 refine dmv rfl <| deq rfl rfl (t := false) rfl <| dmv rfl <| WD.run rfl <| dmv rfl <| WD.run rfl <| dlt rfl <| WD.run rfl <| dbn rfl rfl (gtF (by omega)) <| dpf rfl rfl <| dmv rfl <| WD.run rfl <| dmv rfl <| WD.run rfl <| dls rfl hyl <| WD.run rfl ?_
 by_cases h1 : dl.length < 1
 ·refine dbn rfl rfl (ltT (by omega)) ?_
  (repeat (first | refine dmv rfl ?_ | refine dls rfl (by first | with_reducible assumption | rfl) ?_ | refine dfa rfl ?_ | refine dad rfl rfl (by omega) ?_ | refine dsb rfl rfl (by omega) ?_ | refine dbn rfl rfl rfl ?_ | refine dpt rfl rfl ?_ | refine dpf rfl rfl ?_ | refine dnt rfl ?_ | refine deq rfl rfl rfl ?_ | refine dex rfl rfl ?_ | refine dbu rfl rfl ?_ | refine dfd rfl rfl ?_ | refine dlt rfl ?_ | refine dnk rfl ?_ | refine WD.load1 rfl (by first | with_reducible assumption | rfl) ?_ | refine WD.run rfl ?_ | refine WD.skipn rfl rfl rfl ?_ | refine WD.skipun rfl rfl ?_))
  exact WD.nil (by repeat (first | exact trivial | refine ⟨by with_reducible assumption, ?_⟩)) (WC.cond rfl (fun hc => WC.seqO (omv rfl <| omv rfl <| WO.nil <| WC.ret ⟨trivial, _, rfl, fun n => bad (fun q => by have := q.1; omega) _ (g2.low1 n)⟩)) (fun hc => by cases hc))
 refine dbn rfl rfl (ltF (by omega)) <| dpf rfl rfl <| dmv rfl <| WD.run rfl <| dmv rfl <| WD.run rfl <| dls rfl hyl <| WD.run rfl ?_
 by_cases h2' : 2 < dl.length
 ·refine dbn rfl rfl (gtT (by omega)) ?_
  (repeat (first | refine dmv rfl ?_ | refine dls rfl (by first | with_reducible assumption | rfl) ?_ | refine dfa rfl ?_ | refine dad rfl rfl (by omega) ?_ | refine dsb rfl rfl (by omega) ?_ | refine dbn rfl rfl rfl ?_ | refine dpt rfl rfl ?_ | refine dpf rfl rfl ?_ | refine dnt rfl ?_ | refine deq rfl rfl rfl ?_ | refine dex rfl rfl ?_ | refine dbu rfl rfl ?_ | refine dfd rfl rfl ?_ | refine dlt rfl ?_ | refine dnk rfl ?_ | refine WD.load1 rfl (by first | with_reducible assumption | rfl) ?_ | refine WD.run rfl ?_ | refine WD.skipn rfl rfl rfl ?_ | refine WD.skipun rfl rfl ?_))
  exact WD.nil (by repeat (first | exact trivial | refine ⟨by with_reducible assumption, ?_⟩)) (WC.cond rfl (fun hc => WC.seqO (omv rfl <| omv rfl <| WO.nil <| WC.ret ⟨trivial, _, rfl, fun n => bad (fun q => by have := q.1; omega) _ (g2.low1 n)⟩)) (fun hc => by cases hc))
 refine dbn rfl rfl (gtF (by omega)) <| dpf rfl rfl <| dmv rfl <| WD.run rfl <| dmv rfl <| WD.run rfl <| dls rfl hyl <| WD.run rfl ?_
 have loop : (dl.length = 2 → dl.getD 0 0 ≠ dl.getD 1 0) → ∀ e', Cov [(0, .ptr (some (s, 0))), (1, .str t), (2, y)] e' → WC C (.seq (.seq (.ops [⟨(some 41), none, .mv (.t 2)⟩, ⟨(some 42), none, .lenSl (.t 41)⟩, ⟨(some 43), none, .mv (.c (.int .i64 (0)))⟩]) (.block 0 (.loop (.seq (.ops [⟨(some 44), none, .bin .lss (.t 43) (.t 42)⟩]) (.seq (.cond (.t 44) (.skip) (.exit 0)) (.seq (.block 1 (.seq (.ops [⟨(some 45), none, .idxSl 1 (.t 41) (.t 43)⟩, ⟨(some 46), none, .load none (.t 45)⟩, ⟨(some 9), none, .mv (.t 46)⟩]) (.seq (.ops [⟨(some 47), none, .mv (.t 9)⟩, ⟨(some 48), none, .bin .lss (.t 47) (.c (.int .i64 (0)))⟩, ⟨(some 49), none, .mv (.t 48)⟩, ⟨(some 50), (some (49, false)), .mv (.t 9)⟩, ⟨(some 51), (some (49, false)), .bin .geq (.t 50) (.c (.int .i64 (2)))⟩, ⟨(some 52), none, .pick (.t 49) (.c (.bool true)) (.t 51)⟩]) (.cond (.t 52) (.seq (.ops [⟨(some 6), none, .mv (.c (.str []))⟩, ⟨(some 7), none, .mv (.c (.int .i64 (1)))⟩]) (.ret)) (.skip))))) (.ops [⟨(some 53), none, .bin .add (.t 43) (.c (.int .i64 (1)))⟩, ⟨(some 43), none, .mv (.t 53)⟩]))))))) (.seq (.ops [⟨(some 54), none, .mv (.t 0)⟩, ⟨(some 55), none, .mv (.t 1)⟩, ⟨(some 56), none, .mv (.t 2)⟩, ⟨(some 57), none, .call (.c (.func (.func 64) [] [])) [.t 54, .t 55, .t 56]⟩, ⟨(some 58), none, .extract 0 (.t 57)⟩, ⟨(some 59), none, .extract 1 (.t 57)⟩, ⟨(some 6), none, .mv (.t 58)⟩, ⟨(some 7), none, .mv (.t 59)⟩]) (.ret))) e' h2 (fun x e' h1 => Fin x ∧ ∃ v, retE e' h1 [.tmp 6, .tmp 7] = some v ∧ ∀ n, PutS hB h s b b0 b1 wv D T t u0 u1 (onE dl) (onF dl R0 R1) v { h1 with low := n }) := by
  intro hd2 e' hcov
  refine WC.cov hcov ?_
  refine WC.seq <| WC.seqO <| omv rfl <| ols rfl hyl <| omv rfl <| WO.nil <| WC.block ?_
  refine WC.loop (σ := Nat) (fun p => [(0, .ptr (some (s, 0))), (1, .str t), (2, y), (41, y), (42, iv dl.length), (43, iv p)]) (fun p h' => p ≤ dl.length ∧ h' = h2 ∧ ∀ d ∈ dl.take p, d = 0 ∨ d = 1) (fun p => dl.length - p) 0 (Cov.cons rfl (Cov.cons rfl (Cov.cons rfl (Cov.cons rfl (Cov.cons rfl (Cov.cons rfl (Cov.nil _))))))) ⟨by omega, rfl, by simp⟩ ?_
  rintro p h' ⟨hp, rfl, hI⟩
  refine WC.seqO ?_
  by_cases hlt : p < dl.length
  ·refine obn rfl rfl (ltT (by omega)) (WO.nil (WC.seq (WC.cond rfl (fun hc => WC.skip ?_) (fun hc => by cases hc))))
   obtain ⟨c, o, k1, k2⟩ := at2 p hlt
   have htk : dl.take (p + 1) = dl.take p ++ [dl[p]] := by rw [List.take_succ_eq_append_getElem hlt]
   have hm : dl[p] ∈ dl := List.getElem_mem hlt
   generalize dl[p] = dd at *
   refine WC.seq (WC.block (WC.seqO <| WO.ops (StepK.idxSl rfl rfl k1) <| old rfl k2 <| omv rfl <| WO.nil <| WC.seqO <| omv rfl ?_))
   by_cases a1 : dd < 0
   ·refine obn rfl rfl (ltT a1) <| omv rfl ?_
    (repeat (first | refine omv rfl ?_ | refine ols rfl (by first | with_reducible assumption | rfl) ?_ | refine ofa rfl ?_ | refine oad rfl rfl (by omega) ?_ | refine osb rfl rfl (by omega) ?_ | refine obn rfl rfl rfl ?_ | refine opt rfl rfl ?_ | refine opf rfl rfl ?_ | refine ont rfl ?_ | refine oeq rfl rfl rfl ?_ | refine oex rfl rfl ?_ | refine obu rfl rfl ?_ | refine ofd rfl rfl ?_ | refine olt rfl ?_ | refine onk rfl ?_ | refine old rfl (by first | with_reducible assumption | rfl) ?_ | refine WO.run rfl ?_ | refine WO.skip rfl rfl ?_ | refine WO.skipu rfl ?_))
    exact WO.nil <| WC.cond rfl (fun hc => WC.seqO (omv rfl <| omv rfl <| WO.nil <| WC.ret ⟨trivial, _, rfl, fun n => bad (fun q => by have := q.2.2 dd hm; omega) _ (g2.low1 n)⟩)) (fun hc => by cases hc)
   refine obn rfl rfl (ltF a1) <| omv rfl <| WO.run rfl <| omv rfl <| WO.run rfl ?_
   by_cases a2 : 2 ≤ dd
   ·refine obn rfl rfl (geT a2) <| opf rfl rfl ?_
    exact WO.nil <| WC.cond rfl (fun hc => WC.seqO (omv rfl <| omv rfl <| WO.nil <| WC.ret ⟨trivial, _, rfl, fun n => bad (fun q => by have := q.2.2 dd hm; omega) _ (g2.low1 n)⟩)) (fun hc => by cases hc)
   refine obn rfl rfl (geF a2) <| opf rfl rfl <| WO.nil <| WC.cond rfl (fun hc => by cases hc) (fun hc => WC.skip <| WC.ops <| oad rfl rfl (by omega) <| omv rfl <| WO.nil ⟨p + 1, Cov.cons rfl (Cov.cons rfl (Cov.cons rfl (Cov.cons rfl (Cov.cons rfl (Cov.cons rfl (Cov.nil _)))))), ⟨by omega, rfl, ?_⟩, by omega⟩)
   rw [htk]
   intro d hd
   rcases List.mem_append.1 hd with q | q
   ·exact hI d q
   ·rw [List.mem_singleton.1 q]; omega
  ·refine obn rfl rfl (ltF (by omega)) (WO.nil (WC.seq (WC.cond rfl (fun hc => by cases hc) (fun hc => WC.exit ?_))))
   rw [List.take_of_length_le (by omega)] at hI
   have hok : DevsOk dl := ⟨⟨by omega, by omega⟩, hd2, hI⟩
   have hFo : onF dl R0 R1 = tk R0 R1 dl dl.length := by unfold onF; rw [if_pos hok]
   have hE : onE dl = 6 := by unfold onE; rw [if_pos hok]
   refine WC.seqO <| omv rfl <| omv rfl <| omv rfl ?_
   refine WO.call rfl rfl (stput_s S hSm hB _ hw0 ro s b b0 b1 wv D T u0 u1 R0 R1 (x.grow g2) hws dl y sy2 hI (by omega) (by omega) (fun a c hac => by have := hd2 (by rw [hac]; rfl); rw [hac] at this; exact this) t ht) ?_
   rintro r h6 hr
   have hr2 := hr.pre g2 hw x.off
   rw [hFo, hE]
   cases hq : tk R0 R1 dl dl.length with
   | none =>
    rw [hq] at hr2
    obtain ⟨rfl, g6⟩ := hr2
    exact oex rfl rfl <| oex rfl rfl <| omv rfl <| omv rfl <| WO.nil <| WC.ret ⟨trivial, _, rfl, fun n => PutS.low (o := none) ⟨rfl, g6⟩ n⟩
   | some q =>
    obtain ⟨ls, A, B⟩ := q
    rw [hq] at hr2
    have hr3 := hr2
    obtain ⟨rfl, _⟩ := hr2
    exact oex rfl rfl <| oex rfl rfl <| omv rfl <| omv rfl <| WO.nil <| WC.ret ⟨trivial, _, rfl, fun n => PutS.low (o := some (ls, A, B)) hr3 n⟩
 by_cases h3 : dl.length = 2
 ·obtain ⟨c, o, k1, k2⟩ := at2 0 (by omega)
  obtain ⟨c', o', k3, k4⟩ := at2 1 (by omega)
  rw [← hge 0 (by omega)] at k2
  rw [← hge 1 (by omega)] at k4
  refine dbn rfl rfl (eqT (by omega)) <| WD.run rfl <| dmv rfl <| WD.run rfl <| dmv rfl <| WD.run rfl <| WD.pure (StepK.idxSl rfl rfl k1) rfl <| WD.run rfl <| WD.load1 rfl k2 <| WD.run rfl <| dmv rfl <| WD.run rfl <| WD.pure (StepK.idxSl rfl rfl k3) rfl <| WD.run rfl <| WD.load1 rfl k4 <| WD.run rfl ?_
  by_cases h4 : dl.getD 0 0 = dl.getD 1 0
  ·refine dbn rfl rfl (eqT h4) <| WD.run rfl <| dpt rfl rfl <| dpf rfl rfl ?_
   exact WD.nil (by repeat (first | exact trivial | refine ⟨by with_reducible assumption, ?_⟩)) (WC.cond rfl (fun hc => WC.seqO (omv rfl <| omv rfl <| WO.nil <| WC.ret ⟨trivial, _, rfl, fun n => bad (fun q => q.2.1 h3 h4) _ (g2.low1 n)⟩)) (fun hc => by cases hc))
  refine dbn rfl rfl (eqF h4) <| WD.run rfl <| dpt rfl rfl <| dpf rfl rfl ?_
  exact WD.nil (by repeat (first | exact trivial | refine ⟨by with_reducible assumption, ?_⟩)) (WC.cond rfl (fun hc => by cases hc) (fun hc => WC.skip (loop (fun _ => h4) _ (Cov.cons rfl (Cov.cons rfl (Cov.cons rfl (Cov.nil _)))))))
 ·refine dbn rfl rfl (eqF (by omega)) ?_
  (repeat (first | refine dmv rfl ?_ | refine dls rfl (by first | with_reducible assumption | rfl) ?_ | refine dfa rfl ?_ | refine dad rfl rfl (by omega) ?_ | refine dsb rfl rfl (by omega) ?_ | refine dbn rfl rfl rfl ?_ | refine dpt rfl rfl ?_ | refine dpf rfl rfl ?_ | refine dnt rfl ?_ | refine deq rfl rfl rfl ?_ | refine dex rfl rfl ?_ | refine dbu rfl rfl ?_ | refine dfd rfl rfl ?_ | refine dlt rfl ?_ | refine dnk rfl ?_ | refine WD.load1 rfl (by first | with_reducible assumption | rfl) ?_ | refine WD.run rfl ?_ | refine WD.skipn rfl rfl rfl ?_ | refine WD.skipun rfl rfl ?_))
  exact WD.nil (by repeat (first | exact trivial | refine ⟨by with_reducible assumption, ?_⟩)) (WC.cond rfl (fun hc => by cases hc) (fun hc => WC.skip (loop (fun q => absurd q h3) _ (Cov.cons rfl (Cov.cons rfl (Cov.cons rfl (Cov.nil _)))))))
end
end Abs
end Go.Proofs.YtdebiolekbldiaaGreatDoor
