/- Two devices of sectors: Crash. -/
import Derived.Test.YtlgbdjlnbnlphaaGreatDoorD9
namespace Go.Proofs.YtlgbdjlnbnlphaaGreatDoor
namespace Abs
set_option linter.unusedVariables false
set_option linter.unusedSimpArgs false
open Go.RowKit
attribute [local irreducible] WO WC WD StepK Ans Does Runs DoesD

section
variable {C : Cfg} (S : StdO C)
include S
theorem dcrash1_ans (h : Heap) (hw : Wf h) (p : Nat) (x : V) (ks : List Bool) (cp : Cl h p [x]) (sx : Sl h 1 x (ks.map fun t => [V.bool t])) (i : Nat) : Ans C 24 [iv i, .ptr (some (p, 0))] h fun r h' => r = .bool (ks.getD i false) ∧ Grow h h' := by
  have hF : C.F 24 = some a24 := S.f rfl
  unfold a24 at hF
  refine Ans.val (fun _ _ => S.s _ _ _ rfl) hF rfl rfl hw fun h2 g => ?_
  clear hF
  have c2 := cp.grow g
  have s2 := sx.grow g
  refine WC.seqO (omv rfl (WO.nil (WC.seqO ?_)))
  refine omv rfl <| old rfl (c2.rd (i := 0) rfl) <| ols rfl s2.len ?_
  by_cases hlt : i < ks.length
  · obtain ⟨c, o, i1, i2⟩ := s2.at (i := i) (by simpa using hlt)
    have i3 : h2.rd c (o + 0) = some (.bool ks[i]) := rds_rd i2 (j := 0) (by simp)
    have hv : ks.getD i false = ks[i] := by simp [List.getD_eq_getElem?_getD, hlt]
    rw [hv]
    refine obn rfl rfl (ltT (by simp; omega)) <| omv rfl <| WO.run rfl <| old rfl (c2.rd (i := 0) rfl) <| WO.run rfl <| omv rfl <| WO.run rfl <| WO.ops (StepK.idxSl rfl rfl i1) <| WO.run rfl <| old rfl i3 <| opt rfl rfl <| omv rfl <| WO.nil <| WC.ret ⟨trivial, g, rfl⟩
  · have hv : ks.getD i false = false := by simp [List.getD_eq_getElem?_getD, hlt]
    rw [hv]
    refine obn rfl rfl (ltF (by simp; omega)) <| omv rfl ?_
    (repeat (first | refine omv rfl ?_ | refine ols rfl (by first | with_reducible assumption | rfl) ?_ | refine ofa rfl ?_ | refine oad rfl rfl (by omega) ?_ | refine osb rfl rfl (by omega) ?_ | refine obn rfl rfl rfl ?_ | refine opt rfl rfl ?_ | refine opf rfl rfl ?_ | refine ont rfl ?_ | refine oeq rfl rfl rfl ?_ | refine oex rfl rfl ?_ | refine obu rfl rfl ?_ | refine ofd rfl rfl ?_ | refine olt rfl ?_ | refine onk rfl ?_ | refine old rfl (by first | with_reducible assumption | rfl) ?_ | refine WO.run rfl ?_ | refine WO.skip rfl rfl ?_ | refine WO.skipu rfl ?_))
    exact WO.nil <| WC.ret ⟨trivial, g, rfl⟩
theorem dcrash_ans (hSm : ∀ f args h v h', C.S f args h = some (some (v, h')) → HM h h') (n : Nat) (h : Heap) (hw : Wf h) (b b0 b1 : Nat) (wv : V) (D : Dv) (d : DevAt n h b b0 b1 wv D) (hok : WsOk D) (hn : D.ws.length ≤ 1000000)
    (x : V) (hx1 : V.one x = true) (ks : List Bool) (hx : ∀ h', Chg [b0, b1] h h' → Sl h' 1 x (ks.map fun t => [V.bool t])) :
    Ans C 9 [.ptr (some (b, 0)), x] h fun r h' => r = iv 0 ∧ Chg [b, b0, b1] h h' ∧ DevAt n h' b b0 b1 (.slice none 0 0) (D.done fun i => ks.getD i false) := by
  have hF : C.F 9 = some a9 := S.f rfl
  unfold a9 at hF
  have hb : b < h.size := by obtain ⟨ty, q⟩ := d.B; exact Wf.lt hw q
  have l0 := d.S0.lt hw
  have l1 := d.S1.lt hw
  refine Ans.loc hSm (S.s _ _ _ rfl) hF rfl rfl hw (fun h2 g hs2 hg2 => ?_) (fun v h1 hl hr _ => ?_)
  rotate_left
  · obtain ⟨q1, q2, q3⟩ := hr
    exact ⟨q1, Chg.refl hw, { q3 with B := q3.B.of_get (hl _ hb), S0 := q3.S0.of_get (hl _ l0), S1 := q3.S1.of_get (hl _ l1), W := Grown.nil _ _ _ }⟩
  clear hF
  refine WC.seqO (WO.ops (StepK.box rfl) ?_)
  change WO C _ _ (h2.push (.cells x.cellsOf (.tip [] 0 none))) _
  rw [one_cells hx1]
  have hq : Cl (h2.push (.cells [x] (.tip [] 0 none))) h2.size [x] := Cl.new _ _ _
  have g3 := g.trans ((Grow.refl g.wf).push (.cells [x] (.tip [] 0 none)))
  generalize h2.push (.cells [x] (.tip [] 0 none)) = h3 at *
  generalize h2.size = p at *
  refine omv rfl (WO.nil (WC.seqO ?_))
  refine omv rfl <| omf rfl rfl ?_
  refine WO.call rfl rfl (ddone_ans S hSm n h3 g3.wf b b0 b1 wv D (d.grow g3) hok hn 24 [] [.ptr (some (p, 0))] (fun i => ks.getD i false) (fun i h' hi c => dcrash1_ans S h' c.wf p x ks (hq.chg c (by simp; omega)) (hx h' (c.growl g3)) i)) ?_
  rintro _ h4 ⟨rfl, c4, d4⟩
  have c5 := c4.growl g3
  refine omv rfl (WO.nil (WC.ret ⟨trivial, iv 0, rfl, fun m => ⟨rfl, ⟨c5.wf, c5.size, c5.keep⟩, ?_⟩⟩))
  exact { d4 with B := d4.B, S0 := d4.S0, S1 := d4.S1, W := Grown.nil _ _ _ }
end
end Abs
end Go.Proofs.YtlgbdjlnbnlphaaGreatDoor
