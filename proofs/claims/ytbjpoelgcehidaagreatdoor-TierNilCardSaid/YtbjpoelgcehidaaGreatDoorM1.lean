/- The law TierNil: the pieces of live() as summaries, live() as one; the law's run for all that may come in. -/
import Derived.Test.YtbjpoelgcehidaaGreatDoorL2
import Derived.Test.YtbjpoelgcehidaaGreatDoorL3
import Derived.Test.YtbjpoelgcehidaaGreatDoorL4
import Derived.Test.YtbjpoelgcehidaaGreatDoorL5
import Derived.Test.YtbjpoelgcehidaaGreatDoorL6
import Derived.Test.YtbjpoelgcehidaaGreatDoorL7
import Derived.Test.YtbjpoelgcehidaaGreatDoorL8
import Derived.Test.YtbjpoelgcehidaaGreatDoorB16
import Derived.Lib.LaidTab
namespace Go.Proofs.YtbjpoelgcehidaaGreatDoor
namespace Abs
set_option linter.unusedVariables false
set_option maxRecDepth 1000000
open Go.RowKit
noncomputable abbrev rootsZ : List Int := rootsN.map iN
noncomputable abbrev rootsZV : List V := rootsZ.map uv
theorem tab_factsL {P : Program} {W : World} {name : String} {k : IntKind} {zs : List Int} {g : Nat} (h : Lib.TabIs P W name k zs) (hg : P.globalNamed name = some g) (h0 : Nat.blt 0 zs.length = true) :
    g < W.heap.size ∧ CellFacts noRho W ⟨g, 0, 0⟩ (zs.map fun n => .int k n) := by
  have h0 : 0 < zs.length := Nat.le_of_ble_eq_true h0
  have hc : ∀ i v, (zs.map fun n => V.int k n)[i]? = some v → ∃ u, W.cell? ⟨g, i, none⟩ = some u ∧ VR noRho v u := by
    intro i v hv
    rw [List.getElem?_map] at hv
    obtain ⟨z, hz, rfl⟩ := Option.map_eq_some_iff.1 hv
    have hi := (List.getElem?_eq_some_iff.1 hz).1
    refine ⟨.int k z, ?_, .int _ _⟩
    rw [h.cell hg i hi, List.getD, hz]; rfl
  refine ⟨?_, fun i v hv => ?_⟩
  · obtain ⟨u, hu, _⟩ := hc 0 _ (by rw [List.getElem?_map, List.getElem?_eq_getElem h0]; rfl)
    rcases Nat.lt_or_ge g W.heap.size with q | q
    · exact q
    · exfalso
      have : W.heap[g]? = none := Array.getElem?_eq_none q
      simp [World.cell?, this] at hu
  · obtain ⟨u, q1, q2⟩ := hc i v hv
    refine ⟨u, ?_, q2⟩
    simpa [at_] using q1
theorem lv1_snd (B : Nat) (w0 : World) : CutSnd Tryz.prog B w0 lv1 := cut_snd cfgI_tab (cfgI_sum B w0) lv1_ok
theorem lv2_snd (B : Nat) (w0 : World) : CutSnd Tryz.prog B w0 lv2 := cut_snd cfgI_tab (cfgI_sum B w0) lv2_ok
theorem lv4_snd (B : Nat) (w0 : World) : CutSnd Tryz.prog B w0 lv4 := cut_snd cfgI_tab (cfgI_sum B w0) lv4_ok
theorem lv3_snd (B : Nat) (w0 : World) : CutSnd Tryz.prog B w0 lv3 := cut_snd (cuts_tab cfgI_tab) (cuts_ok (cfgI_sum B w0) (fun c hc => by
    simp only [List.mem_cons, List.not_mem_nil, or_false] at hc
    subst hc
    exact lv4_snd B w0)) lv3_ok
theorem lv5_snd (B : Nat) (w0 : World) : CutSnd Tryz.prog B w0 lv5 := cut_snd cfgI_tab (cfgI_sum B w0) lv5_ok
theorem lv6_snd (B : Nat) (w0 : World) : CutSnd Tryz.prog B w0 lv6 := cut_snd cfgI_tab (cfgI_sum B w0) lv6_ok
theorem lv7_snd (B : Nat) (w0 : World) : CutSnd Tryz.prog B w0 lv7 := cut_snd cfgI_tab (cfgI_sum B w0) lv7_ok
theorem lv9_snd (B : Nat) (w0 : World) : CutSnd Tryz.prog B w0 lv9 := cut_snd2 cfgI_tab (cfgI_sum B w0) lv9_ok
theorem lv10_snd (B : Nat) (w0 : World) : CutSnd Tryz.prog B w0 lv10 := cut_snd cfgI_tab (cfgI_sum B w0) lv10_ok
theorem lv11_snd (B : Nat) (w0 : World) : CutSnd Tryz.prog B w0 lv11 := cut_snd cfgI_tab (cfgI_sum B w0) lv11_ok
theorem lv8_snd (B : Nat) (w0 : World) : CutSnd Tryz.prog B w0 lv8 := cut_snd (cuts_tab cfgI_tab) (cuts_ok (cfgI_sum B w0) (fun c hc => by
    simp only [List.mem_cons, List.not_mem_nil, or_false] at hc
    rcases hc with rfl | rfl | rfl
    · exact lv9_snd B w0
    · exact lv10_snd B w0
    · exact lv11_snd B w0)) lv8_ok
theorem lv12_snd (B : Nat) (w0 : World) : CutSnd Tryz.prog B w0 lv12 := cut_snd cfgI_tab (cfgI_sum B w0) lv12_ok
theorem lv13_snd (B : Nat) (w0 : World) : CutSnd Tryz.prog B w0 lv13 := cut_snd cfgI_tab (cfgI_sum B w0) lv13_ok
theorem lv14_snd (B : Nat) (w0 : World) : CutSnd Tryz.prog B w0 lv14 := cut_snd2 cfgI_tab (cfgI_sum B w0) lv14_ok
theorem lv16_snd (B : Nat) (w0 : World) : CutSnd Tryz.prog B w0 lv16 := cut_snd2 cfgI_tab (cfgI_sum B w0) lv16_ok
theorem lv18_snd (B : Nat) (w0 : World) : CutSnd Tryz.prog B w0 lv18 := cut_snd cfgI_tab (cfgI_sum B w0) lv18_ok
theorem lv17_snd (B : Nat) (w0 : World) : CutSnd Tryz.prog B w0 lv17 := cut_snd (cuts_tab cfgI_tab) (cuts_ok (cfgI_sum B w0) (fun c hc => by
    simp only [List.mem_cons, List.not_mem_nil, or_false] at hc
    subst hc
    exact lv18_snd B w0)) lv17_ok
theorem lv19_snd (B : Nat) (w0 : World) : CutSnd Tryz.prog B w0 lv19 := cut_snd cfgI_tab (cfgI_sum B w0) lv19_ok
theorem lv15_snd (B : Nat) (w0 : World) : CutSnd Tryz.prog B w0 lv15 := cut_snd (cuts_tab cfgI_tab) (cuts_ok (cfgI_sum B w0) (fun c hc => by
    simp only [List.mem_cons, List.not_mem_nil, or_false] at hc
    rcases hc with rfl | rfl | rfl
    · exact lv16_snd B w0
    · exact lv17_snd B w0
    · exact lv19_snd B w0)) lv15_ok
theorem lv20_snd (B : Nat) (w0 : World) : CutSnd Tryz.prog B w0 lv20 := cut_snd cfgI_tab (cfgI_sum B w0) lv20_ok
theorem lv21_snd (B : Nat) (w0 : World) : CutSnd Tryz.prog B w0 lv21 := cut_snd cfgI_tab (cfgI_sum B w0) lv21_ok
theorem tops_snd (B : Nat) (w0 : World) : ∀ c ∈ [lv1, lv2, lv3, lv5, lv6, lv7, lv8, lv12, lv13, lv14, lv15, lv20, lv21], CutSnd Tryz.prog B w0 c := fun c hc => by
    simp only [List.mem_cons, List.not_mem_nil, or_false] at hc
    rcases hc with rfl | rfl | rfl | rfl | rfl | rfl | rfl | rfl | rfl | rfl | rfl | rfl | rfl
    · exact lv1_snd B w0
    · exact lv2_snd B w0
    · exact lv3_snd B w0
    · exact lv5_snd B w0
    · exact lv6_snd B w0
    · exact lv7_snd B w0
    · exact lv8_snd B w0
    · exact lv12_snd B w0
    · exact lv13_snd B w0
    · exact lv14_snd B w0
    · exact lv15_snd B w0
    · exact lv20_snd B w0
    · exact lv21_snd B w0
noncomputable def cfgL : Cfg := { cfgI with S := sumLive gl2 34 cfgI.S }
theorem cfgL_tab : TableOk Tryz.prog cfgL := ⟨cfgI_tab.tab, cfgI_tab.idle⟩
theorem gl2_lt : ∀ p ∈ gl2, p.1 < GN := by decide
theorem gl2_sc : ∀ p ∈ gl2, V.scopeds 0 p.2 = true := List.forall_mem_cons.2 ⟨(by kernel_rfl : V.scopeds 0 rootsZV = true), nofun⟩
theorem gl2_at : ∀ p ∈ gl2, (baseH gl2).get p.1 = some (.cells p.2 .ro) := List.forall_mem_cons.2 ⟨(by kernel_rfl : (baseH gl2).get 0 = some (.cells rootsZV .ro)), nofun⟩
theorem cfgL_sum (B : Nat) (w0 : World) : SumOk Tryz.prog B w0 cfgL := live_ok gl2_lt gl2_sc gl2_at (cuts_tab cfgI_tab) (fun B w0 => cuts_ok (cfgI_sum B w0) (tops_snd B w0)) cfgI_sum live_run B w0
theorem tierNil_run (vs0 : List V) (h0 : Likes [.int .i64, .str, .str, .int .i64, .int .i64, .str] vs0) (vs1 : List V) (h1 : Likes [.int .i64] vs1) : isT ((fast cfgL 3000).1 (.fn 5) (V.agg vs0 :: (vs1 ++ ([]))) ((baseH gl2).push .dead)) = true := by
  all_goals rcases h0 with _ | ⟨_, _, _, _, ⟨_, rfl⟩, h0⟩
  all_goals rcases h0 with _ | ⟨_, _, _, _, ⟨_, rfl⟩, h0⟩
  all_goals rcases h0 with _ | ⟨_, _, _, _, ⟨_, rfl⟩, h0⟩
  all_goals rcases h0 with _ | ⟨_, _, _, _, ⟨_, rfl⟩, h0⟩
  all_goals rcases h0 with _ | ⟨_, _, _, _, ⟨_, rfl⟩, h0⟩
  all_goals rcases h0 with _ | ⟨_, _, _, _, ⟨_, rfl⟩, h0⟩
  all_goals cases h0
  all_goals rcases h1 with _ | ⟨_, _, _, _, ⟨_, rfl⟩, h1⟩
  all_goals cases h1
  all_goals kernel_rfl
theorem tierNil_walk (w : World) (hG : GW gl2 w) {cs0 : Array Value} (f0 : Fits [.int .i64, .str, .str, .int .i64, .int .i64, .str] cs0.toList) {v1 : Value} (f1 : Fits [.int .i64] [v1]) : Calls Tryz.prog 5 #[.agg cs0, v1] w fun e w' => e = .returned (.bool true) ∧ Below w.heap.size w w' := by
  obtain ⟨e0, H0⟩ := flat_like f0 (by decide)
  obtain ⟨e1, H1⟩ := flat_like f1 (by decide)
  obtain ⟨vs0, L0, R0⟩ := H0 (Rho.with_ rhoG GN e0) (.inl rfl)
  obtain ⟨vs1, L1, R1⟩ := H1 (Rho.with_ rhoG GN e0) (.inl rfl)
  exact law_runs cfgL_tab cfgL_sum gl2_lt Tryz.func5 (by kernel_rfl) (by kernel_rfl) (tierNil_run vs0 L0 vs1 L1) hG (.cons _ _ _ _ (.agg _ _ R0) (R1.append .nil))
theorem gw_gl2 {W : World} (h0 : Lib.TabIs Tryz.prog W "permafrost/sum.roots" .u32 rootsZ) (g0 : Tryz.prog.globalNamed "permafrost/sum.roots" = some 0) : GW gl2 W := by
  intro p hp
  have hp : p ∈ [(0, rootsZV)] := hp
  simp only [List.mem_cons, List.not_mem_nil, or_false] at hp
  subst hp
  exact tab_factsL h0 g0 (by kernel_rfl)
end Abs
end Go.Proofs.YtbjpoelgcehidaaGreatDoor
