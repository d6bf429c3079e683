/- Layer 13: ClogMerges' argument as the machine sees it. -/
import Derived.Test.YthdgjjggndfbhaaDoorK5
import Derived.Test.YthdgjjggndfbhaaDoorK8
namespace Go.Proofs.YthdgjjggndfbhaaDoor
namespace Abs
set_option linter.unusedVariables false
set_option linter.unusedSimpArgs false
set_option maxRecDepth 100000
open Go.RowKit Go.ChangeShapes Go.WideShapes Go.Joins

theorem cfg3_lib {f : Nat} (h1 : f ≠ 9) (h2 : f ≠ 26) (h3 : f ≠ 66) (args : List V) (h : Heap) : cfg3.S f args h = sumLib f args h := by
  rw [cfg3_ne h1, cfg2_S]
  unfold sumO
  rw [if_neg h2]
  unfold sumB
  rw [if_neg h3]
theorem cfg3_vk : StdVK cfg3 where
  toStdV := cfg3_std
  keys := fun args h => by
    rw [cfg3_lib (by decide) (by decide) (by decide)]
    unfold sumLib
    rw [if_neg (by decide), if_neg (by decide), if_pos rfl]
  sorted := fun args h => by
    rw [cfg3_lib (by decide) (by decide) (by decide)]
    unfold sumLib
    rw [if_neg (by decide), if_neg (by decide), if_neg (by decide), if_pos rfl]
theorem blks_of {h : Heap} {es : List (List V)} (hh : ∀ c ∈ es, IsBlk h c) : ∃ L : List (Blk × V), es = L.map (fun p => [iv p.1.seq, p.2]) ∧ (∀ p ∈ L, Ents h p.2 p.1.es) ∧ ∀ p ∈ L, p.1.es.length ≤ 9223372036854775807 := by
  induction es with
  | nil => exact ⟨[], rfl, by simp, by simp⟩
  | cons a r ih =>
    obtain ⟨seq, x, l, he, hs, hb, hm⟩ := hh a List.mem_cons_self
    obtain ⟨L, hL, h1, h2⟩ := ih fun c hc => hh c (List.mem_cons_of_mem _ hc)
    refine ⟨(⟨seq, l⟩, x) :: L, by rw [he, hL]; rfl, fun p hp => ?_, fun p hp => ?_⟩
    · rcases List.mem_cons.1 hp with q | q
      · subst q; exact hs
      · exact h1 p q
    · rcases List.mem_cons.1 hp with q | q
      · subst q; exact hm
      · exact h2 p q
theorem clogMerges_walk {H : Type} {enc : TypeId × Value → H} {held : Bool} (w : World) (hG : GW gl w) {rc : Reach} {b0 : Nat} {v : Value} {d : DataW H} {p : List MemPlace} (hd : DataW.Trod enc Tryd.prog w 0 (fun _ => true) held 45 v d p) (hval : Value.okWide Tryd.prog w rc b0 45 v) :
    Calls Tryd.prog 5 #[v] w fun e w' => e = .returned (.bool true) ∧ Below w.heap.size w w' := by
  obtain ⟨a0, len, cap, rfl⟩ := Go.WideShapes.okWide_slice Tryd.underlying45 hval
  obtain ⟨fuel, hf⟩ := hd
  have hf : DataW.trod enc Tryd.prog w 0 (fun _ => true) held fuel 45 [.slice a0 len cap] = some (d, p) := hf
  have r0 := rel_base (P := Tryd.prog) gl (by decide) w hG
  obtain ⟨ρ, h, x, es, r, _, gr, hv, hs, hφ, hm⟩ := open_slT (sz := 2) (by decide) Tryd.underlying45 (by kernel_rfl) hf IsBlk (fun _ _ _ g b => b.grow g) (fun n cs y hy ρ h r => blk_elem (gw_pos hG) hy ρ h r) r0 (gw_pos hG)
  obtain ⟨L, rfl, h1, h2⟩ := blks_of hφ
  rw [List.length_map] at hm
  exact law_of Tryd.func5 (by kernel_rfl) (by kernel_rfl) (clogMerges_ans cfg3_vk h r.fresh (gl_base.grow gr) x L ⟨hs, h1⟩ (Nat.le_trans hm (by decide)) h2) r hv
end Abs
end Go.Proofs.YthdgjjggndfbhaaDoor
