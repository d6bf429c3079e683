/- Layer 13: ClogMerges, walked. -/
import Derived.Test.YthdgjjggndfbhaaDoorK7
import Derived.Test.YthdgjjggndfbhaaDoorK2
namespace Go.Proofs.YthdgjjggndfbhaaDoor
namespace Abs
set_option linter.unusedVariables false
set_option linter.unusedSimpArgs false
open Go.RowKit
attribute [local irreducible] WO WC WD StepK Ans Does Runs DoesD

structure StdVK (C : Cfg) : Prop extends StdV C where
  keys : ∀ args h, C.S 46 args h = some (keysSum 63 81 args h)
  sorted : ∀ args h, C.S 45 args h = some (sortedISum 63 81 args h)
theorem StdVK.k {C : Cfg} (S : StdVK C) : StdK C := ⟨S.toStdO, S.keys, S.sorted⟩
def blkC (p : Blk × V) : List V := [iv p.1.seq, p.2]
theorem roomy32 {n : Nat} (h : n ≤ 1000000000) : roomy n 32 = true := by
  unfold roomy; exact decide_eq_true (by omega)

theorem clogMerges_ans {C : Cfg} (S : StdVK C) (h : Heap) (hw : Wf h) (G : Gl gl h) (x : V) (L : List (Blk × V)) (s : Blks h x L) (hn : L.length ≤ 9223372036854775807) (hne : ∀ p ∈ L, p.1.es.length ≤ 9223372036854775807) :
    Ans C 5 [x] h fun v h' => v = .bool true ∧ Grow h h' := by
  have hF : C.F 5 = some a5 := S.f rfl
  unfold a5 at hF
  refine Ans.val (fun _ _ => S.s _ _ _ rfl) hF rfl rfl hw fun h2 g => ?_
  clear hF
  have out : ∀ (t : Nat) (h4 : Heap) (e' : List (Nat × V)) (Q : Ex → List (Nat × V) → Heap → Prop), Grow h h4 → (∀ e', (Fin .ret ∧ Grow h h4 ∧ retE e' h4 [.tmp 2] = some (.bool true)) → Q .ret e' h4) → WC C (.seq (.ops [⟨(some t), none, .call (.c (.func (.func 9) [] [])) []⟩, ⟨(some 2), none, .mv (.t t)⟩]) .ret) e' h4 Q := by
    intro t h4 e' Q g4 hQ
    refine WC.seqO ?_
    refine WO.call rfl rfl (live_ans S.toStdV h4 (G.grow g4)) ?_
    rintro v h5 ⟨rfl, rfl⟩
    have he : evE ((t, V.bool true) :: e') (.t t) = some (.bool true) := by simp only [evE, Env.get, if_true]
    exact WO.ops (StepK.mv he) (WO.nil (WC.ret (hQ _ ⟨trivial, g4, rfl⟩)))
  refine WC.seqO (WO.ops (StepK.mv rfl) (WO.nil (WC.seq (WC.seqO ?_))))
  refine WO.ops (StepK.mv rfl) <| WO.ops (StepK.lenSl rfl s.len) <| WO.ops (StepK.bin rfl rfl rfl) ?_
  refine WO.nil (WC.cond rfl (fun hc => out _ _ _ _ g (fun _ q => q)) (fun hc => WC.skip (WC.seqO (WO.ops (StepK.mv rfl) (WO.nil (WC.seq (WC.seqO (WO.ops (StepK.mv rfl) (WO.nil (WC.block ?_)))))))))) 
  have hc := of_decide_eq_false hc
  have h20 : L.length ≤ 20 := by omega
  refine WC.loop (σ := Nat × List (Blk × V) × V) (fun p => [(0, x), (3, p.2.2), (4, iv p.1)])
    (fun p h' => Grow h h' ∧ p.1 ≤ L.length ∧ p.2.1.map (·.1) = (L.take p.1).map (·.1) ∧ Grown h' h.size 2 p.2.2 (p.2.1.map blkC) ∧ (∀ q ∈ p.2.1, Grown h' h.size 4 q.2 (q.1.es.map Ent.v) ∧ (∀ b o l k z, q.2 = .oslice b o l k z → Off p.2.2 b)) ∧ ∀ q ∈ L.take p.1, smallF q.1.es) (fun p => L.length - p.1) (0, [], .slice none 0 0)
    (Cov.cons rfl (Cov.cons rfl (Cov.cons rfl (Cov.nil _)))) ⟨g, by omega, rfl, Grown.nil _ _ _, by simp, by simp⟩ ?_
  rintro ⟨p, M, y⟩ h3 ⟨g3, hp, hM, gy, hQ, hsm⟩
  simp only at hp hM gy hQ hsm ⊢
  have s3 := s.grow g3
  refine WC.seq (WC.seqO ?_)
  refine WO.ops (StepK.mv rfl) <| WO.ops (StepK.mv rfl) <| WO.ops (StepK.lenSl rfl s3.len) <| WO.ops (StepK.bin rfl rfl rfl) ?_
  refine WO.nil (WC.cond rfl (fun hc => WC.skip ?_) (fun hc => WC.exit ?_))
  · have hc := of_decide_eq_true hc
    have hp : p < L.length := by omega
    have hnp := hne _ (List.getElem_mem hp)
    have htake : L.take (p + 1) = L.take p ++ [L[p]] := by rw [List.take_succ_eq_append_getElem hp]
    obtain ⟨c, o, q1, q2, _, _, _⟩ := s3.at hp
    have hey : Ents h L[p].2 L[p].1.es := s.2 _ (List.getElem_mem hp)
    generalize L[p] = q at *
    obtain ⟨⟨seq, es⟩, u⟩ := q
    simp only at hnp q2 hey
    refine WC.seq (WC.block (WC.seq (WC.seqO ?_)))
    refine WO.ops (StepK.mv rfl) <| WO.ops (StepK.mv rfl) <| WO.ops (StepK.idxSl rfl rfl q1) <| WO.ops (StepK.loadN rfl q2) ?_
    refine WO.call rfl rfl (small_ans S.toStdO h3 g3.wf seq u es (hey.grow g3) hnp) ?_
    rintro v h4 ⟨rfl, g4⟩
    have q2 := g4.rds q2
    have gy := gy.grow g4
    have hQ : ∀ q ∈ M, Grown h4 h.size 4 q.2 (q.1.es.map Ent.v) ∧ (∀ b o l k z, q.2 = .oslice b o l k z → Off y b) := fun q hq => ⟨(hQ q hq).1.grow g4, (hQ q hq).2⟩
    have g4 := g3.trans g4
    refine WO.ops (StepK.not rfl) (WO.nil ?_)
    refine WC.cond rfl (fun hc2 => out _ _ _ _ g4 (fun _ q => q)) (fun hc2 => WC.skip (WC.ops ?_))
    have hs1 : smallF es := by simpa using hc2
    have h40 := hs1.2
    refine WO.ops (StepK.mv rfl) <| WO.ops (StepK.mv rfl) <| WO.ops (StepK.mv rfl) <| WO.ops (StepK.idxSl rfl rfl q1) <| WO.ops (StepK.loadN rfl q2) ?_
    refine WO.call rfl rfl (own_ans S.toStdO h4 g4.wf seq u es (hey.grow g4) (by omega)) ?_
    rintro v h5 ⟨z, rfl, gz, g5⟩
    have oy : ∀ b, h4.size ≤ b → Off y b := by
      intro b hb
      obtain ⟨_, ⟨rfl, _⟩ | ⟨b', S', ty, rfl, _, _, q4⟩⟩ := gy
      · exact Off.nil b
      · intro b2 o l k z e; cases e
        have := Wf.lt g4.wf q4; omega
    have hz1 := gz.one
    have oz : ∀ b o l k z', z = .oslice b o l k z' → h4.size ≤ b ∧ b < h5.size := by
      intro b o l k z' e
      obtain ⟨_, ⟨q, _⟩ | ⟨b', S', ty, q, _, q3, q4⟩⟩ := gz
      · rw [q] at e; cases e
      · rw [q] at e; cases e; exact ⟨q3.1, Wf.lt g5.wf q4⟩
    refine WO.ops (StepK.buildSl rfl rfl) ?_
    have gp := (Grow.refl g5.wf).push (.cells [iv seq, z] (.tip [] 0 none))
    have hnew : (h5.push (.cells [iv seq, z] (.tip [] 0 none))).get h5.size = some (.cells [iv seq, z] (.tip [] 0 none)) := get_push_self _ _
    have g56 := g5.trans gp
    have gy := gy.grow g56
    have hQ : ∀ q ∈ M, Grown _ h.size 4 q.2 (q.1.es.map Ent.v) ∧ (∀ b o l k z, q.2 = .oslice b o l k z → Off y b ∧ b < h4.size) := fun q hq => ⟨(hQ q hq).1.grow g56, fun b o l k z' e => ⟨(hQ q hq).2 b o l k z' e, by
      obtain ⟨_, ⟨q', _⟩ | ⟨b', S', ty, q', _, _, q4⟩⟩ := (hQ q hq).1
      · rw [q'] at e; cases e
      · rw [q'] at e; cases e; exact Wf.lt g4.wf q4⟩⟩
    have gz6 : Grown _ h.size 4 z (es.map Ent.v) := (gz.grow gp).up g4.size
    have g6 := g4.trans g56
    have hs6 := gp.size
    have hs5 := g5.size
    change WO C _ _ (h5.push (.cells [iv seq, z] (.tip [] 0 none))) _
    generalize h5.push (.cells [iv seq, z] (.tip [] 0 none)) = h6 at *
    have hMl : M.length ≤ 20 := by
      have := congrArg List.length hM
      simp only [List.length_map, List.length_take] at this; omega
    obtain ⟨w, h7, u1, u2, u3, u4, u5⟩ := Grown.append2 (bytes := 32) (tyK := none) hw g6 gy (sl_one hnew rfl) (by decide) (by decide) (roomy32 (by simp; omega)) (fun c hc v hv => by
      obtain rfl := List.mem_singleton.1 hc
      simp only [List.mem_cons, List.not_mem_nil, or_false] at hv
      rcases hv with rfl | rfl
      · rfl
      · exact hz1)
    refine WO.ops (StepK.append rfl rfl u1) <| WO.ops (StepK.mv rfl) (WO.nil (WC.ops ?_))
    refine WO.ops (StepK.mv rfl) <| WO.ops (StepK.add rfl rfl (by omega)) <| WO.ops (StepK.mv rfl) ?_
    refine WO.nil ⟨(p + 1, M ++ [(⟨seq, es⟩, z)], w), Cov.cons rfl (Cov.cons rfl (Cov.cons rfl (Cov.nil _))), ⟨u3, by simp only; omega, ?_, ?_, ?_, ?_⟩, by simp only; omega⟩
    · simp only [htake, List.map_append, hM, List.map_cons, List.map_nil]
    · simp only [List.map_append]; exact u2
    · intro q hq
      rcases List.mem_append.1 hq with hq | hq
      · obtain ⟨r1, r2⟩ := hQ q hq
        exact ⟨r1.frame (fun b o hg o2 l k z' e => u4 b o hg (r2 b o2 l k z' e).1), fun b o l k z' e => u5 b (by have := (r2 b o l k z' e).2; omega) (r2 b o l k z' e).1⟩
      · obtain rfl := List.mem_singleton.1 hq
        exact ⟨gz6.frame (fun b o hg o2 l k z' e => u4 b o hg (oy b (oz b o2 l k z' e).1)), fun b o l k z' e => u5 b (by have := (oz b o l k z' e).2; omega) (oy b (oz b o l k z' e).1)⟩
    · intro q hq
      rw [htake] at hq
      rcases List.mem_append.1 hq with hq | hq
      · exact hsm q hq
      · obtain rfl := List.mem_singleton.1 hq; exact hs1
  have hc := of_decide_eq_false hc
  obtain rfl : p = L.length := by omega
  rw [List.take_length] at hM hsm
  have hBM : Blks h3 y M := ⟨gy.sl, fun q hq => (hQ q hq).1.sl⟩
  have hMl : M.length = L.length := by simpa using congrArg List.length hM
  have hMe : ∀ q ∈ M, q.1.es.length ≤ 1000000 := by
    intro q hq
    have : q.1 ∈ L.map (·.1) := by rw [← hM]; exact List.mem_map_of_mem hq
    obtain ⟨r, hr, e⟩ := List.mem_map.1 this
    have := (hsm r hr).2
    rw [← e]; omega
  refine WC.seqO ?_
  refine WO.ops (StepK.mv rfl) ?_
  refine WO.call rfl rfl (cmerge_ans S.k h3 g3.wf y M hBM (by omega) hMe) ?_
  rintro v h4 ⟨gv, g4⟩
  have g4 := g3.trans g4
  have hcl : (cmF (M.map (·.1))).length ≤ 1000000 := by
    rw [merge_same]; have := rmF_len (M.map (·.1)) 512; omega
  have sv : Ents h4 v (cmF (M.map (·.1))) := gv.sl
  have hcr : cmF (M.map (·.1)) = rmF (L.map (·.1)) 512 := by rw [hM, merge_same]
  rw [hcr] at sv hcl
  refine WO.call rfl rfl (told_ans S.toStdO h4 g4.wf v _ sv hcl) ?_
  rintro w h5 ⟨gw, g5⟩
  have sw : Ents h5 w (rmF (L.map (·.1)) 512) := gw.sl
  have g5 := g4.trans g5
  refine WO.ops (StepK.mv rfl) ?_
  refine WO.call rfl rfl (r13merge_ans S.toStdO h5 g5.wf x L (s.grow g5) (by omega) (fun q hq => by have := (hsm q hq).2; omega)) ?_
  rintro u h6 ⟨gu, g6⟩
  have su : Ents h6 u (rmF (L.map (·.1)) 512) := gu.sl
  refine WO.call rfl rfl (same_ans S.toStdO h6 g6.wf w u _ _ (sw.grow g6) su (by omega)) ?_
  rw [decide_eq_true rfl]
  rintro t h7 ⟨rfl, g7⟩
  have g7 := (g5.trans g6).trans g7
  refine WO.ops (StepK.mv rfl) <| WO.run rfl ?_
  refine WO.call rfl rfl (live_ans S.toStdV h7 (G.grow g7)) ?_
  rintro t h8 ⟨rfl, rfl⟩
  refine WO.ops (StepK.pickT rfl rfl) <| WO.ops (StepK.mv rfl) ?_
  exact WO.nil (WC.ret ⟨trivial, g7, rfl⟩)
end Abs
end Go.Proofs.YthdgjjggndfbhaaDoor
