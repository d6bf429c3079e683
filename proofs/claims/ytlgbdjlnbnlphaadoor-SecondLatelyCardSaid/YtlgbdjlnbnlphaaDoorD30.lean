/- The law SecondLately, walked. -/
import Derived.Test.YtlgbdjlnbnlphaaDoorD29
namespace Go.Proofs.YtlgbdjlnbnlphaaDoor
namespace Abs
set_option linter.unusedVariables false
set_option linter.unusedSimpArgs false
open Go.RowKit
attribute [local irreducible] WO WC WD StepK Ans Does Runs DoesD

theorem geB (a b : Int) : binA .geq (iv a) (iv b) = some (.bool (decide (b ≤ a))) := by
  by_cases h : b ≤ a
  · rw [geT h, decide_eq_true h]
  · rw [geF h, decide_eq_false h]
section
variable {C : Cfg} (S : StdW C)
include S
theorem secondLately_ans (h : Heap) (hw : Wf h) (G : Gl gl h) (x : V) (fs : List Rec) (sx : Sl h 2 x (fs.map rC)) (hfb : FedsB fs) (hfl : fs.length ≤ 9223372036854775807) (n : Int) (hnr : -9223372036854775808 ≤ n ∧ n < 9223372036854775808) :
    Ans C 3 [x, iv n] h fun r h' => r = .bool true ∧ Grow h h' := by
  have hF : C.F 3 = some a3 := S.f rfl
  unfold a3 at hF
  have hSm := S.hm
  refine Ans.val (fun _ _ => S.s _ _ _ rfl) hF rfl rfl hw fun h2 g2 => ?_
  clear hF
  have hlen : (fs.map rC).length = fs.length := List.length_map _
  have out : ∀ {e' : List (Nat × V)} {h' : Heap} {Q : Ex → List (Nat × V) → Heap → Prop} {t : Nat}, Grow h h' → t ≠ 4 → (∀ e'' h'', Env.get e'' 4 = some (.bool true) → Grow h h'' → Q .ret e'' h'') →
      WC C (.seq (.ops [⟨(some t), none, .call (.c (.func (.func 6) [] [])) []⟩, ⟨(some 4), none, .mv (.t t)⟩]) .ret) e' h' Q := by
    intro e' h' Q t g ht hQ
    refine WC.seqO ?_
    refine WO.call rfl rfl (live14_ans S h' (G.grow g)) ?_
    rintro _ _ ⟨rfl, rfl⟩
    refine WO.ops (StepK.mv (v := .bool true) (by simp [evE, Env.get])) <| WO.nil (WC.ret (hQ _ _ ?_ g))
    simp [Env.get]
  have fin : ∀ (e'' : List (Nat × V)) (h'' : Heap), Env.get e'' 4 = some (.bool true) → Grow h h'' → Fin .ret ∧ Grow h h'' ∧ retE e'' h'' [.tmp 4] = some (.bool true) := by
    intro e'' h'' he g
    refine ⟨trivial, g, ?_⟩
    simp only [retE, ressE, resE, he]; rfl
  refine WC.seqO (omv rfl (WO.nil (WC.seq (WC.seqO ?_))))
  refine omv rfl ?_
  refine WO.call rfl rfl (plain_ans S.toStdO h2 g2.wf x fs (sx.grow g2) hfl) ?_
  rintro _ h3 ⟨t, rfl, hP, g23⟩
  have g3 := g2.trans g23
  refine ont rfl <| omv rfl ?_
  cases t with
  | false =>
    (repeat (first | refine omv rfl ?_ | refine ols rfl (by first | with_reducible assumption | rfl) ?_ | refine ofa rfl ?_ | refine oad rfl rfl (by omega) ?_ | refine osb rfl rfl (by omega) ?_ | refine obn rfl rfl rfl ?_ | refine opt rfl rfl ?_ | refine opf rfl rfl ?_ | refine ont rfl ?_ | refine oeq rfl rfl rfl ?_ | refine oex rfl rfl ?_ | refine obu rfl rfl ?_ | refine ofd rfl rfl ?_ | refine olt rfl ?_ | refine onk rfl ?_ | refine old rfl (by first | with_reducible assumption | rfl) ?_ | refine WO.run rfl ?_ | refine WO.skip rfl rfl ?_ | refine WO.skipu rfl ?_))
    exact WO.nil (WC.cond rfl (fun hc => out g3 (by decide) fin) (fun hc => by cases hc))
  | true =>
  have P := hP rfl
  have h30 := P.2
  refine WO.run rfl <| omv rfl <| WO.run rfl ?_
  by_cases c2 : n < 2
  · refine obn rfl rfl (ltT c2) ?_
    (repeat (first | refine omv rfl ?_ | refine ols rfl (by first | with_reducible assumption | rfl) ?_ | refine ofa rfl ?_ | refine oad rfl rfl (by omega) ?_ | refine osb rfl rfl (by omega) ?_ | refine obn rfl rfl rfl ?_ | refine opt rfl rfl ?_ | refine opf rfl rfl ?_ | refine ont rfl ?_ | refine oeq rfl rfl rfl ?_ | refine oex rfl rfl ?_ | refine obu rfl rfl ?_ | refine ofd rfl rfl ?_ | refine olt rfl ?_ | refine onk rfl ?_ | refine old rfl (by first | with_reducible assumption | rfl) ?_ | refine WO.run rfl ?_ | refine WO.skip rfl rfl ?_ | refine WO.skipu rfl ?_))
    exact WO.nil (WC.cond rfl (fun hc => out g3 (by decide) fin) (fun hc => by cases hc))
  refine obn rfl rfl (ltF c2) <| opf rfl rfl <| omv rfl <| WO.run rfl <| omv rfl <| WO.run rfl ?_
  by_cases c3 : 36 < n
  · refine obn rfl rfl (gtT c3) ?_
    (repeat (first | refine omv rfl ?_ | refine ols rfl (by first | with_reducible assumption | rfl) ?_ | refine ofa rfl ?_ | refine oad rfl rfl (by omega) ?_ | refine osb rfl rfl (by omega) ?_ | refine obn rfl rfl rfl ?_ | refine opt rfl rfl ?_ | refine opf rfl rfl ?_ | refine ont rfl ?_ | refine oeq rfl rfl rfl ?_ | refine oex rfl rfl ?_ | refine obu rfl rfl ?_ | refine ofd rfl rfl ?_ | refine olt rfl ?_ | refine onk rfl ?_ | refine old rfl (by first | with_reducible assumption | rfl) ?_ | refine WO.run rfl ?_ | refine WO.skip rfl rfl ?_ | refine WO.skipu rfl ?_))
    exact WO.nil (WC.cond rfl (fun hc => out g3 (by decide) fin) (fun hc => by cases hc))
  refine obn rfl rfl (gtF c3) <| opf rfl rfl <| WO.nil <| WC.cond rfl (fun hc => by cases hc) (fun hc => WC.skip (WC.seqO ?_))
  obtain ⟨m, rfl⟩ : ∃ m : Nat, n = m := ⟨n.toNat, by omega⟩
  have hfm : 4 + m ≤ 40 := by omega
  have hm2 : 2 ≤ m := by omega
  have hR : 0 < roomN m := by unfold roomN; omega
  have hRm : roomN m ≤ m := by unfold roomN; omega
  refine WO.call rfl rfl (dnew_ans S.toStdO h3 g3.wf 4 40 (by decide) (by decide) (by decide) (by decide)) ?_
  rintro _ h4 ⟨b, b0, b1, rfl, g34, d4⟩
  have g4 := g3.trans g34
  refine omv rfl <| WO.nil (WC.seqO ?_)
  refine omv rfl <| omv rfl ?_
  refine WO.call rfl rfl (open_ans S.toStdX hSm h3.size h4 g4.wf (G.grow g4).ro b b0 b1 _ _ d4 4 m hm2 (by show 4 + m ≤ 40; exact hfm) (by decide) (by decide) (fun _ => none) (fun g hg => ⟨?_, fun p hp => by cases hp⟩)) ?_
  · exact new_rd (by unfold roomN at hg; omega)
  rintro _ h5 ⟨s, mb, sq, hd0, rfl, g45, x5, hz⟩
  obtain ⟨rfl, rfl⟩ := hz (fun _ _ => rfl)
  rw [lgA_none] at x5
  have x5 : XAt h3.size h5 s mb b b0 b1 _ ⟨4, m, [], 0, 0⟩ := { x5 with ns := Nat.le_trans g34.size x5.ns, nm := Nat.le_trans g34.size x5.nm }
  have d5 := d4.grow g45
  have hw3 := g3.wf
  have ro3 : Ro h3 := (G.grow g3).ro
  refine omv rfl <| WO.nil (WC.seq (WC.seqO ?_))
  refine omv rfl <| oeq rfl rfl (t := false) rfl <| WO.nil <| WC.cond rfl (fun hc => by cases hc) (fun hc => WC.skip (WC.seq (WC.seqO (omv rfl (WO.nil (WC.block ?_))))))
  have F0 : FOk 4 m 0 (0 % roomN m) (Dv.new 4 40) ⟨4, m, [], 0, 0⟩ := by rw [Nat.zero_mod]; exact FOk.new hm2
  have I0 : FInv fs 4 (roomN m) 0 (Dv.new 4 40) ⟨4, m, [], 0, 0⟩ := FInv.new fs 4 m (roomN m) _ rfl rfl
  refine WC.loop (σ := Nat) (fun i => [(0, x), (1, iv m), (5, .ptr (some (b, 0))), (6, .ptr (some (s, 0))), (7, iv i)])
    (fun i h' => i ≤ fs.length ∧ Grow h3 h' ∧ ∃ wv D X, DevAt h3.size h' b b0 b1 wv D ∧ XAt h3.size h' s mb b b0 b1 wv X ∧ FOk 4 m i (i % roomN m) D X ∧ FInv fs 4 (roomN m) i D X) (fun i => fs.length - i) 0
    (Cov.cons rfl (Cov.cons rfl (Cov.cons rfl (Cov.cons rfl (Cov.cons rfl (Cov.nil _)))))) ⟨Nat.zero_le _, g34.trans g45, _, _, _, d5, x5, F0, I0⟩ ?_
  rintro i h6 ⟨hi, g6, wv, D, X, d6, x6, F, I⟩
  have s6 := sx.grow (g3.trans g6)
  refine WC.seq (WC.seqO ?_)
  refine omv rfl <| omv rfl <| ols rfl s6.len ?_
  by_cases hlt : i < fs.length
  · refine obn rfl rfl (ltT (by omega)) <| WO.nil <| WC.cond rfl (fun hc => WC.skip (WC.seq (WC.block (WC.seqD ?_)))) (fun hc => by cases hc)
    obtain ⟨c, o, i1, i2⟩ := s6.at (i := i) (by omega)
    have ew : (fs.map rC)[i]'(by omega) = rC (rec' fs i) := by rw [List.getElem_map, rec_get]
    rw [ew] at i2
    have hfbi : Byt (rec' fs i).1 := by rw [← rec_get hlt]; exact hfb _ (List.getElem_mem hlt)
    have r0 : h6.rd c (o + 0) = some (.str (rec' fs i).1) := rds_rd i2 (j := 0) rfl
    have r1 : h6.rd c (o + 1) = some (.str (rec' fs i).2) := rds_rd i2 (j := 1) rfl
    refine dmv rfl <| dmv rfl <| dmv rfl <| WD.pure (StepK.idxSl rfl rfl i1) rfl <| dfa rfl <| WD.load1 rfl r0 <| dmv rfl <| dmv rfl <| WD.pure (StepK.idxSl rfl rfl i1) rfl <| dfa rfl <| WD.load1 rfl r1 ?_
    refine WD.call (by repeat (first | exact trivial | refine ⟨by with_reducible assumption, ?_⟩)) rfl rfl (feed_ok S.toStdX hSm h3 h6 hw3 g6 ro3 s mb b b0 b1 wv D X d6 x6 _ _ 4 m i _ F hfm (by omega) hfbi) ?_
    rintro _ h7 ⟨t, wv', D', X', hd', rfl, g7, d7, x7, F7, fd⟩
    obtain ⟨rfl, rfl, I7⟩ := fed_rec P hfb I F F7 hfm rfl hlt fd
    refine dnt rfl <| WD.nil (by repeat (first | exact trivial | refine ⟨by with_reducible assumption, ?_⟩)) (WC.cond rfl (fun hc => by cases hc) (fun hc => WC.skip (WC.ops ?_)))
    refine omv rfl <| oad rfl rfl (by omega) <| omv rfl (WO.nil ⟨i + 1, ?_, ⟨hlt, g7, wv', D', X', d7, x7, F7, I7⟩, by omega⟩)
    exact Cov.cons rfl (Cov.cons rfl (Cov.cons rfl (Cov.cons rfl (Cov.cons (by simp [Env.get, iv]) (Cov.nil _)))))
  obtain rfl : i = fs.length := by omega
  refine obn rfl rfl (ltF (by omega)) <| WO.nil <| WC.cond rfl (fun hc => by cases hc) (fun hc => WC.exit (WC.seqO ?_))
  clear x5 d5 d4 F0 I0
  refine omv rfl ?_
  refine WO.call rfl rfl (dflush_ans S.toStdO hSm h3.size h6 g6.wf b b0 b1 wv D d6 F.ok (by have := F.ws; omega)) ?_
  rintro _ h7 ⟨rfl, c7, d7⟩
  have g7 : Grow h3 h7 := c7.newGrow g6 hw3 (fun x hx => by simp only [List.mem_cons, List.not_mem_nil, or_false] at hx; rcases hx with rfl | rfl | rfl <;> first | exact d6.nb | exact d6.n0 | exact d6.n1)
  have x7 := x6.nil c7
  obtain ⟨z0, z1, zl0, zl1, zw⟩ := fl_alk D fun _ => true
  have z1 : D.fl.s1.length = 40 := z1.trans F.z1
  have zl1 : D.fl.l1 = false := zl1.trans F.l1
  have zw : D.fl.ws = [] := zw
  have d7 : DevAt h3.size h7 b b0 b1 (.slice none 0 0) D.fl := d7
  have hAs : ∀ k e, findI k X.A = some e → AF fs 4 (roomN m) fs.length k = some e := fun k e he => by rw [← I.A]; exact he
  obtain ⟨lg, lg1, lg2⟩ := dur_logs P hfb hfm (Nat.le_refl _) I.now hAs hR D.fl rfl z1 zw zl1
  refine WO.nil (WC.seqO ?_)
  refine omv rfl <| omv rfl ?_
  have ro7 : Ro h7 := ro3.grow g7
  refine WO.call rfl rfl (open_ans S.toStdX hSm h3.size h7 g7.wf ro7 b b0 b1 _ _ d7 4 m hm2 (by rw [z1]; exact hfm) (by rw [z1]; decide) (by rw [zw]; simp) lg lg1) ?_
  rintro _ h8 ⟨s2, mb2, sq, hd, rfl, g78, x8, _⟩
  have xs8 := x7.grow g78
  have d8 := d7.grow g78
  have g8 := g7.trans g78
  refine omv rfl <| WO.nil (WC.seq (WC.seqO ?_))
  refine omv rfl <| oeq rfl rfl (t := false) rfl <| WO.nil <| WC.cond rfl (fun hc => by cases hc) (fun hc => WC.skip (WC.seq (WC.seqO (omv rfl (WO.nil (WC.block ?_))))))
  have hAk : ∀ k, findI k (lgA 4 lg ((roomN m + 6) / 7)) = AF fs 4 (roomN m) fs.length k := fun k => by rw [lg2, I.A]
  refine WC.loop (σ := Nat) (fun i => [(0, x), (1, iv m), (6, .ptr (some (s, 0))), (8, .ptr (some (s2, 0))), (9, iv i)]) (fun i h' => i ≤ fs.length ∧ Grow h8 h') (fun i => fs.length - i) 0
    (Cov.cons rfl (Cov.cons rfl (Cov.cons rfl (Cov.cons rfl (Cov.cons rfl (Cov.nil _)))))) ⟨Nat.zero_le _, Grow.refl g8.wf⟩ ?_
  rintro i h9 ⟨hi9, g9⟩
  have g39 := g8.trans g9
  have s9 := sx.grow (g3.trans g39)
  refine WC.seq (WC.seqO ?_)
  refine omv rfl <| omv rfl <| ols rfl s9.len ?_
  by_cases hlt : i < fs.length
  · refine obn rfl rfl (ltT (by omega)) <| WO.nil <| WC.cond rfl (fun hc => WC.skip (WC.seq (WC.block (WC.seqO ?_)))) (fun hc => by cases hc)
    obtain ⟨c, o, i1, i2⟩ := s9.at (i := i) (by omega)
    have ew : (fs.map rC)[i]'(by omega) = rC (rec' fs i) := by rw [List.getElem_map, rec_get]
    rw [ew] at i2
    have r0 : h9.rd c (o + 0) = some (.str (rec' fs i).1) := rds_rd i2 (j := 0) rfl
    have r1 : h9.rd c (o + 1) = some (.str (rec' fs i).2) := rds_rd i2 (j := 1) rfl
    refine omv rfl <| omv rfl <| omv rfl <| WO.ops (StepK.idxSl rfl rfl i1) <| ofa rfl <| old rfl r0 ?_
    refine WO.call rfl rfl (find_rec S.toStdX hSm P hfm hR (Nat.le_refl _) hlt h3.size h3.size h9 g39.wf (ro3.grow g39) s mb b b0 b1 _ D.fl X (d8.grow g9) (xs8.grow g9) zw zl1 z1 X.A I.now hAs) ?_
    rintro _ h10 ⟨rfl, gA⟩
    have is1 := findX_is P hR (Nat.le_refl _) I.A hlt
    have is2 := findX_is P hR (Nat.le_refl _) hAk hlt
    obtain ⟨tt, h1, h2, ht⟩ : ∃ tt : Bool, (if findX X.A (rec' fs i).1 = none then V.tuple [.str [], .bool false] else .tuple [.str (rec' fs i).2, .bool true]) = (if tt then V.tuple [.str (rec' fs i).2, .bool true] else .tuple [.str [], .bool false]) ∧
        (if findX (lgA 4 lg ((roomN m + 6) / 7)) (rec' fs i).1 = none then V.tuple [.str [], .bool false] else .tuple [.str (rec' fs i).2, .bool true]) = (if tt then V.tuple [.str (rec' fs i).2, .bool true] else .tuple [.str [], .bool false]) ∧ tt = decide (fs.length ≤ i + roomN m) := by
      by_cases q : fs.length ≤ i + roomN m
      · exact ⟨true, by rw [if_neg (is1.2 q)]; rfl, by rw [if_neg (is2.2 q)]; rfl, (decide_eq_true q).symm⟩
      · refine ⟨false, ?_, ?_, (decide_eq_false q).symm⟩
        · rw [if_pos (Decidable.byContradiction fun c => q (is1.1 c))]; rfl
        · rw [if_pos (Decidable.byContradiction fun c => q (is2.1 c))]; rfl
    rw [h1]
    have sA := s9.grow gA
    have r0A := gA.rd r0
    have r1A := gA.rd r1
    obtain ⟨v1, v2, hv1, hv2⟩ : ∃ v1 v2, (if tt then V.tuple [.str (rec' fs i).2, .bool true] else .tuple [.str [], .bool false]) = .tuple [.str v1, .bool tt] ∧ (tt = true → v1 = (rec' fs i).2) ∧ v2 = v1 := by
      cases tt with
      | true => exact ⟨_, _, rfl, fun _ => rfl, rfl⟩
      | false => exact ⟨_, _, rfl, (fun h => by cases h), rfl⟩
    obtain ⟨hv2, rfl⟩ := hv2
    rw [hv1]
    refine omv rfl <| oex rfl rfl <| oex rfl rfl <| omv rfl <| omv rfl <| WO.nil (WC.seqO ?_)
    refine omv rfl <| omv rfl <| omv rfl <| WO.ops (StepK.idxSl rfl rfl i1) <| ofa rfl <| old rfl r0A ?_
    have g3A := g39.trans gA
    refine WO.call rfl rfl (find_rec S.toStdX hSm P hfm hR (Nat.le_refl _) hlt h3.size h7.size h10 g3A.wf (ro3.grow g3A) s2 mb2 b b0 b1 _ D.fl _ ((d8.grow g9).grow gA) ((x8.grow g9).grow gA) zw zl1 z1 X.A I.now (fun k e he => by rw [← hAk]; exact he)) ?_
    rintro _ h11 ⟨rfl, gB⟩
    rw [h2, hv1]
    have g3B := g3A.trans gB
    have g8B := (g9.trans gA).trans gB
    have sB := sA.grow gB
    have r1B := gB.rd r1A
    refine omv rfl <| oex rfl rfl <| oex rfl rfl <| omv rfl <| omv rfl <| WO.nil (WC.seqO ?_)
    refine omv rfl <| omv rfl <| omv rfl <| ols rfl sB.len <| omv rfl ?_
    refine WO.call rfl rfl (room_ans S.toStdO h11 g3B.wf s m ((by have e := F.en; rw [← e]; exact (xs8.grow g8B).cs.rd rfl)) (by omega)) ?_
    rintro _ h12 ⟨rfl, gC⟩
    have gF := g8B.trans gC
    have r1C := gC.rd r1B
    rw [hlen]
    have hge : decide ((fs.length : Int) - roomN m ≤ i) = tt := by rw [ht]; exact decide_eq_decide.2 (by omega)
    refine osb rfl rfl (by omega) <| obn rfl rfl (geB _ _) ?_
    rw [hge]
    cases tt with
    | true =>
      obtain rfl := hv2 rfl
      refine oeq rfl rfl (t := true) rfl <| omv rfl <| WO.run rfl <| omv rfl <| WO.run rfl <| omv rfl <| WO.run rfl <| oeq rfl rfl (t := true) rfl <| opf rfl rfl <| omv rfl <| WO.run rfl <| omv rfl <| WO.run rfl <| omv rfl <| WO.run rfl <| omv rfl <| WO.run rfl <| omv rfl <| WO.run rfl <| omv rfl <| WO.run rfl <| WO.ops (StepK.idxSl rfl rfl i1) <| WO.run rfl <| ofa rfl <| WO.run rfl <| old rfl r1C <| WO.run rfl <| obn rfl rfl (strNeF rfl) <|
        WO.run rfl <| omv rfl <| WO.run rfl <| omv rfl <| WO.run rfl <| omv rfl <| WO.run rfl <| omv rfl <| WO.run rfl <| WO.ops (StepK.idxSl rfl rfl i1) <| WO.run rfl <| ofa rfl <| WO.run rfl <| old rfl r1C <| WO.run rfl <| obn rfl rfl (strNeF rfl) ?_
      (repeat (first | refine omv rfl ?_ | refine ols rfl (by first | with_reducible assumption | rfl) ?_ | refine ofa rfl ?_ | refine oad rfl rfl (by omega) ?_ | refine osb rfl rfl (by omega) ?_ | refine obn rfl rfl rfl ?_ | refine opt rfl rfl ?_ | refine opf rfl rfl ?_ | refine ont rfl ?_ | refine oeq rfl rfl rfl ?_ | refine oex rfl rfl ?_ | refine obu rfl rfl ?_ | refine ofd rfl rfl ?_ | refine olt rfl ?_ | refine onk rfl ?_ | refine old rfl (by first | with_reducible assumption | rfl) ?_ | refine WO.run rfl ?_ | refine WO.skip rfl rfl ?_ | refine WO.skipu rfl ?_))
      refine WO.nil (WC.cond rfl (fun hc => by cases hc) (fun hc => WC.skip (WC.ops ?_)))
      refine omv rfl <| oad rfl rfl (by omega) <| omv rfl (WO.nil ⟨i + 1, ?_, ⟨hlt, gF⟩, by omega⟩)
      exact Cov.cons rfl (Cov.cons rfl (Cov.cons rfl (Cov.cons rfl (Cov.cons (by simp [Env.get, iv]) (Cov.nil _)))))
    | false =>
      refine oeq rfl rfl (t := true) rfl <| omv rfl <| WO.run rfl <| omv rfl <| WO.run rfl <| omv rfl <| WO.run rfl <| oeq rfl rfl (t := true) rfl <| opf rfl rfl <| omv rfl <| WO.run rfl <| omv rfl <| WO.run rfl <| omv rfl ?_
      (repeat (first | refine omv rfl ?_ | refine ols rfl (by first | with_reducible assumption | rfl) ?_ | refine ofa rfl ?_ | refine oad rfl rfl (by omega) ?_ | refine osb rfl rfl (by omega) ?_ | refine obn rfl rfl rfl ?_ | refine opt rfl rfl ?_ | refine opf rfl rfl ?_ | refine ont rfl ?_ | refine oeq rfl rfl rfl ?_ | refine oex rfl rfl ?_ | refine obu rfl rfl ?_ | refine ofd rfl rfl ?_ | refine olt rfl ?_ | refine onk rfl ?_ | refine old rfl (by first | with_reducible assumption | rfl) ?_ | refine WO.run rfl ?_ | refine WO.skip rfl rfl ?_ | refine WO.skipu rfl ?_))
      refine WO.nil (WC.cond rfl (fun hc => by cases hc) (fun hc => WC.skip (WC.ops ?_)))
      refine omv rfl <| oad rfl rfl (by omega) <| omv rfl (WO.nil ⟨i + 1, ?_, ⟨hlt, gF⟩, by omega⟩)
      exact Cov.cons rfl (Cov.cons rfl (Cov.cons rfl (Cov.cons rfl (Cov.cons (by simp [Env.get, iv]) (Cov.nil _)))))
  refine obn rfl rfl (ltF (by omega)) <| WO.nil <| WC.cond rfl (fun hc => by cases hc) (fun hc => WC.exit ?_)
  exact out (g3.trans g39) (by decide) fin
end
end Abs
end Go.Proofs.YtlgbdjlnbnlphaaDoor
