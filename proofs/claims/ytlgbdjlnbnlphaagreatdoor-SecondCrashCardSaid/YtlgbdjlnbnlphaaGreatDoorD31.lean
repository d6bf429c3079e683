/- The law SecondCrash, walked. -/
import Derived.Test.YtlgbdjlnbnlphaaGreatDoorD29
import Derived.Test.YtlgbdjlnbnlphaaGreatDoorD9c
namespace Go.Proofs.YtlgbdjlnbnlphaaGreatDoor
namespace Abs
set_option linter.unusedVariables false
set_option linter.unusedSimpArgs false
open Go.RowKit
attribute [local irreducible] WO WC WD StepK Ans Does Runs DoesD

theorem done_one (D : Dv) (kp : Nat → Bool) (h : D.ws.length ≤ 1) : (D.done kp).s1 = if kp 0 then D.fl.s1 else D.s1 := by
  unfold Dv.fl Dv.done
  cases hw : D.ws with
  | nil => dsimp only [Dv.steps]; split <;> rfl
  | cons w r =>
    rw [hw] at h
    have : r = [] := List.length_eq_zero_iff.1 (by simpa using h)
    subst this
    simp only [Dv.steps]
    split <;> rfl
theorem leBB (a b : Int) : binA .leq (iv a) (iv b) = some (.bool (decide (a ≤ b))) := by
  simp [binA, iv]
section
variable {C : Cfg} (S : StdW C)
include S
theorem secondCrash_ans (h : Heap) (hw : Wf h) (G : Gl gl h) (x : V) (fs : List Rec) (sx : Sl h 2 x (fs.map rC)) (hfb : FedsB fs) (hfl : fs.length ≤ 9223372036854775807) (y : V) (hy1 : V.one y = true) (ks : List Bool) (sy : Sl h 1 y (ks.map fun t => [V.bool t])) (n : Int) (hnr : -9223372036854775808 ≤ n ∧ n < 9223372036854775808) :
    Ans C 3 [x, y, iv n] h fun r h' => r = .bool true ∧ Grow h h' := by
  have hF : C.F 3 = some a3 := S.f rfl
  unfold a3 at hF
  have hSm := S.hm
  refine Ans.val (fun _ _ => S.s _ _ _ rfl) hF rfl rfl hw fun h2 g2 => ?_
  clear hF
  have hlen : (fs.map rC).length = fs.length := List.length_map _
  have out : ∀ {e' : List (Nat × V)} {h' : Heap} {Q : Ex → List (Nat × V) → Heap → Prop} {t : Nat}, Grow h h' → t ≠ 6 → (∀ e'' h'', Env.get e'' 6 = some (.bool true) → Grow h h'' → Q .ret e'' h'') →
      WC C (.seq (.ops [⟨(some t), none, .call (.c (.func (.func 5) [] [])) []⟩, ⟨(some 6), none, .mv (.t t)⟩]) .ret) e' h' Q := by
    intro e' h' Q t g ht hQ
    refine WC.seqO ?_
    refine WO.call rfl rfl (live14_ans S h' (G.grow g)) ?_
    rintro _ _ ⟨rfl, rfl⟩
    refine WO.ops (StepK.mv (v := .bool true) (by simp [evE, Env.get])) <| WO.nil (WC.ret (hQ _ _ ?_ g))
    simp [Env.get]
  have fin : ∀ (e'' : List (Nat × V)) (h'' : Heap), Env.get e'' 6 = some (.bool true) → Grow h h'' → Fin .ret ∧ Grow h h'' ∧ retE e'' h'' [.tmp 6] = some (.bool true) := by
    intro e'' h'' he g
    refine ⟨trivial, g, ?_⟩
    simp only [retE, ressE, resE, he]; rfl
  refine WC.seqO (omv rfl (WO.nil (WC.seq (WC.seqO ?_))))
  refine omv rfl ?_
  refine WO.call rfl rfl (plain_ans S.toStdO h2 g2.wf x fs (sx.grow g2) hfl) ?_
  rintro _ h3 ⟨t, rfl, hP, g23⟩
  have g3 := g2.trans g23
  refine ont rfl <| omv rfl ?_
  cases t with
  | false =>
    (repeat (first | refine omv rfl ?_ | refine ols rfl (by first | with_reducible assumption | rfl) ?_ | refine ofa rfl ?_ | refine oad rfl rfl (by omega) ?_ | refine osb rfl rfl (by omega) ?_ | refine obn rfl rfl rfl ?_ | refine opt rfl rfl ?_ | refine opf rfl rfl ?_ | refine ont rfl ?_ | refine oeq rfl rfl rfl ?_ | refine oex rfl rfl ?_ | refine obu rfl rfl ?_ | refine ofd rfl rfl ?_ | refine olt rfl ?_ | refine onk rfl ?_ | refine old rfl (by first | with_reducible assumption | rfl) ?_ | refine WO.run rfl ?_ | refine WO.skip rfl rfl ?_ | refine WO.skipu rfl ?_))
    exact WO.nil (WC.cond rfl (fun hc => out g3 (by decide) fin) (fun hc => by cases hc))
  | true =>
  have P := hP rfl
  have h30 := P.2
  have hylen : (ks.map fun t => [V.bool t]).length = ks.length := List.length_map _
  refine WO.run rfl <| omv rfl <| WO.run rfl <| ols rfl (sy.grow g3).len <| WO.run rfl ?_
  by_cases c1 : (100 : Int) < (ks.map fun t => [V.bool t]).length
  · refine obn rfl rfl (gtT c1) ?_
    (repeat (first | refine omv rfl ?_ | refine ols rfl (by first | with_reducible assumption | rfl) ?_ | refine ofa rfl ?_ | refine oad rfl rfl (by omega) ?_ | refine osb rfl rfl (by omega) ?_ | refine obn rfl rfl rfl ?_ | refine opt rfl rfl ?_ | refine opf rfl rfl ?_ | refine ont rfl ?_ | refine oeq rfl rfl rfl ?_ | refine oex rfl rfl ?_ | refine obu rfl rfl ?_ | refine ofd rfl rfl ?_ | refine olt rfl ?_ | refine onk rfl ?_ | refine old rfl (by first | with_reducible assumption | rfl) ?_ | refine WO.run rfl ?_ | refine WO.skip rfl rfl ?_ | refine WO.skipu rfl ?_))
    exact WO.nil (WC.cond rfl (fun hc => out g3 (by decide) fin) (fun hc => by cases hc))
  refine obn rfl rfl (gtF c1) <| opf rfl rfl <| omv rfl <| WO.run rfl <| omv rfl <| WO.run rfl ?_
  by_cases c2 : n < 2
  · refine obn rfl rfl (ltT c2) ?_
    (repeat (first | refine omv rfl ?_ | refine ols rfl (by first | with_reducible assumption | rfl) ?_ | refine ofa rfl ?_ | refine oad rfl rfl (by omega) ?_ | refine osb rfl rfl (by omega) ?_ | refine obn rfl rfl rfl ?_ | refine opt rfl rfl ?_ | refine opf rfl rfl ?_ | refine ont rfl ?_ | refine oeq rfl rfl rfl ?_ | refine oex rfl rfl ?_ | refine obu rfl rfl ?_ | refine ofd rfl rfl ?_ | refine olt rfl ?_ | refine onk rfl ?_ | refine old rfl (by first | with_reducible assumption | rfl) ?_ | refine WO.run rfl ?_ | refine WO.skip rfl rfl ?_ | refine WO.skipu rfl ?_))
    exact WO.nil (WC.cond rfl (fun hc => out g3 (by decide) fin) (fun hc => by cases hc))
  refine obn rfl rfl (ltF c2) <| opf rfl rfl <| omv rfl <| WO.run rfl <| omv rfl <| WO.run rfl ?_
  by_cases c3 : 36 < n
  · refine obn rfl rfl (gtT c3) ?_
    (repeat (first | refine omv rfl ?_ | refine ols rfl (by first | with_reducible assumption | rfl) ?_ | refine ofa rfl ?_ | refine oad rfl rfl (by omega) ?_ | refine osb rfl rfl (by omega) ?_ | refine obn rfl rfl rfl ?_ | refine opt rfl rfl ?_ | refine opf rfl rfl ?_ | refine ont rfl ?_ | refine oeq rfl rfl rfl ?_ | refine oex rfl rfl ?_ | refine obu rfl rfl ?_ | refine ofd rfl rfl ?_ | refine olt rfl ?_ | refine onk rfl ?_ | refine old rfl (by first | with_reducible assumption | rfl) ?_ | refine WO.run rfl ?_ | refine WO.skip rfl rfl ?_ | refine WO.skipu rfl ?_))
    exact WO.nil (WC.cond rfl (fun hc => out g3 (by decide) fin) (fun hc => by cases hc))
  refine obn rfl rfl (gtF c3) <| opf rfl rfl <| WO.nil <| WC.cond rfl (fun hc => by cases hc) (fun hc => WC.skip (WC.seqO ?_))
  obtain ⟨m, rfl⟩ : ∃ m : Nat, n = m := ⟨n.toNat, by omega⟩
  have hfm : 4 + m ≤ 40 := by omega
  have hm2 : 2 ≤ m := by omega
  have hR : 0 < roomN m := by unfold roomN; omega
  have hRm : roomN m ≤ m := by unfold roomN; omega
  refine WO.call rfl rfl (dnew_ans S.toStdO h3 g3.wf 4 40 (by decide) (by decide) (by decide) (by decide)) ?_
  rintro _ h4 ⟨b, b0, b1, rfl, g34, d4⟩
  have g4 := g3.trans g34
  refine omv rfl <| WO.nil (WC.seqO ?_)
  refine omv rfl <| omv rfl ?_
  refine WO.call rfl rfl (open_ans S.toStdX hSm h3.size h4 g4.wf (G.grow g4).ro b b0 b1 _ _ d4 4 m hm2 (by show 4 + m ≤ 40; exact hfm) (by decide) (by decide) (fun _ => none) (fun g hg => ⟨?_, fun p hp => by cases hp⟩)) ?_
  · exact new_rd (by unfold roomN at hg; omega)
  rintro _ h5 ⟨s, mb, sq, hd0, rfl, g45, x5, hz⟩
  obtain ⟨rfl, rfl⟩ := hz (fun _ _ => rfl)
  rw [lgA_none] at x5
  have x5 : XAt h3.size h5 s mb b b0 b1 _ ⟨4, m, [], 0, 0⟩ := { x5 with ns := Nat.le_trans g34.size x5.ns, nm := Nat.le_trans g34.size x5.nm }
  have d5 := d4.grow g45
  have hw3 := g3.wf
  have ro3 : Ro h3 := (G.grow g3).ro
  refine omv rfl <| WO.nil (WC.seq (WC.seqO ?_))
  refine omv rfl <| oeq rfl rfl (t := false) rfl <| WO.nil <| WC.cond rfl (fun hc => by cases hc) (fun hc => WC.skip (WC.seq (WC.seqO (omv rfl (WO.nil (WC.block ?_))))))
  have F0 : FOk 4 m 0 (0 % roomN m) (Dv.new 4 40) ⟨4, m, [], 0, 0⟩ := by rw [Nat.zero_mod]; exact FOk.new hm2
  have I0 : FInv fs 4 (roomN m) 0 (Dv.new 4 40) ⟨4, m, [], 0, 0⟩ := FInv.new fs 4 m (roomN m) _ rfl rfl
  refine WC.loop (σ := Nat) (fun i => [(0, x), (1, y), (2, iv m), (7, .ptr (some (b, 0))), (8, .ptr (some (s, 0))), (9, iv i)])
    (fun i h' => i ≤ fs.length ∧ Grow h3 h' ∧ ∃ wv D X, DevAt h3.size h' b b0 b1 wv D ∧ XAt h3.size h' s mb b b0 b1 wv X ∧ FOk 4 m i (i % roomN m) D X ∧ FInv fs 4 (roomN m) i D X) (fun i => fs.length - i) 0
    (Cov.cons rfl (Cov.cons rfl (Cov.cons rfl (Cov.cons rfl (Cov.cons rfl (Cov.cons rfl (Cov.nil _))))))) ⟨Nat.zero_le _, g34.trans g45, _, _, _, d5, x5, F0, I0⟩ ?_
  rintro i h6 ⟨hi, g6, wv, D, X, d6, x6, F, I⟩
  have s6 := sx.grow (g3.trans g6)
  refine WC.seq (WC.seqO ?_)
  refine omv rfl <| omv rfl <| ols rfl s6.len ?_
  by_cases hlt : i < fs.length
  · refine obn rfl rfl (ltT (by omega)) <| WO.nil <| WC.cond rfl (fun hc => WC.skip (WC.seq (WC.block (WC.draw ?_)))) (fun hc => by cases hc)
    obtain ⟨c, o, i1, i2⟩ := s6.at (i := i) (by omega)
    have ew : (fs.map rC)[i]'(by omega) = rC (rec' fs i) := by rw [List.getElem_map, rec_get]
    rw [ew] at i2
    have hfbi : Byt (rec' fs i).1 := by rw [← rec_get hlt]; exact hfb _ (List.getElem_mem hlt)
    have r0 : h6.rd c (o + 0) = some (.str (rec' fs i).1) := rds_rd i2 (j := 0) rfl
    have r1 : h6.rd c (o + 1) = some (.str (rec' fs i).2) := rds_rd i2 (j := 1) rfl
    refine dmv rfl <| dmv rfl <| dmv rfl <| WD.pure (StepK.idxSl rfl rfl i1) rfl <| dfa rfl <| WD.load1 rfl r0 <| dmv rfl <| dmv rfl <| WD.pure (StepK.idxSl rfl rfl i1) rfl <| dfa rfl <| WD.load1 rfl r1 ?_
    refine WD.call (by repeat (first | exact trivial | refine ⟨by with_reducible assumption, ?_⟩)) rfl rfl (feed_ok S.toStdX hSm h3 h6 hw3 g6 ro3 s mb b b0 b1 wv D X d6 x6 _ _ 4 m i _ F hfm (by omega) hfbi) ?_
    rintro _ h7 ⟨t, wv', D', X', hd', rfl, g7, d7, x7, F7, fd⟩
    obtain ⟨rfl, rfl, I7⟩ := fed_rec P hfb I F F7 hfm rfl hlt fd
    refine WD.nil (by repeat (first | exact trivial | refine ⟨by with_reducible assumption, ?_⟩)) (WC.ops ?_)
    refine omv rfl <| oad rfl rfl (by omega) <| omv rfl (WO.nil ⟨i + 1, ?_, ⟨hlt, g7, wv', D', X', d7, x7, F7, I7⟩, by omega⟩)
    exact Cov.cons rfl (Cov.cons rfl (Cov.cons rfl (Cov.cons rfl (Cov.cons rfl (Cov.cons (by simp [Env.get, iv]) (Cov.nil _))))))
  obtain rfl : i = fs.length := by omega
  refine obn rfl rfl (ltF (by omega)) <| WO.nil <| WC.cond rfl (fun hc => by cases hc) (fun hc => WC.exit (WC.seqO ?_))
  clear x5 d5 d4 F0 I0
  refine omv rfl <| omv rfl ?_
  have ls3 : ∀ z ∈ [b0, b1], h3.size ≤ z := fun z hz => by simp only [List.mem_cons, List.not_mem_nil, or_false] at hz; rcases hz with rfl | rfl <;> first | exact d6.n0 | exact d6.n1
  refine WO.call rfl rfl (dcrash_ans S.toStdO hSm h3.size h6 g6.wf b b0 b1 wv D d6 F.ok (by have := F.ws; omega) y hy1 ks (fun h' c => sy.grow (g3.trans (c.newGrow g6 hw3 ls3)))) ?_
  rintro _ h7 ⟨rfl, c7, d7⟩
  have g7 : Grow h3 h7 := c7.newGrow g6 hw3 (fun x hx => by simp only [List.mem_cons, List.not_mem_nil, or_false] at hx; rcases hx with rfl | rfl | rfl <;> first | exact d6.nb | exact d6.n0 | exact d6.n1)
  generalize hkp : (fun i => ks.getD i false) = kp at *
  obtain ⟨z0, z1, zl0, zl1, zw⟩ := fl_alk D kp
  have z1 : (D.done kp).s1.length = 40 := z1.trans F.z1
  have zl1 : (D.done kp).l1 = false := zl1.trans F.l1
  obtain ⟨A', hAs, du⟩ : ∃ A', (∀ k e, findI k A' = some e → AF fs 4 (roomN m) fs.length k = some e) ∧ Dur fs 4 (roomN m) fs.length (D.done kp).s1 A' := by
    rw [done_one D kp F.ws]
    cases kp 0 with
    | true => exact ⟨X.A, fun k e he => by rw [← I.A]; exact he, I.now⟩
    | false =>
      obtain ⟨A', _, q2, q3⟩ := I.was
      exact ⟨A', fun k e he => by rw [← I.A]; exact q2 k e he, q3⟩
  obtain ⟨lg, lg1, lg2⟩ := dur_logs P hfb hfm (Nat.le_refl _) du hAs hR (D.done kp) rfl z1 zw zl1
  refine WO.nil (WC.seqO ?_)
  refine omv rfl <| omv rfl ?_
  have ro7 : Ro h7 := ro3.grow g7
  refine WO.call rfl rfl (open_ans S.toStdX hSm h3.size h7 g7.wf ro7 b b0 b1 _ _ d7 4 m hm2 (by rw [z1]; exact hfm) (by rw [z1]; decide) (by rw [zw]; simp) lg lg1) ?_
  rintro _ h8 ⟨s2, mb2, sq, hd, rfl, g78, x8, _⟩
  have d8 := d7.grow g78
  have g8 := g7.trans g78
  refine omv rfl <| WO.nil (WC.seq (WC.seqO ?_))
  refine omv rfl <| oeq rfl rfl (t := false) rfl <| WO.nil <| WC.cond rfl (fun hc => by cases hc) (fun hc => WC.skip (WC.seq (WC.seqO (omv rfl (WO.nil (WC.block ?_))))))
  have hAk : ∀ k e, findI k (lgA 4 lg ((roomN m + 6) / 7)) = some e → AF fs 4 (roomN m) fs.length k = some e := fun k e he => by rw [lg2] at he; exact hAs k e he
  refine WC.loop (σ := Nat) (fun i => [(0, x), (10, .ptr (some (s2, 0))), (11, iv i)]) (fun i h' => i ≤ fs.length ∧ Grow h8 h') (fun i => fs.length - i) 0
    (Cov.cons rfl (Cov.cons rfl (Cov.cons rfl (Cov.nil _)))) ⟨Nat.zero_le _, Grow.refl g8.wf⟩ ?_
  rintro i h9 ⟨hi9, g9⟩
  have g39 := g8.trans g9
  have s9 := sx.grow (g3.trans g39)
  refine WC.seq (WC.seqO ?_)
  refine omv rfl <| omv rfl <| ols rfl s9.len ?_
  by_cases hlt : i < fs.length
  · refine obn rfl rfl (ltT (by omega)) <| WO.nil <| WC.cond rfl (fun hc => WC.skip (WC.seq (WC.block (WC.seqO ?_)))) (fun hc => by cases hc)
    obtain ⟨c, o, i1, i2⟩ := s9.at (i := i) (by omega)
    have ew : (fs.map rC)[i]'(by omega) = rC (rec' fs i) := by rw [List.getElem_map, rec_get]
    rw [ew] at i2
    have r0 : h9.rd c (o + 0) = some (.str (rec' fs i).1) := rds_rd i2 (j := 0) rfl
    have r1 : h9.rd c (o + 1) = some (.str (rec' fs i).2) := rds_rd i2 (j := 1) rfl
    refine omv rfl <| omv rfl <| omv rfl <| WO.ops (StepK.idxSl rfl rfl i1) <| ofa rfl <| old rfl r0 ?_
    refine WO.call rfl rfl (find_rec S.toStdX hSm P hfm hR (Nat.le_refl _) hlt h3.size h7.size h9 g39.wf (ro3.grow g39) s2 mb2 b b0 b1 _ (D.done kp) _ (d8.grow g9) (x8.grow g9) zw zl1 z1 A' du hAk) ?_
    rintro _ h10 ⟨rfl, gA⟩
    have r1A := gA.rd r1
    have gF := g9.trans gA
    by_cases q : findX (lgA 4 lg ((roomN m + 6) / 7)) (rec' fs i).1 = none
    · rw [if_pos q]
      refine omv rfl <| oex rfl rfl <| oex rfl rfl <| omv rfl <| omv rfl <| WO.nil (WC.seqO ?_)
      refine omv rfl <| omv rfl ?_
      (repeat (first | refine omv rfl ?_ | refine ols rfl (by first | with_reducible assumption | rfl) ?_ | refine ofa rfl ?_ | refine oad rfl rfl (by omega) ?_ | refine osb rfl rfl (by omega) ?_ | refine obn rfl rfl rfl ?_ | refine opt rfl rfl ?_ | refine opf rfl rfl ?_ | refine ont rfl ?_ | refine oeq rfl rfl rfl ?_ | refine oex rfl rfl ?_ | refine obu rfl rfl ?_ | refine ofd rfl rfl ?_ | refine olt rfl ?_ | refine onk rfl ?_ | refine old rfl (by first | with_reducible assumption | rfl) ?_ | refine WO.run rfl ?_ | refine WO.skip rfl rfl ?_ | refine WO.skipu rfl ?_))
      refine WO.nil (WC.cond rfl (fun hc => by cases hc) (fun hc => WC.skip (WC.ops ?_)))
      refine omv rfl <| oad rfl rfl (by omega) <| omv rfl (WO.nil ⟨i + 1, ?_, ⟨hlt, gF⟩, by omega⟩)
      exact Cov.cons rfl (Cov.cons rfl (Cov.cons (by simp [Env.get, iv]) (Cov.nil _)))
    · rw [if_neg q]
      refine omv rfl <| oex rfl rfl <| oex rfl rfl <| omv rfl <| omv rfl <| WO.nil (WC.seqO ?_)
      refine omv rfl <| omv rfl <| WO.run rfl <| omv rfl <| WO.run rfl <| omv rfl <| WO.run rfl <| omv rfl <| WO.run rfl <| WO.ops (StepK.idxSl rfl rfl i1) <| WO.run rfl <| ofa rfl <| WO.run rfl <| old rfl r1A <| WO.run rfl <| obn rfl rfl (strNeF rfl) <| opt rfl rfl <| WO.nil (WC.cond rfl (fun hc => by cases hc) (fun hc => WC.skip (WC.ops ?_)))
      refine omv rfl <| oad rfl rfl (by omega) <| omv rfl (WO.nil ⟨i + 1, ?_, ⟨hlt, gF⟩, by omega⟩)
      exact Cov.cons rfl (Cov.cons rfl (Cov.cons (by simp [Env.get, iv]) (Cov.nil _)))
  refine obn rfl rfl (ltF (by omega)) <| WO.nil <| WC.cond rfl (fun hc => by cases hc) (fun hc => WC.exit (WC.seqO ?_))
  have x9 := x8.grow g9
  have hks : ∀ k ∈ (lgA 4 lg ((roomN m + 6) / 7)).map (fun p : Int × Ent => p.1), 0 ≤ k ∧ k < (roomN m : Int) := fun k hk => by
    obtain ⟨e, he⟩ := findI_mem hk
    obtain ⟨p, j, h1, h2, _⟩ := AF_some hR (hAk k e he)
    omega
  have hlen2 : (lgA 4 lg ((roomN m + 6) / 7)).length ≤ roomN m := by
    have := pigeon (roomN m) _ x9.mp.1 hks
    rwa [List.length_map] at this
  refine omv rfl ?_
  refine WO.call rfl rfl (xentries_ans S.toStdX h9 g39.wf s2 mb2 _ (x9.cs.rd rfl) x9.mp (fun k hk => by have := hks k hk; omega) (by show (lgA 4 lg ((roomN m + 6) / 7)).length ≤ 1000000; omega)) ?_
  rintro r h10 ⟨gr, gA⟩
  have g3A := g39.trans gA
  have hl2 := gr.sl.len
  rw [List.length_map, (srtI_perm _).length_eq, List.length_map] at hl2
  refine ols rfl hl2 <| omv rfl ?_
  refine WO.call rfl rfl (room_ans S.toStdO h10 g3A.wf s2 m ((x9.grow gA).cs.rd rfl) (by omega)) ?_
  rintro _ h11 ⟨rfl, gB⟩
  have g3B := g3.trans (g3A.trans gB)
  refine obn rfl rfl (leBB _ _) ?_
  rw [show decide (((lgA 4 lg ((roomN m + 6) / 7)).length : Int) ≤ roomN m) = true from decide_eq_true (by omega)]
  refine omv rfl <| WO.run rfl ?_
  refine WO.call rfl rfl (live14_ans S h11 (G.grow g3B)) ?_
  rintro _ _ ⟨rfl, rfl⟩
  refine opt rfl rfl <| omv rfl <| WO.nil <| WC.ret (fin _ _ rfl g3B)
end
end Abs
end Go.Proofs.YtlgbdjlnbnlphaaGreatDoor
