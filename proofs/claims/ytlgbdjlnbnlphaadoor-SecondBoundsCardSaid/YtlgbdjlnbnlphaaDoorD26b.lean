/- The laws of the second level: SecondBounds, walked. -/
import Derived.Test.YtlgbdjlnbnlphaaDoorD26
namespace Go.Proofs.YtlgbdjlnbnlphaaDoor
namespace Abs
set_option linter.unusedVariables false
set_option linter.unusedSimpArgs false
open Go.RowKit
attribute [local irreducible] WO WC WD StepK Ans Does Runs DoesD

/-- Nothing is written but in a region. -/
structure Texts (f n : Nat) (D : Dv) : Prop where
  a0 : ∀ a, D.s0.getD a [] = []
  a1 : ∀ a, a < f ∨ f + n ≤ a → D.s1.getD a [] = []
def WsIn (f n : Nat) (l : List (Int × Int × List Nat)) : Prop := ∀ w ∈ l, w.1 = 1 ∧ (f : Int) ≤ w.2.1 ∧ w.2.1 < f + n
theorem Texts.put {f n : Nat} {D : Dv} (t : Texts f n D) {w : Int × Int × List Nat} (h : w.1 = 1 ∧ (f : Int) ≤ w.2.1 ∧ w.2.1 < f + n) : Texts f n (D.put w) := by
  have e : D.put w = { D with s1 := D.s1.set w.2.1.toNat w.2.2 } := by unfold Dv.put; rw [if_neg (by omega)]
  rw [e]
  refine ⟨t.a0, fun a ha => ?_⟩
  have := t.a1 a ha
  rw [List.getD_eq_getElem?_getD] at this ⊢
  show ((D.s1.set w.2.1.toNat w.2.2)[a]?).getD [] = []
  rw [List.getElem?_set_ne (by omega)]
  exact this
theorem Texts.steps {f n : Nat} (kp : Nat → Bool) : ∀ (l : List (Int × Int × List Nat)) (i : Nat) (D : Dv), WsIn f n l → Texts f n D → Texts f n (Dv.steps kp i l D)
  | [], i, D, _, t => t
  | w :: l, i, D, h, t => Texts.steps kp l (i + 1) _ (fun x hx => h x (List.mem_cons_of_mem _ hx)) (by
    split
    · exact t.put (h w List.mem_cons_self)
    · exact t)
structure InvB (f n : Nat) (D : Dv) : Prop where
  t : Texts f n D
  w : WsIn f n D.ws
theorem InvB.fl {f n : Nat} {D : Dv} (v : InvB f n D) : InvB f n D.fl := by
  have t := Texts.steps (fun _ => true) D.ws 0 D v.w v.t
  exact ⟨⟨t.a0, t.a1⟩, fun w hw => by cases hw⟩
theorem InvB.wr {f n : Nat} {D : Dv} (v : InvB f n D) {a : Int} {x : List Nat} (h : (f : Int) ≤ a ∧ a < f + n) : InvB f n (D.w a x) := by
  refine ⟨⟨v.t.a0, v.t.a1⟩, fun w hw => ?_⟩
  rcases List.mem_append.1 hw with q | q
  · exact v.w w q
  · obtain rfl := List.mem_singleton.1 q
    exact ⟨rfl, h⟩
theorem InvB.fed {f n i hd hd' : Nat} {D D' : Dv} {X X' : XS} {key ld : List Nat} {t : Bool} (v : InvB f n D) (F : FOk f n i hd D X) (h : Fed f n key ld D X hd D' X' hd' t) : InvB f n D' := by
  rcases h with ⟨_, _, rfl, _⟩ | ⟨_, _, _, rfl, _⟩ | ⟨_, _, _, rfl, _⟩
  · exact v
  · exact v
  · have hr := F.hr
    have e := F.ef
    have h1 : f + 8 * (hd / 7) < f + n ∧ locN f hd < f + n ∧ f ≤ locN f hd := by unfold locN; unfold roomN at hr; omega
    unfold fdD fdD2 fdD1
    rw [e]
    exact (((v.wr (by omega)).fl.wr (by omega)).fl.wr (by omega))
theorem InvB.rd {f n i hd : Nat} {D : Dv} {X : XS} (v : InvB f n D) (F : FOk f n i hd D X) {c a : Nat} (hc : c < 2) (ha : a < (if c = 0 then 4 else 40)) : ∃ t, D.rd c a = (t, 0) ∧ (t ≠ [] → c = 1 ∧ f ≤ a ∧ a < f + n) := by
  have hm : D.may c a 0 = 0 := by
    rcases (by omega : c = 0 ∨ c = 1) with rfl | rfl
    · unfold Dv.may
      rw [if_neg, if_neg]
      · simp [Dv.l, F.l0]
      · simp only [isDev, Dv.s]
        have := F.z0
        simp at ha ⊢
        omega
    · have := F.z1
      exact may_ok (by omega) (by simp at ha; omega) (by omega) F.l1
  refine ⟨_, by rw [Dv.rd, if_pos hm], ?_⟩
  intro hne
  unfold Dv.last at hne
  cases hf : D.ws.reverse.find? (isAt c a) with
  | some w =>
    have h1 := List.mem_of_find?_eq_some hf
    have h2 := List.find?_some hf
    have h3 := v.w w (by simpa using h1)
    simp [isAt] at h2
    omega
  | none =>
    rw [hf] at hne
    rcases (by omega : c = 0 ∨ c = 1) with rfl | rfl
    · exact absurd (v.t.a0 a) hne
    · refine ⟨rfl, ?_⟩
      by_cases h : a < f ∨ f + n ≤ a
      · exact absurd (v.t.a1 a h) hne
      · omega
section
variable {C : Cfg} (S : StdW C)
include S
theorem secondBounds_ans (h : Heap) (hw : Wf h) (G : Gl gl h) (x : V) (fs : List Rec) (sx : Sl h 2 x (fs.map rC)) (hfb : FedsB fs) (from_ n : Int) (hfr : -9223372036854775808 ≤ from_ ∧ from_ < 9223372036854775808) (hnr : -9223372036854775808 ≤ n ∧ n < 9223372036854775808) :
    Ans C 4 [x, iv from_, iv n] h fun r h' => r = .bool true ∧ Grow h h' := by
  have hF : C.F 4 = some a4 := S.f rfl
  unfold a4 at hF
  have hSm := S.hm
  refine Ans.val (fun _ _ => S.s _ _ _ rfl) hF rfl rfl hw fun h2 g2 => ?_
  clear hF
  have hlen : (fs.map rC).length = fs.length := List.length_map _
  have out : ∀ {e' : List (Nat × V)} {h' : Heap} {Q : Ex → List (Nat × V) → Heap → Prop} {t : Nat}, Grow h h' → t ≠ 6 → (∀ e'' h'', Env.get e'' 6 = some (.bool true) → Grow h h'' → Q .ret e'' h'') →
      WC C (.seq (.ops [⟨(some t), none, .call (.c (.func (.func 6) [] [])) []⟩, ⟨(some 6), none, .mv (.t t)⟩]) .ret) e' h' Q := by
    intro e' h' Q t g ht hQ
    refine WC.seqO ?_
    refine WO.call rfl rfl (live14_ans S h' (G.grow g)) ?_
    rintro _ _ ⟨rfl, rfl⟩
    refine WO.ops (StepK.mv (v := .bool true) (by simp [evE, Env.get])) <| WO.nil (WC.ret (hQ _ _ ?_ g))
    simp [Env.get]
  have fin : ∀ (e'' : List (Nat × V)) (h'' : Heap), Env.get e'' 6 = some (.bool true) → Grow h h'' → Fin .ret ∧ Grow h h'' ∧ retE e'' h'' [.tmp 6] = some (.bool true) := by
    intro e'' h'' he g
    refine ⟨trivial, g, ?_⟩
    simp only [retE, ressE, resE, he]; rfl
  refine WC.seqO (omv rfl (WO.nil (WC.seq (WC.seqO ?_))))
  refine omv rfl <| ols rfl (sx.grow g2).len ?_
  by_cases c1 : (30 : Int) < (fs.map rC).length
  · refine obn rfl rfl (gtT c1) ?_
    (repeat (first | refine omv rfl ?_ | refine ols rfl (by first | with_reducible assumption | rfl) ?_ | refine ofa rfl ?_ | refine oad rfl rfl (by omega) ?_ | refine osb rfl rfl (by omega) ?_ | refine obn rfl rfl rfl ?_ | refine opt rfl rfl ?_ | refine opf rfl rfl ?_ | refine ont rfl ?_ | refine oeq rfl rfl rfl ?_ | refine oex rfl rfl ?_ | refine obu rfl rfl ?_ | refine ofd rfl rfl ?_ | refine olt rfl ?_ | refine onk rfl ?_ | refine old rfl (by first | with_reducible assumption | rfl) ?_ | refine WO.run rfl ?_ | refine WO.skip rfl rfl ?_ | refine WO.skipu rfl ?_))
    exact WO.nil (WC.cond rfl (fun hc => out g2 (by decide) fin) (fun hc => by cases hc))
  refine obn rfl rfl (gtF c1) <| omv rfl <| WO.run rfl <| omv rfl <| WO.run rfl ?_
  by_cases c2 : from_ < 0
  · refine obn rfl rfl (ltT c2) ?_
    (repeat (first | refine omv rfl ?_ | refine ols rfl (by first | with_reducible assumption | rfl) ?_ | refine ofa rfl ?_ | refine oad rfl rfl (by omega) ?_ | refine osb rfl rfl (by omega) ?_ | refine obn rfl rfl rfl ?_ | refine opt rfl rfl ?_ | refine opf rfl rfl ?_ | refine ont rfl ?_ | refine oeq rfl rfl rfl ?_ | refine oex rfl rfl ?_ | refine obu rfl rfl ?_ | refine ofd rfl rfl ?_ | refine olt rfl ?_ | refine onk rfl ?_ | refine old rfl (by first | with_reducible assumption | rfl) ?_ | refine WO.run rfl ?_ | refine WO.skip rfl rfl ?_ | refine WO.skipu rfl ?_))
    exact WO.nil (WC.cond rfl (fun hc => out g2 (by decide) fin) (fun hc => by cases hc))
  refine obn rfl rfl (ltF c2) <| opf rfl rfl <| omv rfl <| WO.run rfl <| omv rfl <| WO.run rfl ?_
  by_cases c3 : n < 2
  · refine obn rfl rfl (ltT c3) ?_
    (repeat (first | refine omv rfl ?_ | refine ols rfl (by first | with_reducible assumption | rfl) ?_ | refine ofa rfl ?_ | refine oad rfl rfl (by omega) ?_ | refine osb rfl rfl (by omega) ?_ | refine obn rfl rfl rfl ?_ | refine opt rfl rfl ?_ | refine opf rfl rfl ?_ | refine ont rfl ?_ | refine oeq rfl rfl rfl ?_ | refine oex rfl rfl ?_ | refine obu rfl rfl ?_ | refine ofd rfl rfl ?_ | refine olt rfl ?_ | refine onk rfl ?_ | refine old rfl (by first | with_reducible assumption | rfl) ?_ | refine WO.run rfl ?_ | refine WO.skip rfl rfl ?_ | refine WO.skipu rfl ?_))
    exact WO.nil (WC.cond rfl (fun hc => out g2 (by decide) fin) (fun hc => by cases hc))
  refine obn rfl rfl (ltF c3) <| opf rfl rfl <| omv rfl <| WO.run rfl <| omv rfl <| WO.run rfl <| omv rfl <| WO.run rfl <| osb rfl rfl (by omega) <| WO.run rfl ?_
  by_cases c4 : 40 - n < from_
  · refine obn rfl rfl (gtT c4) ?_
    (repeat (first | refine omv rfl ?_ | refine ols rfl (by first | with_reducible assumption | rfl) ?_ | refine ofa rfl ?_ | refine oad rfl rfl (by omega) ?_ | refine osb rfl rfl (by omega) ?_ | refine obn rfl rfl rfl ?_ | refine opt rfl rfl ?_ | refine opf rfl rfl ?_ | refine ont rfl ?_ | refine oeq rfl rfl rfl ?_ | refine oex rfl rfl ?_ | refine obu rfl rfl ?_ | refine ofd rfl rfl ?_ | refine olt rfl ?_ | refine onk rfl ?_ | refine old rfl (by first | with_reducible assumption | rfl) ?_ | refine WO.run rfl ?_ | refine WO.skip rfl rfl ?_ | refine WO.skipu rfl ?_))
    exact WO.nil (WC.cond rfl (fun hc => out g2 (by decide) fin) (fun hc => by cases hc))
  refine obn rfl rfl (gtF c4) <| opf rfl rfl <| WO.nil <| WC.cond rfl (fun hc => by cases hc) (fun hc => WC.skip (WC.seqO ?_))
  obtain ⟨f, rfl⟩ : ∃ f : Nat, from_ = f := ⟨from_.toNat, by omega⟩
  obtain ⟨m, rfl⟩ : ∃ m : Nat, n = m := ⟨n.toNat, by omega⟩
  have hfm : f + m ≤ 40 := by omega
  have hm2 : 2 ≤ m := by omega
  refine WO.call rfl rfl (dnew_ans S.toStdO h2 g2.wf 4 40 (by decide) (by decide) (by decide) (by decide)) ?_
  rintro _ h3 ⟨b, b0, b1, rfl, g23, d3⟩
  have g3 := g2.trans g23
  refine omv rfl <| WO.nil (WC.seqO ?_)
  refine omv rfl <| omv rfl <| omv rfl ?_
  refine WO.call rfl rfl (open_ans S.toStdX hSm h2.size h3 g3.wf (G.grow g3).ro b b0 b1 _ _ d3 f m hm2 (by show f + m ≤ 40; exact hfm) (by decide) (by decide) (fun _ => none) (fun g hg => ⟨?_, fun p hp => by cases hp⟩)) ?_
  · exact new_rd (by unfold roomN at hg; omega)
  rintro _ h4 ⟨s, mb, sq, hd0, rfl, g34, x4, hz⟩
  obtain ⟨rfl, rfl⟩ := hz (fun _ _ => rfl)
  rw [lgA_none] at x4
  have g4 := g3.trans g34
  have x4 : XAt h2.size h4 s mb b b0 b1 _ ⟨f, m, [], 0, 0⟩ := { x4 with ns := Nat.le_trans g23.size x4.ns, nm := Nat.le_trans g23.size x4.nm }
  have d4 := d3.grow g34
  refine omv rfl <| WO.nil (WC.seq (WC.seqO ?_))
  refine omv rfl <| oeq rfl rfl (t := false) rfl <| WO.nil <| WC.cond rfl (fun hc => by cases hc) (fun hc => WC.skip (WC.seq (WC.seqO (omv rfl (WO.nil (WC.block ?_))))))
  have hw2 := g2.wf
  have F0 : FOk f m 0 0 (Dv.new 4 40) ⟨f, m, [], 0, 0⟩ := FOk.new hm2
  have I0 : InvB f m (Dv.new 4 40) := ⟨⟨fun a => rep_nil 4 a, fun a _ => rep_nil 40 a⟩, fun w hw => by cases hw⟩
  refine WC.loop (σ := Nat) (fun i => [(0, x), (1, iv f), (2, iv m), (7, .ptr (some (b, 0))), (8, .ptr (some (s, 0))), (9, iv i)])
    (fun i h' => i ≤ fs.length ∧ Grow h2 h' ∧ ∃ wv D X hd, DevAt h2.size h' b b0 b1 wv D ∧ XAt h2.size h' s mb b b0 b1 wv X ∧ FOk f m i hd D X ∧ InvB f m D) (fun i => fs.length - i) 0
    (Cov.cons rfl (Cov.cons rfl (Cov.cons rfl (Cov.cons rfl (Cov.cons rfl (Cov.cons rfl (Cov.nil _))))))) ⟨Nat.zero_le _, g23.trans g34, _, _, _, 0, d4, x4, F0, I0⟩ ?_
  rintro i h5 ⟨hi, g5, wv, D, X, hd, d5, x5, F, I⟩
  have s5 := sx.grow (g2.trans g5)
  refine WC.seq (WC.seqO ?_)
  refine omv rfl <| omv rfl <| ols rfl s5.len ?_
  by_cases hlt : i < fs.length
  · refine obn rfl rfl (ltT (by omega)) <| WO.nil <| WC.cond rfl (fun hc => WC.skip (WC.seq (WC.block (WC.draw ?_)))) (fun hc => by cases hc)
    obtain ⟨c, o, i1, i2⟩ := s5.at (i := i) (by omega)
    have ew : (fs.map rC)[i]'(by omega) = rC fs[i] := by simp
    rw [ew] at i2
    have hfbi := hfb _ (List.getElem_mem hlt)
    generalize fs[i] = r at *
    have r0 : h5.rd c (o + 0) = some (.str r.1) := rds_rd i2 (j := 0) rfl
    have r1 : h5.rd c (o + 1) = some (.str r.2) := rds_rd i2 (j := 1) rfl
    refine dmv rfl <| dmv rfl <| dmv rfl <| WD.pure (StepK.idxSl rfl rfl i1) rfl <| dfa rfl <| WD.load1 rfl r0 <| dmv rfl <| dmv rfl <| WD.pure (StepK.idxSl rfl rfl i1) rfl <| dfa rfl <| WD.load1 rfl r1 ?_
    refine WD.call (by repeat (first | exact trivial | refine ⟨by with_reducible assumption, ?_⟩)) rfl rfl (feed_ok S.toStdX hSm h2 h5 hw2 g5 (G.grow g2).ro s mb b b0 b1 wv D X d5 x5 r.1 r.2 f m i hd F hfm (by omega) hfbi) ?_
    rintro _ h6 ⟨t, wv', D', X', hd', rfl, g6, d6, x6, F6, fd⟩
    refine WD.nil (by repeat (first | exact trivial | refine ⟨by with_reducible assumption, ?_⟩)) (WC.ops ?_)
    refine omv rfl <| oad rfl rfl (by omega) <| omv rfl (WO.nil ⟨i + 1, ?_, ⟨hlt, g6, wv', D', X', hd', d6, x6, F6, I.fed F fd⟩, by omega⟩)
    exact Cov.cons rfl (Cov.cons rfl (Cov.cons rfl (Cov.cons rfl (Cov.cons rfl (Cov.cons (by simp [Env.get, iv]) (Cov.nil _))))))
  refine obn rfl rfl (ltF (by omega)) <| WO.nil <| WC.cond rfl (fun hc => by cases hc) (fun hc => WC.exit (WC.seq (WC.seqO (omv rfl (WO.nil (WC.block ?_))))))
  clear x4 d4 x5
  refine WC.loop (σ := Nat) (fun i => [(1, iv f), (2, iv m), (7, .ptr (some (b, 0))), (10, iv i)]) (fun i h' => i ≤ 2 ∧ Grow h5 h') (fun i => 2 - i) 0
    (Cov.cons rfl (Cov.cons rfl (Cov.cons rfl (Cov.cons rfl (Cov.nil _))))) ⟨Nat.zero_le _, Grow.refl g5.wf⟩ ?_
  rintro c h6 ⟨hc2, g6⟩
  refine WC.seq (WC.seqO ?_)
  refine omv rfl ?_
  by_cases hlt2 : c < 2
  · refine obn rfl rfl (ltT (by omega)) <| WO.nil <| WC.cond rfl (fun hc => WC.skip (WC.seq (WC.block (WC.seqO (omv rfl (WO.nil (WC.block ?_))))))) (fun hc => by cases hc)
    refine WC.loop (σ := Nat) (fun a => [(1, iv f), (2, iv m), (7, .ptr (some (b, 0))), (10, iv c), (11, iv a)]) (fun a h' => a ≤ (if c = 0 then 4 else 40) ∧ Grow h5 h') (fun a => 40 - a) 0
      (Cov.cons rfl (Cov.cons rfl (Cov.cons rfl (Cov.cons rfl (Cov.cons rfl (Cov.nil _)))))) ⟨Nat.zero_le _, g6⟩ ?_
    rintro a h7 ⟨ha, g7⟩
    have hb40 : (if c = 0 then 4 else 40) ≤ 40 := by split <;> omega
    refine WC.seq (WC.seqO ?_)
    refine omv rfl <| omv rfl <| omv rfl ?_
    refine WO.call rfl rfl (size_ans S.toStdO h7 g7.wf b b0 b1 wv D (Cl.grow d5.B g7) c) ?_
    have hsz : (if isDev (c : Int) = true then ((D.s c).length : Int) else 0) = ((if c = 0 then 4 else 40 : Nat) : Int) := by
      rcases (by omega : c = 0 ∨ c = 1) with rfl | rfl
      · simp [isDev, Dv.s, F.z0]
      · simp [isDev, Dv.s, F.z1]
    rw [hsz]
    rintro _ h8 ⟨rfl, g78⟩
    have g8 := g7.trans g78
    by_cases hlt3 : a < (if c = 0 then 4 else 40)
    · refine obn rfl rfl (ltT (by omega)) <| WO.nil <| WC.cond rfl (fun hc => WC.skip (WC.seq (WC.block (WC.seqO ?_)))) (fun hc => by cases hc)
      refine omv rfl <| omv rfl <| omv rfl <| obu rfl rfl ?_
      refine WO.call rfl rfl (dread_ans S.toStdO hSm h2.size h8 g8.wf b b0 b1 wv D (d5.grow g8) (by have := F.ws; omega) c a) ?_
      rintro _ h9 ⟨rfl, g89⟩
      have g9 := g8.trans g89
      obtain ⟨t, ht, hin⟩ := I.rd F hlt2 hlt3
      rw [ht]
      refine omv rfl <| oex rfl rfl <| oex rfl rfl <| omv rfl <| omv rfl <| WO.nil (WC.seqO ?_)
      refine omv rfl <| obn rfl rfl (neF rfl) <| omv rfl <| WO.run rfl <| omv rfl <| WO.run rfl ?_
      by_cases h0 : t = []
      · refine obn rfl rfl (strNeF h0) ?_
        (repeat (first | refine omv rfl ?_ | refine ols rfl (by first | with_reducible assumption | rfl) ?_ | refine ofa rfl ?_ | refine oad rfl rfl (by omega) ?_ | refine osb rfl rfl (by omega) ?_ | refine obn rfl rfl rfl ?_ | refine opt rfl rfl ?_ | refine opf rfl rfl ?_ | refine ont rfl ?_ | refine oeq rfl rfl rfl ?_ | refine oex rfl rfl ?_ | refine obu rfl rfl ?_ | refine ofd rfl rfl ?_ | refine olt rfl ?_ | refine onk rfl ?_ | refine old rfl (by first | with_reducible assumption | rfl) ?_ | refine WO.run rfl ?_ | refine WO.skip rfl rfl ?_ | refine WO.skipu rfl ?_))
        refine WO.nil (WC.cond rfl (fun hc => by cases hc) (fun hc => WC.skip (WC.ops ?_)))
        refine omv rfl <| oad rfl rfl (by omega) <| omv rfl (WO.nil ⟨a + 1, ?_, ⟨by omega, g9⟩, by split at hlt3 <;> omega⟩)
        exact Cov.cons rfl (Cov.cons rfl (Cov.cons rfl (Cov.cons rfl (Cov.cons (by simp [Env.get, iv]) (Cov.nil _)))))
      obtain ⟨rfl, hf1, hf2⟩ := hin h0
      refine obn rfl rfl (strNeT h0) <| WO.run rfl <| omv rfl <| WO.run rfl <| omv rfl <| WO.run rfl <| obn rfl rfl (eqF (by decide)) <| WO.run rfl <| omv rfl <| WO.run rfl <| omv rfl <| WO.run rfl <| omv rfl <| WO.run rfl <| obn rfl rfl (ltF (by omega)) <| WO.run rfl <| opf rfl rfl <| WO.run rfl <| omv rfl <| WO.run rfl <|
        omv rfl <| WO.run rfl <| omv rfl <| WO.run rfl <| omv rfl <| WO.run rfl <| oad rfl rfl (by omega) <| WO.run rfl <| obn rfl rfl (geF (by omega)) ?_
      (repeat (first | refine omv rfl ?_ | refine ols rfl (by first | with_reducible assumption | rfl) ?_ | refine ofa rfl ?_ | refine oad rfl rfl (by omega) ?_ | refine osb rfl rfl (by omega) ?_ | refine obn rfl rfl rfl ?_ | refine opt rfl rfl ?_ | refine opf rfl rfl ?_ | refine ont rfl ?_ | refine oeq rfl rfl rfl ?_ | refine oex rfl rfl ?_ | refine obu rfl rfl ?_ | refine ofd rfl rfl ?_ | refine olt rfl ?_ | refine onk rfl ?_ | refine old rfl (by first | with_reducible assumption | rfl) ?_ | refine WO.run rfl ?_ | refine WO.skip rfl rfl ?_ | refine WO.skipu rfl ?_))
      refine WO.nil (WC.cond rfl (fun hc => by cases hc) (fun hc => WC.skip (WC.ops ?_)))
      refine omv rfl <| oad rfl rfl (by omega) <| omv rfl (WO.nil ⟨a + 1, ?_, ⟨by omega, g9⟩, by simp at hlt3; omega⟩)
      exact Cov.cons rfl (Cov.cons rfl (Cov.cons rfl (Cov.cons rfl (Cov.cons (by simp [Env.get, iv]) (Cov.nil _)))))
    refine obn rfl rfl (ltF (by omega)) <| WO.nil <| WC.cond rfl (fun hc => by cases hc) (fun hc => WC.exit (WC.ops ?_))
    refine omv rfl <| oad rfl rfl (by omega) <| omv rfl (WO.nil ⟨c + 1, ?_, ⟨by omega, g8⟩, by omega⟩)
    exact Cov.cons rfl (Cov.cons rfl (Cov.cons rfl (Cov.cons (by simp [Env.get, iv]) (Cov.nil _))))
  refine obn rfl rfl (ltF (by omega)) <| WO.nil <| WC.cond rfl (fun hc => by cases hc) (fun hc => WC.exit ?_)
  exact out (g2.trans (g5.trans g6)) (by decide) fin
end
end Abs
end Go.Proofs.YtlgbdjlnbnlphaaDoor
