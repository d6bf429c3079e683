/- Layer 13: ClogEncodes and ClogDecodes, walked. -/
import Derived.Test.YthdgjjggndfbhaaDoorK2
import Derived.Test.YthdgjjggndfbhaaDoorK11
namespace Go.Proofs.YthdgjjggndfbhaaDoor
namespace Abs
set_option linter.unusedVariables false
set_option linter.unusedSimpArgs false
open Go.RowKit
attribute [local irreducible] WO WC WD StepK Ans Does Runs DoesD

structure StdVR (C : Cfg) : Prop extends StdV C where
  rof : ∀ args h, C.S 15 args h = none

theorem eql_str (a : List Nat) : binA .eql (.str a) (.str a) = some (.bool true) := by
  show some (V.bool (beqL a a)) = _
  rw [beqL_refl]
theorem eql_same (a : Int) : binA .eql (iv a) (iv a) = some (.bool true) := by simp only [binA, if_true, beq_self_eq_true]
theorem box2 {h : Heap} (hw : Wf h) {z : V} (hz : V.one z = true) (seq : Int) : ∃ h9, (h.push (.cells [iv 0, .slice none 0 0] (.tip [] 0 none))).wr h.size 0 [iv seq, z] = some h9 ∧ Cl h9 h.size [iv seq, z] ∧ Grow h h9 := by
  have gp := (Grow.refl hw).push (.cells [iv 0, .slice none 0 0] (.tip [] 0 none))
  have a2 := Cl.new h [iv 0, .slice none 0 0] none
  obtain ⟨h9, u1, u2, u3, u4⟩ := a2.sets gp.wf (i := 0) (us := [iv seq, z]) (by simp) (by simp only [List.all_cons, List.all_nil, hz, Bool.and_true]; rfl)
  exact ⟨h9, u1, u2, Chg.newGrow gp u3 hw (by simp)⟩
theorem decF_len (s : List Nat) : (decF s).es.length ≤ 7 := by
  unfold decF
  split
  · simp
  split
  · simp
  · unfold dbodyF
    simp only
    split
    · rename_i q; exact q.2.2.2.1
    · simp

section
variable {C : Cfg} (S : StdVR C)
include S

theorem clogEncodes_ans (h : Heap) (hw : Wf h) (G : Gl gl h) (seq : Int) (x : V) (es : List Ent) (s : Ents h x es) (hb : ∀ e ∈ es, e.byt) (hn : es.length ≤ 9223372036854775807) :
    Ans C 3 [.agg [iv seq, x]] h fun v h' => v = .bool true ∧ Grow h h' := by
  have hF : C.F 3 = some a3 := S.f rfl
  unfold a3 at hF
  refine Ans.val (fun _ _ => S.s _ _ _ rfl) hF rfl rfl hw fun h2 g => ?_
  clear hF
  refine WC.seqO ?_
  refine WO.ops (StepK.box rfl) <| omv rfl ?_
  have a := Cl.new h2 [iv seq, x] none
  have g3 := g.push (.cells [iv seq, x] (.tip [] 0 none))
  change WO C _ _ (h2.push (.cells [iv seq, x] (.tip [] 0 none))) _
  generalize h2.push (.cells [iv seq, x] (.tip [] 0 none)) = h3 at *
  generalize h2.size = b at *
  refine WO.nil (WC.seq (WC.seqO ?_))
  refine WO.ops (StepK.loadN rfl (a.rds rfl)) ?_
  refine WO.call rfl rfl (small_ans S.toStdO h3 g3.wf seq x es (s.grow g3) hn) ?_
  rintro v h4 ⟨rfl, g4⟩
  have a := a.grow g4
  have g4 := g3.trans g4
  refine ont rfl ?_
  refine WO.nil (WC.cond rfl (fun hc => WC.seqO ?_) (fun hc => WC.skip (WC.seqO ?_)))
  · refine WO.call rfl rfl (live_ans S.toStdV h4 (G.grow g4)) ?_
    rintro v h5 ⟨rfl, rfl⟩
    refine omv rfl ?_
    exact WO.nil (WC.ret ⟨trivial, g4, rfl⟩)
  have hsm : smallF es := by simpa using hc
  clear hc
  have h40 : es.length ≤ 40 := hsm.2
  refine WO.ops (StepK.loadN rfl (a.rds rfl)) ?_
  refine WO.call rfl rfl (own_ans S.toStdO h4 g4.wf seq x es (s.grow g4) (by omega)) ?_
  rintro v h5 ⟨y, rfl, gy, g5⟩
  have a := a.grow g5
  have sy : Ents h5 y es := gy.sl
  have g5 := g4.trans g5
  refine WO.call rfl rfl (cencode_ans S.toStdO h5 g5.wf (G.grow g5).ro seq y es sy (by omega) hb) ?_
  rintro v h6 ⟨rfl, g6⟩
  have a := a.grow g6
  have g6 := g5.trans g6
  refine omv rfl <| oex rfl rfl <| oex rfl rfl <| omv rfl <| omv rfl (WO.nil (WC.seqO ?_))
  refine WO.ops (StepK.loadN rfl (a.rds rfl)) ?_
  refine WO.call rfl rfl (r13encode_ans S.toStdO S.rof h6 g6.wf seq x es (s.grow g6) (by omega) hb) ?_
  rintro v h7 ⟨rfl, g7⟩
  have a := a.grow g7
  have g7 := g6.trans g7
  refine omv rfl <| oex rfl rfl <| oex rfl rfl <| omv rfl <| omv rfl (WO.nil (WC.seqD ?_))
  generalize encF seq es = t at *
  refine dmv rfl <| dmv rfl <| dbn rfl rfl (eql_str t) <| dmv rfl <| WD.run rfl <| dmv rfl <| WD.run rfl <| dmv rfl <| WD.run rfl <| dbn rfl rfl (eql_same _) <| dpt rfl rfl <| dmv rfl <| WD.run rfl ?_
  have r7 := a.rds (k := 2) rfl
  refine WD.loadN rfl r7 <| WD.run rfl ?_
  refine WD.loadN rfl r7 <| WD.run rfl ?_
  refine WD.call (by repeat (first | exact trivial | refine ⟨by with_reducible assumption, ?_⟩)) rfl rfl (own_ans S.toStdO h7 g7.wf seq x es (s.grow g7) (by omega)) ?_
  rintro v h8 ⟨y2, rfl, gy2, g8⟩
  have r8 := g8.rds r7
  have sy2 : Ents h8 y2 es := gy2.sl
  have g8 := g7.trans g8
  refine WD.run rfl ?_
  refine WD.call (by repeat (first | exact trivial | refine ⟨by with_reducible assumption, ?_⟩)) rfl rfl (ccheck_ans S.toStdO h8 g8.wf seq y2 es sy2 (by omega)) ?_
  rintro v h9 ⟨rfl, g9⟩
  have r9 := g9.rds r8
  have g9 := g8.trans g9
  refine WD.run rfl ?_
  refine WD.call (by repeat (first | exact trivial | refine ⟨by with_reducible assumption, ?_⟩)) rfl rfl (r13check_ans S.toStdO h9 g9.wf seq x es (s.grow g9) (by omega)) ?_
  rintro v h10 ⟨rfl, g10⟩
  have g10 := g9.trans g10
  refine WD.run rfl <| dbn rfl rfl (eql_same _) <| dpt rfl rfl <| dmv rfl <| WD.run rfl ?_
  refine WD.call (by repeat (first | exact trivial | refine ⟨by with_reducible assumption, ?_⟩)) rfl rfl (live_ans S.toStdV h10 (G.grow g10)) ?_
  rintro v h11 ⟨rfl, rfl⟩
  refine dpt rfl rfl <| dmv rfl ?_
  exact WD.nil (by repeat (first | exact trivial | refine ⟨by with_reducible assumption, ?_⟩)) (WC.ret ⟨trivial, g10, rfl⟩)

theorem clogDecodes_ans (h : Heap) (hw : Wf h) (G : Gl gl h) (s : List Nat) (hb : Byt s) :
    Ans C 4 [.str s] h fun v h' => v = .bool true ∧ Grow h h' := by
  have hF : C.F 4 = some a4 := S.f rfl
  unfold a4 at hF
  refine Ans.val (fun _ _ => S.s _ _ _ rfl) hF rfl rfl hw fun h2 g => ?_
  clear hF
  refine WC.seqO (omv rfl (WO.nil (WC.seq (WC.seqO ?_))))
  refine omv rfl <| olt rfl <| obn rfl rfl rfl ?_
  refine WO.nil (WC.cond rfl (fun hc => WC.seqO ?_) (fun hc => WC.skip (WC.seqO ?_)))
  · refine WO.call rfl rfl (live_ans S.toStdV h2 (G.grow g)) ?_
    rintro v h5 ⟨rfl, rfl⟩
    refine omv rfl ?_
    exact WO.nil (WC.ret ⟨trivial, g, rfl⟩)
  have hc := of_decide_eq_false hc
  have hs : s.length ≤ 1100 := by omega
  clear hc
  refine omv rfl <| omv rfl ?_
  refine WO.call rfl rfl (rof_ans S.toStdM S.rof h2 g.wf s (by omega) hb) ?_
  rintro v h3 ⟨rfl, g3⟩
  have g3 := g.trans g3
  have htb : Byt (s ++ ofF s) := hb.app (ofF_byt s)
  have htl : (s ++ ofF s).length ≤ 1200 := by rw [List.length_append, ofF_len]; omega
  refine obn rfl rfl (add_str (by rw [ofF_len]; omega)) <| omv rfl (WO.nil (WC.seqO ?_))
  generalize s ++ ofF s = t at *
  have n1 := decF_len s
  have n2 := decF_len t
  refine omv rfl ?_
  refine WO.call rfl rfl (cdecode_ans S.toStdO h3 g3.wf (G.grow g3).ro s (by omega) hb) ?_
  rintro v h4 ⟨z1, rfl, g4, gz1⟩
  have s1 : Ents h4 z1 (decF s).es := gz1.sl
  have g4 := g3.trans g4
  obtain ⟨h5, u1, a1, g5⟩ := box2 g4.wf gz1.one (decF s).seq
  have s1 := s1.grow g5
  have g5 := g4.trans g5
  refine omv rfl <| oex rfl rfl <| oex rfl rfl <| WO.ops StepK.alloc <| WO.op (StepK.store rfl rfl rfl u1) <| omv rfl (WO.nil (WC.seqO ?_))
  generalize h4.size = b4 at *
  refine omv rfl ?_
  refine WO.call rfl rfl (r13decode_ans S.toStdO S.rof h5 g5.wf s (by omega) hb) ?_
  rw [rdec_eq hb]
  rintro v h6 ⟨z2, rfl, g6, gz2⟩
  have s2 : Ents h6 z2 (decF s).es := gz2.sl
  obtain ⟨h7, u2, a2, g7⟩ := box2 g6.wf gz2.one (decF s).seq
  have s2 := s2.grow g7
  have g67 := g6.trans g7
  have a1 := a1.grow g67
  have s1 := s1.grow g67
  have g7 := g5.trans g67
  refine omv rfl <| oex rfl rfl <| oex rfl rfl <| WO.ops StepK.alloc <| WO.op (StepK.store rfl rfl rfl u2) <| omv rfl (WO.nil (WC.seqO ?_))
  generalize h6.size = b6 at *
  refine omv rfl ?_
  refine WO.call rfl rfl (cdecode_ans S.toStdO h7 g7.wf (G.grow g7).ro t (by omega) htb) ?_
  rintro v h8 ⟨z3, rfl, g8, gz3⟩
  have s3 : Ents h8 z3 (decF t).es := gz3.sl
  obtain ⟨h9, u3, a3, g9⟩ := box2 g8.wf gz3.one (decF t).seq
  have s3 := s3.grow g9
  have g89 := g8.trans g9
  have a1 := a1.grow g89
  have s1 := s1.grow g89
  have a2 := a2.grow g89
  have s2 := s2.grow g89
  have g9 := g7.trans g89
  refine omv rfl <| oex rfl rfl <| oex rfl rfl <| WO.ops StepK.alloc <| WO.op (StepK.store rfl rfl rfl u3) <| omv rfl (WO.nil (WC.seqO ?_))
  generalize h8.size = b8 at *
  refine omv rfl ?_
  refine WO.call rfl rfl (r13decode_ans S.toStdO S.rof h9 g9.wf t (by omega) htb) ?_
  rw [rdec_eq htb]
  rintro v h10 ⟨z4, rfl, g10, gz4⟩
  have s4 : Ents h10 z4 (decF t).es := gz4.sl
  obtain ⟨h11, u4, a4, g11⟩ := box2 g10.wf gz4.one (decF t).seq
  have s4 := s4.grow g11
  have g101 := g10.trans g11
  have a1 := a1.grow g101
  have s1 := s1.grow g101
  have a2 := a2.grow g101
  have s2 := s2.grow g101
  have a3 := a3.grow g101
  have s3 := s3.grow g101
  have g11 := g9.trans g101
  refine omv rfl <| oex rfl rfl <| oex rfl rfl <| WO.ops StepK.alloc <| WO.op (StepK.store rfl rfl rfl u4) <| omv rfl (WO.nil (WC.seqD ?_))
  generalize h10.size = b10 at *
  generalize decF s = D1 at *
  generalize decF t = D2 at *
  have l10 : h11.rd b4 (0 + 0) = some (iv D1.seq) := a1.rd rfl
  have l11 : h11.rd b4 (0 + 1) = some z1 := a1.rd rfl
  have l20 : h11.rd b6 (0 + 0) = some (iv D1.seq) := a2.rd rfl
  have l21 : h11.rd b6 (0 + 1) = some z2 := a2.rd rfl
  refine dfa rfl ?_
  refine WD.load1 rfl l10 ?_
  refine dfa rfl ?_
  refine WD.load1 rfl l20 ?_
  refine dbn rfl rfl (eql_same _) <| dmv rfl <| WD.run rfl <| dfa rfl <| WD.run rfl ?_
  refine WD.load1 rfl l11 ?_
  refine WD.run rfl <| dfa rfl <| WD.run rfl ?_
  refine WD.load1 rfl l21 ?_
  refine WD.run rfl ?_
  refine WD.call (by repeat (first | exact trivial | refine ⟨by with_reducible assumption, ?_⟩)) rfl rfl (told_ans S.toStdO h11 g11.wf z1 D1.es s1 (by omega)) ?_
  rintro v h12 ⟨gv, g12⟩
  have sv : Ents h12 v D1.es := gv.sl
  have l21 := g12.rd l21
  have g12' := g11.trans g12
  refine WD.run rfl ?_
  refine WD.call (by repeat (first | exact trivial | refine ⟨by with_reducible assumption, ?_⟩)) rfl rfl (same_ans S.toStdO h12 g12.wf v z2 D1.es D1.es sv (s2.grow g12) (by omega)) ?_
  rw [decide_eq_true rfl]
  rintro _ h13 ⟨rfl, g13⟩
  have g13 := g12.trans g13
  have a3 := a3.grow g13
  have a4 := a4.grow g13
  have s3 := s3.grow g13
  have s4 := s4.grow g13
  have g13 := g11.trans g13
  have l30 : h13.rd b8 (0 + 0) = some (iv D2.seq) := a3.rd rfl
  have l31 : h13.rd b8 (0 + 1) = some z3 := a3.rd rfl
  have l40 : h13.rd b10 (0 + 0) = some (iv D2.seq) := a4.rd rfl
  have l41 : h13.rd b10 (0 + 1) = some z4 := a4.rd rfl
  refine dpt rfl rfl <| dmv rfl <| WD.run rfl <| dmv rfl <| WD.run rfl <| dmv rfl <| WD.run rfl <| dbn rfl rfl (eql_same _) <| dpt rfl rfl <| dmv rfl <| WD.run rfl <| dfa rfl <| WD.run rfl ?_
  refine WD.load1 rfl l30 ?_
  refine WD.run rfl <| dfa rfl <| WD.run rfl ?_
  refine WD.load1 rfl l40 ?_
  refine WD.run rfl <| dbn rfl rfl (eql_same _) <| dpt rfl rfl <| dmv rfl <| WD.run rfl <| dfa rfl <| WD.run rfl ?_
  refine WD.load1 rfl l31 ?_
  refine WD.run rfl <| dfa rfl <| WD.run rfl ?_
  refine WD.load1 rfl l41 ?_
  refine WD.run rfl ?_
  refine WD.call (by repeat (first | exact trivial | refine ⟨by with_reducible assumption, ?_⟩)) rfl rfl (told_ans S.toStdO h13 g13.wf z3 D2.es s3 (by omega)) ?_
  rintro v h14 ⟨gv, g14⟩
  have sv : Ents h14 v D2.es := gv.sl
  have l41 := g14.rd l41
  refine WD.run rfl ?_
  refine WD.call (by repeat (first | exact trivial | refine ⟨by with_reducible assumption, ?_⟩)) rfl rfl (same_ans S.toStdO h14 g14.wf v z4 D2.es D2.es sv (s4.grow g14) (by omega)) ?_
  rw [decide_eq_true rfl]
  rintro _ h15 ⟨rfl, g15⟩
  have g15 := (g13.trans g14).trans g15
  refine dpt rfl rfl <| dmv rfl <| WD.run rfl <| dmv rfl <| WD.run rfl <| dmv rfl <| WD.run rfl <| dbn rfl rfl (eql_same _) <| dpt rfl rfl <| dmv rfl <| WD.run rfl ?_
  refine WD.call (by repeat (first | exact trivial | refine ⟨by with_reducible assumption, ?_⟩)) rfl rfl (live_ans S.toStdV h15 (G.grow g15)) ?_
  rintro v h16 ⟨rfl, rfl⟩
  refine dpt rfl rfl <| dmv rfl ?_
  exact WD.nil (by repeat (first | exact trivial | refine ⟨by with_reducible assumption, ?_⟩)) (WC.ret ⟨trivial, g15, rfl⟩)
end
end Abs
end Go.Proofs.YthdgjjggndfbhaaDoor
