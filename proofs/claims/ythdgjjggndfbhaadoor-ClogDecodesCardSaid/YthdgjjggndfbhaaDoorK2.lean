/- Layer 13: the machine with live() answered; ClogBack and ClogTail, walked. -/
import Derived.Test.YthdgjjggndfbhaaDoorK1
import Derived.Test.YthdgjjggndfbhaaDoorB14
namespace Go.Proofs.YthdgjjggndfbhaaDoor
namespace Abs
set_option linter.unusedVariables false
set_option linter.unusedSimpArgs false
open Go.RowKit
attribute [local irreducible] WO WC WD StepK Ans Does Runs DoesD

open Classical in
/-- .. and live(). -/
noncomputable def sumV (f : Nat) (args : List V) (h : Heap) : Option (Option (V × Heap)) :=
  if f = 9 then match args with
    | [] => if Gl gl h then some (some (.bool true, h)) else some none
    | _ => some none
  else sumO f args h
noncomputable def cfg3 : Cfg := { F := tab, S := sumV }
structure StdV (C : Cfg) : Prop extends StdO C where
  live : ∀ (h : Heap), Gl gl h → C.S 9 [] h = some (some (.bool true, h))

theorem Gl.grow {h h' : Heap} (G : Gl gl h) (g : Grow h h') : Gl gl h' := by
  intro b hb
  have e := G b hb
  rcases (baseH_get gl (by decide) b).1 hb with q | ⟨p, _, _, q⟩
  · rw [q] at e ⊢; exact g.ext _ _ e
  · rw [q] at e ⊢; exact g.ext _ _ e
theorem Gl.ro {h : Heap} (G : Gl gl h) : Ro h := by
  have e := G 0 (by decide)
  have q : (baseH gl).get 0 = some (.cells ((rootsN.map iN).map uv) .ro) := HT.get_set_same _ _ _
  rw [q] at e
  exact Ro.mk e (V.beqs_refl _)

section
variable {C : Cfg} (S : StdV C)
include S

theorem live_ans (h : Heap) (G : Gl gl h) : Ans C 9 [] h fun v h' => v = .bool true ∧ h' = h := Ans.sum (S.live h G) ⟨rfl, rfl⟩

theorem clogBack_ans (h : Heap) (hw : Wf h) (G : Gl gl h) (seq : Int) (x : V) (es : List Ent) (s : Ents h x es) (hb : ∀ e ∈ es, e.byt) (hn : es.length ≤ 9223372036854775807) :
    Ans C 7 [.agg [iv seq, x]] h fun v h' => v = .bool true ∧ Grow h h' := by
  have hF : C.F 7 = some a7 := S.f rfl
  unfold a7 at hF
  refine Ans.val (fun _ _ => S.s _ _ _ rfl) hF rfl rfl hw fun h2 g => ?_
  clear hF
  refine WC.seqO ?_
  refine WO.ops (StepK.box rfl) <| omv rfl ?_
  have a := Cl.new h2 [iv seq, x] none
  have g3 := g.push (.cells [iv seq, x] (.tip [] 0 none))
  change WO C _ _ (h2.push (.cells [iv seq, x] (.tip [] 0 none))) _
  generalize h2.push (.cells [iv seq, x] (.tip [] 0 none)) = h3 at *
  generalize h2.size = b at *
  refine WO.nil (WC.seq (WC.seqO ?_))
  refine WO.ops (StepK.loadN rfl (a.rds rfl)) ?_
  refine WO.call rfl rfl (small_ans S.toStdO h3 g3.wf seq x es (s.grow g3) hn) ?_
  rintro v h4 ⟨rfl, g4⟩
  have a := a.grow g4
  have g4 := g3.trans g4
  refine ont rfl ?_
  refine WO.nil (WC.cond rfl (fun hc => WC.seqO ?_) (fun hc => WC.skip (WC.seqO ?_)))
  · refine WO.call rfl rfl (live_ans S h4 (G.grow g4)) ?_
    rintro v h5 ⟨rfl, rfl⟩
    refine omv rfl ?_
    exact WO.nil (WC.ret ⟨trivial, g4, rfl⟩)
  have hsm : smallF es := by simpa using hc
  clear hc
  have h40 : es.length ≤ 40 := hsm.2
  refine WO.ops (StepK.loadN rfl (a.rds rfl)) ?_
  refine WO.call rfl rfl (own_ans S.toStdO h4 g4.wf seq x es (s.grow g4) (by omega)) ?_
  rintro v h5 ⟨y, rfl, gy, g5⟩
  have a := a.grow g5
  have sy : Ents h5 y es := gy.sl
  have g5 := g4.trans g5
  refine WO.call rfl rfl (cencode_ans S.toStdO h5 g5.wf (G.grow g5).ro seq y es sy (by omega) hb) ?_
  rintro v h6 ⟨rfl, g6⟩
  have a := a.grow g6
  have g6 := g5.trans g6
  refine omv rfl <| oex rfl rfl <| oex rfl rfl <| omv rfl <| omv rfl ?_
  refine WO.nil (WC.seq (WC.seqO ?_))
  refine omv rfl <| obn rfl rfl rfl ?_
  refine WO.nil (WC.cond rfl (fun hc => WC.seqO ?_) (fun hc => WC.skip (WC.seqO ?_)))
  · have hc : codeF seq es ≠ 0 := by simpa using hc
    have hno : ¬ blkOk seq es := fun q => hc (by unfold codeF; rw [if_pos q])
    have he : encF seq es = [] := by unfold encF; rw [if_neg hno]
    rw [he]
    refine omv rfl <| WO.ops (StepK.bin (v := .bool true) rfl rfl rfl) <| omv rfl <| WO.run rfl ?_
    refine WO.call rfl rfl (live_ans S h6 (G.grow g6)) ?_
    rintro v h7 ⟨rfl, rfl⟩
    refine opt rfl rfl <| omv rfl ?_
    exact WO.nil (WC.ret ⟨trivial, g6, rfl⟩)
  have hok : blkOk seq es := by
    have hc : codeF seq es = 0 := by simpa using hc
    unfold codeF at hc; split at hc
    · assumption
    · cases hc
  clear hc
  have hdec := dec_enc hok
  have hel : 41 + 38 * es.length ≤ (encF seq es).length ∧ (encF seq es).length ≤ 800 := by
    have := encT_len hok
    unfold encF; rw [if_pos hok, List.length_append, ofF_len]; omega
  have heb : Byt (encF seq es) := by
    unfold encF; rw [if_pos hok]
    exact ((encH_byt _ _).app (encs_byt es hb)).app (ofF_byt _)
  generalize encF seq es = t at *
  refine omv rfl ?_
  refine WO.call rfl rfl (cdecode_ans S.toStdO h6 g6.wf (G.grow g6).ro t (by omega) heb) ?_
  rw [hdec]
  rintro v h7 ⟨z, rfl, g7, gz⟩
  have a := a.grow g7
  have sz : Ents h7 z es := gz.sl
  have g7 := g6.trans g7
  refine omv rfl <| oex rfl rfl <| oex rfl rfl <| WO.ops StepK.alloc ?_
  have a2 := Cl.new h7 [iv 0, .slice none 0 0] none
  have gp := (Grow.refl g7.wf).push (.cells [iv 0, .slice none 0 0] (.tip [] 0 none))
  have lb := a.lt g7.wf
  have a := a.grow gp
  have sz := sz.grow gp
  have hz1 := gz.one
  have g8 := g7.trans gp
  change WO C _ _ (h7.push (.cells [iv 0, .slice none 0 0] (.tip [] 0 none))) _
  have hs7 := g7.size
  generalize h7.push (.cells [iv 0, .slice none 0 0] (.tip [] 0 none)) = h8 at *
  have hne : b ≠ h7.size := by omega
  have hzo : ∀ i, i < h7.size → i ≠ h7.size := fun i hi => by omega
  obtain ⟨h9, u1, u2, u3, u4⟩ := a2.sets g8.wf (i := 0) (us := [iv seq, z]) (by simp) (by simp only [List.all_cons, List.all_nil, hz1, Bool.and_true]; rfl)
  have a2 : Cl h9 h7.size [iv seq, z] := u2
  have a := a.chg u3 (by simpa using hne)
  have gzc : Grown h9 h6.size 4 z (es.map Ent.v) := by
    refine (gz.grow gp).chg u3 ?_
    intro c hc
    obtain rfl := List.mem_singleton.1 hc
    obtain ⟨_, ⟨rfl, _⟩ | ⟨b', S', ty, rfl, _, q, q2⟩⟩ := gz
    · exact Off.nil _
    · intro b2 o l k z e; cases e
      have := Wf.lt g7.wf q2; omega
  have sz : Ents h9 z es := gzc.sl
  have g9 := Chg.newGrow g8 u3 hw (by simpa using hs7)
  generalize h7.size = c at *
  refine WO.op (StepK.store rfl rfl rfl u1) ?_
  refine omv rfl ?_
  refine WO.nil (WC.seqD ?_)
  have l0 : h9.rd c (0 + 0) = some (iv seq) := a2.rd rfl
  have l1 : h9.rd c (0 + 1) = some z := a2.rd rfl
  have k0 : h9.rd b (0 + 0) = some (iv seq) := a.rd rfl
  have k1 : h9.rd b (0 + 1) = some x := a.rd rfl
  have eqs : binA .eql (iv seq) (iv seq) = some (.bool true) := by simp only [binA, if_true, beq_self_eq_true]
  refine dfa rfl ?_
  refine WD.load1 rfl l0 ?_
  refine dfa rfl ?_
  refine WD.load1 rfl k0 ?_
  refine dbn rfl rfl eqs <| dmv rfl <| WD.run rfl <| dfa rfl <| WD.run rfl ?_
  refine WD.load1 rfl l1 ?_
  refine WD.run rfl <| dfa rfl <| WD.run rfl ?_
  refine WD.load1 rfl k1 ?_
  refine WD.run rfl ?_
  refine WD.call (by repeat (first | exact trivial | refine ⟨by with_reducible assumption, ?_⟩)) rfl rfl (told_ans S.toStdO h9 g9.wf z es sz (by omega)) ?_
  rintro v h10 ⟨gv, g10⟩
  have sv : Ents h10 v es := gv.sl
  have a2 := a2.grow g10
  have l0 := g10.rd l0
  have l1 := g10.rd l1
  have k0 := g10.rd k0
  have k1 := g10.rd k1
  have g10 := g9.trans g10
  refine WD.run rfl ?_
  refine WD.call (by repeat (first | exact trivial | refine ⟨by with_reducible assumption, ?_⟩)) rfl rfl (same_ans S.toStdO h10 g10.wf v x es es sv (s.grow g10) (by omega)) ?_
  rw [decide_eq_true rfl]
  rintro v h11 ⟨rfl, g11⟩
  have l0 := g11.rd l0
  have l1 := g11.rd l1
  have k0 := g11.rd k0
  have k1 := g11.rd k1
  have g11 := g10.trans g11
  refine dpt rfl rfl <| dmv rfl <| WD.run rfl <| dmv rfl <| WD.run rfl <| WD.pure (StepK.bin (v := .bool true) rfl rfl rfl) rfl <| dpt rfl rfl <| dmv rfl <| WD.run rfl <| dmv rfl <| WD.run rfl <| dlt rfl <| WD.run rfl <| dfa rfl <| WD.run rfl ?_
  refine WD.load1 rfl k1 ?_
  have hge : binA .geq (iv t.length) (iv (41 + 38 * (es.length : Int))) = some (.bool true) := by
    simp only [binA, if_true]; rw [decide_eq_true (by omega)]
  refine WD.run rfl <| dls rfl (s.grow g11).len <| WD.run rfl <| dbn rfl rfl (bin_mul (by omega)) <| WD.run rfl <| dad rfl rfl (by omega) <| WD.run rfl <| dbn rfl rfl hge <| dpt rfl rfl <| dmv rfl <| WD.run rfl ?_
  refine WD.call (by repeat (first | exact trivial | refine ⟨by with_reducible assumption, ?_⟩)) rfl rfl (live_ans S h11 (G.grow g11)) ?_
  rintro v h12 ⟨rfl, rfl⟩
  refine dpt rfl rfl <| dmv rfl ?_
  exact WD.nil (by repeat (first | exact trivial | refine ⟨by with_reducible assumption, ?_⟩)) (WC.ret ⟨trivial, g11, rfl⟩)
end
end Abs
end Go.Proofs.YthdgjjggndfbhaaDoor
