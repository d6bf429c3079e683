/- The second level: load. The second level: load, where there is a log. The second level: Open. The second level: what holds while records are fed. -/
import Derived.Test.YtlgbdjlnbnlphaaGreatDoorD21
namespace Go.Proofs.YtlgbdjlnbnlphaaGreatDoor
namespace Abs
set_option linter.unusedVariables false
set_option linter.unusedSimpArgs false
open Go.RowKit
attribute [local irreducible] WO WC WD StepK Ans Does Runs DoesD

theorem ress_ct {e : List (Nat × V)} {h : Heap} {a b : Nat} {n : Option Nat} {x v w : V} (ea : Env.get e a = some x) (hl : loadA h n x = some v) (eb : Env.get e b = some w) : ressE e h [.cell a n, .tmp b] = some [v, w] := by
  simp only [ressE, resE, ea, hl, eb]
theorem decF_nil : decF [] = ⟨0, [], 2⟩ := by
  unfold decF; rw [if_pos (by simp)]
section
variable {C : Cfg} (S : StdX C)
include S
theorem load_none (hSm : ∀ f args h v h', C.S f args h = some (some (v, h')) → HM h h') (nb : Nat) (h : Heap) (hw : Wf h) (ro : Ro h) (s b b0 b1 : Nat) (wv : V) (D : Dv) (d : DevAt nb h b b0 b1 wv D) (f k : Nat) (c2 c3 c4 c5 : V)
    (cs : Cl h s [.ptr (some (b, 0)), iv f, c2, c3, c4, c5]) (hf : f ≤ 1000000) (hk : k ≤ 100000) (hws : D.ws.length ≤ 1000000) (hrd : D.rd 1 ((f + 8 * k : Nat) : Int) = ([], 0)) :
    Ans C 16 [.ptr (some (s, 0)), iv k] h fun r h' => r = .tuple [.agg [iv 0, .slice none 0 0], .bool false] ∧ Grow h h' := by
  have hF : C.F 16 = some a16 := S.f rfl
  unfold a16 at hF
  refine Ans.rng (S.s _ _ _ rfl) hF rfl (by decide) ?_
  clear hF
  have g2 : Grow h { h with low := h.size } := (Grow.refl hw).low1 _
  have z2 : ({ h with low := h.size } : Heap).size = h.size := rfl
  generalize { h with low := h.size } = h2 at *
  refine WX.seqP (WC.ops (WO.ops (StepK.alloc) ?_))
  have k4 : Cl (h2.push (.cells [iv 0, .slice none 0 0] (.tip [] 0 none))) h2.size [iv 0, .slice none 0 0] := Cl.new _ _ _
  have g3 := g2.push (.cells [iv 0, .slice none 0 0] (.tip [] 0 none))
  change WO C _ _ (h2.push (.cells [iv 0, .slice none 0 0] (.tip [] 0 none))) _
  generalize h2.push (.cells [iv 0, .slice none 0 0] (.tip [] 0 none)) = h3 at *
  generalize h2.size = p4 at *
  refine omv rfl <| WO.nil (ThenX.on (WX.seqP (WC.draw ?_)))
  have cs3 := cs.grow g3
  have r0 := cs3.rd (i := 0) rfl
  refine dmv rfl <| dnk rfl <| dfa rfl <| WD.load1 rfl r0 <| dmv rfl <| dmv rfl ?_
  refine WD.call (by repeat (first | exact trivial | refine ⟨by with_reducible assumption, ?_⟩)) rfl rfl (log_ans S.toStdO h3 g3.wf s f k (cs3.rd (i := 1) rfl) (by omega) (by omega)) ?_
  rintro _ h4 ⟨rfl, g34⟩
  have g4 := g3.trans g34
  have r0' := g34.rd r0
  have ec : (f : Int) + 8 * k = ((f + 8 * k : Nat) : Int) := by omega
  rw [ec]
  refine WD.call (by repeat (first | exact trivial | refine ⟨by with_reducible assumption, ?_⟩)) rfl rfl (dread_ans S.toStdO hSm nb h4 g4.wf b b0 b1 wv D (d.grow g4) hws 1 ((f + 8 * k : Nat) : Int)) ?_
  rintro _ h5 ⟨rfl, g45⟩
  rw [hrd]
  have g5 := g4.trans g45
  have r0'' := g45.rd r0'
  refine dmv rfl <| dex rfl rfl <| dex rfl rfl <| dmv rfl <| dmv rfl <| WD.nil (by repeat (first | exact trivial | refine ⟨by with_reducible assumption, ?_⟩)) (ThenX.on (WX.seqP (WC.ops ?_)))
  refine omv rfl ?_
  refine WO.call rfl rfl (cdecode_ans S.toStdO h5 g5.wf (ro.grow g5) [] (by simp) (by intro x hx; cases hx)) ?_
  rintro _ h6 ⟨x, rfl, g56, gx⟩
  rw [decF_nil] at gx ⊢
  have g6 := g5.trans g56
  refine omv rfl <| oex rfl rfl <| oex rfl rfl <| WO.ops (StepK.alloc) ?_
  have gp := (Grow.refl g6.wf).push (.cells [iv 0, .slice none 0 0] (.tip [] 0 none))
  have k8 : Cl (h6.push (.cells [iv 0, .slice none 0 0] (.tip [] 0 none))) h6.size [iv 0, .slice none 0 0] := Cl.new _ _ _
  change WO C _ _ (h6.push (.cells [iv 0, .slice none 0 0] (.tip [] 0 none))) _
  generalize h6.push (.cells [iv 0, .slice none 0 0] (.tip [] 0 none)) = h7 at *
  obtain ⟨h8, u1, u2, u3, u4⟩ := k8.sets gp.wf (i := 0) (us := [iv 0, x]) (by simp) (by simp only [List.all_cons, List.all_nil, gx.one]; rfl)
  have g68 : Grow h6 h8 := u3.newGrow gp g6.wf (fun x hx => by obtain rfl := List.mem_singleton.1 hx; omega)
  have g8 := g6.trans g68
  have k48 := k4.grow ((g34.trans g45).trans (g56.trans g68))
  refine WO.op (StepK.store (v := .agg [iv 0, x]) rfl rfl rfl u1) <| omv rfl <| WO.nil (ThenX.on (WX.seqP (WC.seqO ?_)))
  refine omv rfl <| obn rfl rfl (neF rfl) <| omv rfl <| WO.run rfl <| omv rfl <| WO.run rfl <| obn rfl rfl (neT (by decide)) <| opf rfl rfl <| WO.nil <| WC.cond rfl (fun hc => WC.seqO ?_) (fun hc => by cases hc)
  obtain ⟨h9, v1, v2, v3, v4⟩ := k48.sets g8.wf (i := 0) (us := [iv 0, .slice none 0 0]) (by simp) rfl
  have g9 : Grow h h9 := v3.newGrow g8 hw (fun x hx => by obtain rfl := List.mem_singleton.1 hx; omega)
  refine obu rfl rfl <| WO.op (StepK.store (v := .agg [iv 0, .slice none 0 0]) rfl rfl rfl v1) <| omv rfl <| WO.nil <| WC.ret ⟨fun id hc => Ex.noConfusion hc, h9, rfl, [.agg [iv 0, .slice none 0 0], .bool false], ?_, ⟨rfl, g9.low1 _⟩, fun _ _ => ⟨rfl, Grow.refl hw⟩⟩
  have hl : loadA h9 (some 2) (.ptr (some (p4, 0))) = some (.agg [iv 0, .slice none 0 0]) := by
    have q : h9.rds p4 0 2 = some [iv 0, .slice none 0 0] := Cl.rds (show Cl h9 p4 [iv 0, .slice none 0 0] from v2) (k := 2) rfl
    simp only [loadA, q]
  exact ress_ct rfl hl rfl
end
end Abs
end Go.Proofs.YtlgbdjlnbnlphaaGreatDoor
namespace Go.Proofs.YtlgbdjlnbnlphaaGreatDoor
namespace Abs
set_option linter.unusedVariables false
set_option linter.unusedSimpArgs false
open Go.RowKit
attribute [local irreducible] WO WC WD StepK Ans Does Runs DoesD

theorem encF_byt {q : Int} {es : List Ent} (h : ∀ e ∈ es, e.byt) : Byt (encF q es) := by
  unfold encF
  split
  · exact ((encH_byt q es.length).app (encs_byt es h)).app (ofF_byt _)
  · intro x hx; cases hx
theorem encF_len {q : Int} {es : List Ent} : (encF q es).length ≤ 1000 := by
  unfold encF
  split
  · rename_i ho
    have := encT_len ho
    rw [List.length_append, ofF_len]; omega
  · simp
theorem ldMap_find (k f : Nat) : ∀ (m i : Nat), i < m → findI ((f + 8 * k + 1 + i : Nat) : Int) (ldMap k f m) = some ((7 * k + i : Nat) : Int)
  | m + 1, i, h => by
    simp only [ldMap]
    rw [findI_upd]
    by_cases hi : i = m
    · subst hi; rw [if_pos rfl]
    · rw [if_neg (by omega)]
      exact ldMap_find k f m i (by omega)
/-- What load keeps: each entry at the place of its sector. -/
def ldPl (k f : Nat) (e : Ent) : Int := 7 * k + (e.loc - (f + 8 * k + 1))
def ldA (k f : Nat) (es : List Ent) (A : List (Int × Ent)) : List (Int × Ent) := es.foldl (fun A e => updI (ldPl k f e) e A) A
theorem ldA_take (k f : Nat) (es : List Ent) (A : List (Int × Ent)) {j : Nat} (h : j < es.length) : ldA k f (es.take (j + 1)) A = updI (ldPl k f es[j]) es[j] (ldA k f (es.take j) A) := by
  unfold ldA
  rw [List.take_succ_eq_append_getElem h, List.foldl_append]
  rfl
theorem Grown.off_lt {h h5 hG : Heap} {sz c : Nat} {x : V} {es : List (List V)} (g : Grown hG h5.size sz x es) (hw : Wf h) (gr : Grow h h5) (hc : c < h.size) : Off x c :=
  Off.of_lt g (Nat.lt_of_lt_of_le hc gr.size)
section
variable {C : Cfg} (S : StdX C)
include S
theorem load_some (hSm : ∀ f args h v h', C.S f args h = some (some (v, h')) → HM h h') (nb : Nat) (h : Heap) (hw : Wf h) (ro : Ro h) (s mb b b0 b1 : Nat) (wv : V) (D : Dv) (d : DevAt nb h b b0 b1 wv D) (f n k : Nat) (A : List (Int × Ent)) (c4 c5 : V)
    (cs : Cl h s [.ptr (some (b, 0)), iv f, iv n, .map (some mb), c4, c5]) (M : MapI entV h mb A) (hsm : s ≠ mb) (hf : f ≤ 1000000) (hk : k ≤ 100000) (hn : n ≤ 1000000) (hws : D.ws.length ≤ 1000000) (q : Int) (es : List Ent) (hrd : D.rd 1 ((f + 8 * k : Nat) : Int) = (encF q es, 0))
    (hok : blkOk q es) (hby : ∀ e ∈ es, e.byt) (hloc : ∀ e ∈ es, ∃ i < min 7 (roomN n - 7 * k), e.loc = ((f + 8 * k + 1 + i : Nat) : Int)) :
    Ans C 16 [.ptr (some (s, 0)), iv k] h fun r h' => (∃ x, V.one x = true ∧ r = .tuple [.agg [iv q, x], .bool true]) ∧ Chg [mb] h h' ∧ MapI entV h' mb (ldA k f es A) := by
  have lm := M.lt hw
  have ls := cs.lt hw
  have hF : C.F 16 = some a16 := S.f rfl
  unfold a16 at hF
  refine Ans.rngL hSm (S.s _ _ _ rfl) hF rfl (by decide) ?_
  clear hF
  have g2 : Grow h { h with low := h.size } := (Grow.refl hw).low1 _
  have z2 : ({ h with low := h.size } : Heap).size = h.size := rfl
  generalize { h with low := h.size } = h2 at *
  refine WX.seqP (WC.ops (WO.ops (StepK.alloc) ?_))
  have k4 : Cl (h2.push (.cells [iv 0, .slice none 0 0] (.tip [] 0 none))) h2.size [iv 0, .slice none 0 0] := Cl.new _ _ _
  have g3 := g2.push (.cells [iv 0, .slice none 0 0] (.tip [] 0 none))
  have z3 : (h2.push (.cells [iv 0, .slice none 0 0] (.tip [] 0 none))).size = h2.size + 1 := rfl
  change WO C _ _ (h2.push (.cells [iv 0, .slice none 0 0] (.tip [] 0 none))) _
  generalize h2.push (.cells [iv 0, .slice none 0 0] (.tip [] 0 none)) = h3 at *
  generalize h2.size = p4 at *
  refine omv rfl <| WO.nil (ThenX.on (WX.seqP (WC.draw ?_)))
  have cs3 := cs.grow g3
  have r0 := cs3.rd (i := 0) rfl
  refine dmv rfl <| dnk rfl <| dfa rfl <| WD.load1 rfl r0 <| dmv rfl <| dmv rfl ?_
  refine WD.call (by repeat (first | exact trivial | refine ⟨by with_reducible assumption, ?_⟩)) rfl rfl (log_ans S.toStdO h3 g3.wf s f k (cs3.rd (i := 1) rfl) (by omega) (by omega)) ?_
  rintro _ h4 ⟨rfl, g34⟩
  have g4 := g3.trans g34
  have r0' := g34.rd r0
  have ec : (f : Int) + 8 * k = ((f + 8 * k : Nat) : Int) := by omega
  rw [ec]
  refine WD.call (by repeat (first | exact trivial | refine ⟨by with_reducible assumption, ?_⟩)) rfl rfl (dread_ans S.toStdO hSm nb h4 g4.wf b b0 b1 wv D (d.grow g4) hws 1 ((f + 8 * k : Nat) : Int)) ?_
  rintro _ h5 ⟨rfl, g45⟩
  rw [hrd]
  have g5 := g4.trans g45
  have r0'' := g45.rd r0'
  refine dmv rfl <| dex rfl rfl <| dex rfl rfl <| dmv rfl <| dmv rfl <| WD.nil (by repeat (first | exact trivial | refine ⟨by with_reducible assumption, ?_⟩)) (ThenX.on (WX.seqP (WC.ops ?_)))
  refine omv rfl ?_
  have hel := encF_len (q := q) (es := es)
  refine WO.call rfl rfl (cdecode_ans S.toStdO h5 g5.wf (ro.grow g5) (encF q es) (by omega) (encF_byt hby)) ?_
  rintro _ h6 ⟨x, rfl, g56, gx⟩
  rw [dec_enc hok] at gx ⊢
  dsimp only at gx ⊢
  have g6 := g5.trans g56
  refine omv rfl <| oex rfl rfl <| oex rfl rfl <| WO.ops (StepK.alloc) ?_
  have gp := (Grow.refl g6.wf).push (.cells [iv 0, .slice none 0 0] (.tip [] 0 none))
  have k8 : Cl (h6.push (.cells [iv 0, .slice none 0 0] (.tip [] 0 none))) h6.size [iv 0, .slice none 0 0] := Cl.new _ _ _
  change WO C _ _ (h6.push (.cells [iv 0, .slice none 0 0] (.tip [] 0 none))) _
  generalize h6.push (.cells [iv 0, .slice none 0 0] (.tip [] 0 none)) = h7 at *
  obtain ⟨h8, u1, u2, u3, u4⟩ := k8.sets gp.wf (i := 0) (us := [iv q, x]) (by simp) (by simp only [List.all_cons, List.all_nil, gx.one]; rfl)
  have u2 : Cl h8 h6.size [iv q, x] := u2
  have g68 : Grow h6 h8 := u3.newGrow gp g6.wf (fun x hx => by obtain rfl := List.mem_singleton.1 hx; omega)
  have g8 := g6.trans g68
  have k48 := k4.grow ((g34.trans g45).trans (g56.trans g68))
  have gx8 := gx.grow g68
  have l4 : p4 < h6.size := (k4.grow ((g34.trans g45).trans g56)).lt g6.wf
  generalize hp8 : h6.size = p8 at *
  refine WO.op (StepK.store (v := .agg [iv q, x]) rfl rfl rfl u1) <| omv rfl <| WO.nil (ThenX.on (WX.seqP (WC.seqO ?_)))
  refine omv rfl <| obn rfl rfl (neF rfl) <| omv rfl <| WO.run rfl <| omv rfl <| WO.run rfl <| obn rfl rfl (neF rfl) <| opf rfl rfl <| WO.nil <| WC.cond rfl (fun hc => by cases hc) (fun hc => WC.skip (ThenX.on (WX.seqP (WC.ops ?_))))
  refine WO.ops StepK.makeMap ?_
  have mo : MapI (β := Int) iv (h8.push (.map [] [] 0)) h8.size [] := MapI.new _ _
  have gA := g8.push (.map [] [] 0)
  have g8A := (Grow.refl g8.wf).push (.map [] [] 0)
  have z9 : (h8.push (.map [] [] 0)).size = h8.size + 1 := rfl
  generalize h8.push (.map [] [] 0) = h9 at *
  have l8 : p8 < h8.size := u2.lt g8.wf
  generalize hom : h8.size = om at *
  refine WO.ops StepK.alloc ?_
  have gp2 := (Grow.refl gA.wf).push (.cells [.map none] (.tip [] 0 none))
  have k10 : Cl (h9.push (.cells [.map none] (.tip [] 0 none))) h9.size [.map none] := Cl.new _ _ _
  change WO C _ _ (h9.push (.cells [.map none] (.tip [] 0 none))) _
  have z10 : (h9.push (.cells [.map none] (.tip [] 0 none))).size = h9.size + 1 := rfl
  generalize h9.push (.cells [.map none] (.tip [] 0 none)) = h10 at *
  obtain ⟨hB, v1, v2, v3, v4⟩ := k10.set gp2.wf (i := 0) (by simp) (v := .map (some om)) rfl
  have v2 : Cl hB h9.size [.map (some om)] := v2
  have g9B : Grow h9 hB := v3.newGrow gp2 gA.wf (fun x hx => by obtain rfl := List.mem_singleton.1 hx; omega)
  have gB := gA.trans g9B
  have g8B := g8A.trans g9B
  have lB : h9.size < hB.size := v2.lt gB.wf
  generalize h9.size = p10 at *
  refine WO.op (StepK.store rfl rfl rfl v1) <| WO.nil (ThenX.on (WX.seq (WX.seqP (WC.ops ?_))))
  refine omv rfl <| omv rfl ?_
  refine WO.call rfl rfl (sectors_ans S.toStdO hB gB.wf s k) ?_
  rintro _ hC ⟨p, qq, rfl, gBC, cp, cq, lp6, lpq⟩
  have gC := gB.trans gBC
  have lq7 : qq < hC.size := cq.lt gBC.wf
  have sBC := gBC.size
  refine WO.nil (ThenX.on (WX.block ?_))
  refine WX.range gC.wf rfl rfl (fun hE gCE zE mE lE sameE _ => ?_)
  have gE := gC.trans gCE
  have gBE := gBC.trans gCE
  have wE := gE.wf
  have oE := mo.grow (g9B.trans gBE)
  have c10E := v2.grow gBE
  have csE := cs.grow gE
  have s02 := g2.size
  have J0 : LdJ h hE hC.size om _ [] hE := ⟨gE, Chg.refl wE, oE, lE⟩
  have feeds := ld_feeds (C := C) k f (min 7 (roomN n - 7 * k)) hw J0 rfl c10E (by simp; omega) (by omega) (by omega) (by omega)
  refine (sectors1_ans S.toStdO hSm hE wE (hC.size + 1) p qq s k f n (by omega) (by omega) (by omega) feeds (fun i h' j => ⟨j.gr.wf, ((cq.grow gCE).chg j.ch (by simp; omega)).rd rfl, ((cp.grow gCE).chg j.ch (by simp; omega)).rd rfl, (csE.chg j.ch (by simp; omega)).rd rfl, (csE.chg j.ch (by simp; omega)).rd rfl⟩)).mono (fun r hF hr => ?_)
  clear feeds J0
  rcases hr with j | hr
  rotate_left
  · exact hr.elim
  obtain ⟨nt, tm, hg, hs⟩ := j.lp
  refine ⟨none, ⟨_, _, _, _, _, _, hg, fun hc => by cases hc⟩, ?_⟩
  have gG : Grow h (hF.put (hC.size + 1) .dead) := j.gr.put (by omega) (Wf.lt j.gr.wf hg) hw _
  have chG : Chg [om, hC.size + 1] hE (hF.put (hC.size + 1) .dead) := by
    refine ⟨gG.wf, j.ch.size, fun b o hb hq => ?_⟩
    rw [get_put, if_neg (by rintro rfl; exact hb (by simp))]
    exact j.ch.keep b o hb hq
  have oG : MapI iv (hF.put (hC.size + 1) .dead) om (ldMap k f (min 7 (roomN n - 7 * k))) := j.mp.of_get (by rw [get_put, if_neg (by omega)])
  clear j hg
  generalize hF.put (hC.size + 1) .dead = hG at *
  have g8E := g8B.trans gBE
  have mG : hG.get hC.size = some .dfr := chG.keep _ _ (by simp; omega) mE
  have k4G := (k48.grow g8E).chg chG (by simp; omega)
  have k8G := (u2.grow g8E).chg chG (by simp; omega)
  have k10G := c10E.chg chG (by simp; omega)
  have xG : Grown hG h5.size 4 x (es.map Ent.v) := by
    refine (gx8.grow g8E).frame fun b' o q1 o2 l kk z e => chG.keep _ _ ?_ q1
    intro hb'
    have hlt : b' < h8.size := by
      obtain ⟨_, ⟨rfl, _⟩ | ⟨b2, S2, ty, rfl, _, _, q4⟩⟩ := gx8
      · cases e
      · cases e; exact Wf.lt g8.wf q4
    simp at hb'
    omega
  have lmG : hC.size < hG.size := Wf.lt gG.wf mG
  rw [show exOf none = Ex.normal from rfl]
  unfold AtX
  dsimp only
  refine ThenX.on ?_
  refine WX.plain ?_
  refine WC.seq (WC.seqO ?_)
  have hes : es.length ≤ 7 := hok.2.1
  have E := (show Ents hG x es from xG.sl)
  refine ofa rfl <| old rfl (k8G.rd (i := 1) rfl) <| ols rfl E.len <| omv rfl (WO.nil (WC.block ?_))
  refine WC.loop (σ := Nat) (fun j => [(0, .ptr (some (s, 0))), (4, .ptr (some (p4, 0))), (8, .ptr (some (p8, 0))), (10, .ptr (some (p10, 0))), (52, x), (53, iv es.length), (54, iv j)]) (fun j h' => j ≤ es.length ∧ Grow hG h') (fun j => es.length - j) 0
    (Cov.cons rfl (Cov.cons rfl (Cov.cons rfl (Cov.cons rfl (Cov.cons rfl (Cov.cons rfl (Cov.cons rfl (Cov.nil _)))))))) ⟨Nat.zero_le _, Grow.refl gG.wf⟩ ?_
  rintro j hH ⟨hj, gH⟩
  refine WC.seqO ?_
  by_cases hlt : j < es.length
  · refine obn rfl rfl (ltT (by omega)) (WO.nil (WC.seq (WC.cond rfl (fun hc => WC.skip ?_) (fun hc => by cases hc))))
    obtain ⟨c, o, i1, i2, _, _, _, _⟩ := (E.grow gH).at hlt
    have hel := hloc _ (List.getElem_mem hlt)
    generalize es[j] = e at *
    obtain ⟨i, hi, hel⟩ := hel
    refine WC.seq (WC.block (WC.seqO ?_))
    refine WO.ops (StepK.idxSl rfl rfl i1) <| WO.ops (StepK.loadN rfl i2) <| WO.ops (StepK.alloc) ?_
    have gp := (Grow.refl gH.wf).push (.cells [.str [], .str [], iv 0, iv 0] (.tip [] 0 none))
    have c14 : Cl (hH.push (.cells [.str [], .str [], iv 0, iv 0] (.tip [] 0 none))) hH.size [.str [], .str [], iv 0, iv 0] := Cl.new _ _ _
    change WO C _ _ (hH.push (.cells [.str [], .str [], iv 0, iv 0] (.tip [] 0 none))) _
    generalize hH.push (.cells [.str [], .str [], iv 0, iv 0] (.tip [] 0 none)) = hI at *
    obtain ⟨hJ, r1, r2, r3, r4⟩ := c14.sets gp.wf (i := 0) (us := e.v) (by simp [Ent.v]) (by simp [Ent.v, V.one, iv])
    have r2' : Cl hJ hH.size e.v := by simpa [splice, Ent.v] using r2
    have gHJ : Grow hH hJ := r3.newGrow gp gH.wf (fun x hx => by obtain rfl := List.mem_singleton.1 hx; omega)
    have gJ := gH.trans gHJ
    refine WO.op (StepK.store (v := .agg e.v) rfl rfl rfl r1) <| WO.nil (WC.seqO ?_)
    have hlk := (oG.grow gJ).look e.loc (iv 0)
    rw [hel, ldMap_find k f _ i hi] at hlk
    rw [← hel] at hlk
    refine old rfl ((k10G.grow gJ).rd (i := 0) rfl) <| ofa rfl <| old rfl (r2'.rd (i := 3) rfl) <| WO.ops (StepK.lookup rfl rfl hlk) <| omv rfl <| oex rfl rfl <| oex rfl rfl <| omv rfl <| omv rfl <| WO.nil (WC.seqO ?_)
    refine omv rfl <| ont rfl (WO.nil (WC.cond rfl (fun hc => by cases hc) (fun hc => WC.skip (WC.ops ?_))))
    refine oad rfl rfl (by omega) <| omv rfl (WO.nil ⟨j + 1, ?_, ⟨hlt, gJ⟩, by omega⟩)
    exact Cov.cons rfl (Cov.cons rfl (Cov.cons rfl (Cov.cons rfl (Cov.cons rfl (Cov.cons rfl (Cov.cons (by simp [Env.get, iv]) (Cov.nil _)))))))
  obtain rfl : j = es.length := by omega
  refine obn rfl rfl (ltF (by omega)) (WO.nil (WC.seq (WC.cond rfl (fun hc => by cases hc) (fun hc => WC.exit (WC.seq (WC.seqO ?_))))))
  have gHh := gG.trans gH
  have k4H := k4G.grow gH
  have k8H := k8G.grow gH
  have k10H := k10G.grow gH
  have oH := oG.grow gH
  have EH := E.grow gH
  have mH := gH.ext _ _ mG
  have csH := cs.grow gHh
  have MH := M.grow gHh
  have lmH : hC.size < hH.size := Wf.lt gHh.wf mH
  clear k4G k8G k10G oG E
  refine ofa rfl <| old rfl (k8H.rd (i := 1) rfl) <| ols rfl EH.len <| omv rfl (WO.nil (WC.block ?_))
  refine WC.loop (σ := Nat) (fun j => [(0, .ptr (some (s, 0))), (4, .ptr (some (p4, 0))), (8, .ptr (some (p8, 0))), (10, .ptr (some (p10, 0))), (70, x), (71, iv es.length), (72, iv j)]) (fun j h' => j ≤ es.length ∧ Chg [mb] hH h' ∧ MapI entV h' mb (ldA k f (es.take j) A)) (fun j => es.length - j) 0
    (Cov.cons rfl (Cov.cons rfl (Cov.cons rfl (Cov.cons rfl (Cov.cons rfl (Cov.cons rfl (Cov.cons rfl (Cov.nil _)))))))) ⟨Nat.zero_le _, Chg.refl gHh.wf, MH⟩ ?_
  rintro j hI ⟨hj, cI, mI⟩
  have k4I := k4H.chg cI (by simp; omega)
  have k8I := k8H.chg cI (by simp; omega)
  have k10I := k10H.chg cI (by simp; omega)
  have oI := oH.chg cI (by simp; omega)
  have csI := csH.chg cI (by simpa using hsm)
  refine WC.seqO ?_
  by_cases hlt : j < es.length
  · refine obn rfl rfl (ltT (by omega)) (WO.nil (WC.seq (WC.cond rfl (fun hc => WC.skip ?_) (fun hc => by cases hc))))
    have EI : Ents hI x es := by
      have := (xG.grow gH).chg cI (fun y hy => by
        obtain rfl := List.mem_singleton.1 hy
        exact xG.off_lt hw g5 (by omega))
      exact this.sl
    obtain ⟨c, o, i1, i2, _, _, _, _⟩ := EI.at hlt
    have hel := hloc _ (List.getElem_mem hlt)
    have htk := ldA_take k f es A hlt
    generalize es[j] = e at *
    obtain ⟨i, hi, hel⟩ := hel
    refine WC.seq (WC.block (WC.seqO ?_))
    refine WO.ops (StepK.idxSl rfl rfl i1) <| WO.ops (StepK.loadN rfl i2) <| WO.ops (StepK.alloc) ?_
    have gp := (Grow.refl cI.wf).push (.cells [.str [], .str [], iv 0, iv 0] (.tip [] 0 none))
    have c14 : Cl (hI.push (.cells [.str [], .str [], iv 0, iv 0] (.tip [] 0 none))) hI.size [.str [], .str [], iv 0, iv 0] := Cl.new _ _ _
    change WO C _ _ (hI.push (.cells [.str [], .str [], iv 0, iv 0] (.tip [] 0 none))) _
    generalize hI.push (.cells [.str [], .str [], iv 0, iv 0] (.tip [] 0 none)) = hJ at *
    obtain ⟨hK, r1, r2, r3, r4⟩ := c14.sets gp.wf (i := 0) (us := e.v) (by simp [Ent.v]) (by simp [Ent.v, V.one, iv])
    have r2' : Cl hK hI.size e.v := by simpa [splice, Ent.v] using r2
    have gIK : Grow hI hK := r3.newGrow gp cI.wf (fun x hx => by obtain rfl := List.mem_singleton.1 hx; omega)
    refine WO.op (StepK.store (v := .agg e.v) rfl rfl rfl r1) <| WO.nil (WC.draw ?_)
    have hlk := (oI.grow gIK).look1 e.loc (iv 0)
    rw [hel, ldMap_find k f _ i hi] at hlk
    rw [← hel] at hlk
    have e1 := (csI.grow gIK).rd (i := 3) rfl
    have e2 := (k10I.grow gIK).rd (i := 0) rfl
    have e3 := r2'.rd (i := 3) rfl
    have e4 : hK.rds hI.size 0 4 = some e.v := r2'.rds rfl
    have epl : ((7 * k + i : Nat) : Int) = ldPl k f e := by unfold ldPl; rw [hel]; omega
    rw [epl] at hlk
    obtain ⟨hL, t1, t2, t3, t4⟩ := (mI.grow gIK).upd gIK.wf (ldPl k f e) e
    refine dmv rfl <| dnk rfl <| dfa rfl <| WD.load1 rfl e1 <| WD.load1 rfl e2 <| dfa rfl <| WD.load1 rfl e3 <| WD.look rfl rfl hlk <| WD.loadN rfl e4 ?_
    refine WD.opC (by repeat (first | exact trivial | refine ⟨by with_reducible assumption, ?_⟩)) rfl (StepK.mapUpd rfl rfl rfl t1) <| WD.nil (by repeat (first | exact trivial | refine ⟨by with_reducible assumption, ?_⟩)) (WC.ops ?_)
    have cL : Chg [mb] hH hL := (cI.growr gIK).trans t3 gHh.wf (fun y hy => .inl hy)
    refine oad rfl rfl (by omega) <| omv rfl (WO.nil ⟨j + 1, ?_, ⟨hlt, cL, ?_⟩, by omega⟩)
    · exact Cov.cons rfl (Cov.cons rfl (Cov.cons rfl (Cov.cons rfl (Cov.cons rfl (Cov.cons rfl (Cov.cons (by simp [Env.get, iv]) (Cov.nil _)))))))
    · rw [htk]; exact t2
  obtain rfl : j = es.length := by omega
  rw [List.take_length] at mI
  refine obn rfl rfl (ltF (by omega)) (WO.nil (WC.seq (WC.cond rfl (fun hc => by cases hc) (fun hc => WC.exit (WC.seqO ?_)))))
  have mI' : hI.get hC.size = some .dfr := cI.keep _ _ (by simp; omega) mH
  obtain ⟨hJ, w1, w2, w3, w4⟩ := k4I.sets cI.wf (i := 0) (us := [iv q, x]) (by simp) (by simp only [List.all_cons, List.all_nil, gx.one]; rfl)
  have w2 : Cl hJ p4 [iv q, x] := w2
  refine WO.ops (StepK.loadN rfl (k8I.rds rfl)) <| WO.op (StepK.store (v := .agg [iv q, x]) rfl rfl rfl w1) <| omv rfl <| WO.nil <| WC.ret ?_
  have mJ : hJ.get hC.size = some .dfr := w3.keep _ _ (by simp; omega) mI'
  have ljJ : hC.size < hJ.size := Wf.lt w3.wf mJ
  have cN : Chg [hC.size] hJ (hJ.put hC.size .dead) := Chg.put w3.wf ljJ _
  have w2N := w2.chg cN (by simp; omega)
  have cT : Chg [mb] h (hJ.put hC.size .dead) := by
    have a1 : Chg [mb] h hI := Chg.growl gHh cI
    have a2 := a1.trans w3 hw (fun y hy => by obtain rfl := List.mem_singleton.1 hy; exact .inr (by omega))
    exact a2.trans cN hw (fun y hy => by obtain rfl := List.mem_singleton.1 hy; exact .inr (by omega))
  have mT : MapI entV (hJ.put hC.size .dead) mb (ldA k f es A) := (mI.chg w3 (by simp; omega)).chg cN (by simp; omega)
  refine ⟨fun id hc => Ex.noConfusion hc, hJ.put hC.size .dead, ?_, [.agg [iv q, x], .bool true], ?_, ⟨⟨x, gx.one, rfl⟩, cT.low _, mT⟩, fun hcc _ => ⟨⟨x, gx.one, rfl⟩, Chg.refl hw, mT.of_get (hcc _ lm)⟩⟩
  · simp only [runMarks, mJ]
  · have hl : loadA (hJ.put hC.size .dead) (some 2) (.ptr (some (p4, 0))) = some (.agg [iv q, x]) := by
      have q1 : (hJ.put hC.size .dead).rds p4 0 2 = some [iv q, x] := w2N.rds rfl
      simp only [loadA, q1]
    exact ress_ct rfl hl rfl
end
end Abs
end Go.Proofs.YtlgbdjlnbnlphaaGreatDoor
namespace Go.Proofs.YtlgbdjlnbnlphaaGreatDoor
namespace Abs
set_option linter.unusedVariables false
set_option linter.unusedSimpArgs false
open Go.RowKit
attribute [local irreducible] WO WC WD StepK Ans Does Runs DoesD

/-- What is kept behind Open: the logs of the groups, one by one. -/
def lgA (f : Nat) (lg : Nat → Option (Int × List Ent)) : Nat → List (Int × Ent)
  | 0 => []
  | g + 1 => match lg g with
    | none => lgA f lg g
    | some p => ldA g f p.2 (lgA f lg g)
def lgT : Option (Int × List Ent) → List Nat
  | none => []
  | some p => encF p.1 p.2
def LgOk (D : Dv) (f n : Nat) (lg : Nat → Option (Int × List Ent)) (g : Nat) : Prop :=
  D.rd 1 ((f + 8 * g : Nat) : Int) = (lgT (lg g), 0) ∧ ∀ p, lg g = some p → blkOk p.1 p.2 ∧ (∀ e ∈ p.2, e.byt) ∧ ∀ e ∈ p.2, ∃ i < min 7 (roomN n - 7 * g), e.loc = ((f + 8 * g + 1 + i : Nat) : Int)
section
variable {C : Cfg} (S : StdX C)
include S
theorem open_ans (hSm : ∀ f args h v h', C.S f args h = some (some (v, h')) → HM h h') (nb : Nat) (h : Heap) (hw : Wf h) (ro : Ro h) (b b0 b1 : Nat) (wv : V) (D : Dv) (d : DevAt nb h b b0 b1 wv D) (f n : Nat) (hn2 : 2 ≤ n) (hfn : f + n ≤ D.s1.length) (hz : D.s1.length ≤ 1000) (hws : D.ws.length ≤ 1000000)
    (lg : Nat → Option (Int × List Ent)) (hlg : ∀ g, g < (roomN n + 6) / 7 → LgOk D f n lg g) :
    Ans C 7 [.ptr (some (b, 0)), iv f, iv n] h fun r h' => ∃ s mb sq hd, r = .ptr (some (s, 0)) ∧ Grow h h' ∧ XAt h.size h' s mb b b0 b1 wv ⟨f, n, lgA f lg ((roomN n + 6) / 7), sq, hd⟩ ∧ ((∀ g, g < (roomN n + 6) / 7 → lg g = none) → sq = 0 ∧ hd = 0) := by
  obtain ⟨lb, lb0, lb1⟩ := d.lt hw
  have hF : C.F 7 = some a7 := S.f rfl
  unfold a7 at hF
  refine Ans.fn (fun _ _ => S.s _ _ _ rfl) hF rfl rfl hw (fun h2 g2 => ?_)
  clear hF
  have hR : roomN n ≤ n := by unfold roomN; omega
  refine WC.seqO (omv rfl (WO.nil (WC.seq (WC.seqO ?_))))
  refine omv rfl <| oeq rfl rfl (t := false) rfl <| omv rfl <| WO.run rfl <| omv rfl <| WO.run rfl <| obn rfl rfl (ltF (by omega)) <| opf rfl rfl <| omv rfl <| WO.run rfl <| omv rfl <| WO.run rfl <| obn rfl rfl (ltF (by omega)) <| opf rfl rfl <|
    omv rfl <| WO.run rfl <| omv rfl <| WO.run rfl <| omv rfl <| WO.run rfl ?_
  refine WO.call rfl rfl (size_ans S.toStdO h2 g2.wf b b0 b1 wv D (Cl.grow d.B g2) 1) ?_
  rintro _ h3 ⟨rfl, g23⟩
  rw [show (if isDev 1 = true then ((D.s 1).length : Int) else 0) = (D.s1.length : Int) from rfl]
  have g3 := g2.trans g23
  refine WO.run rfl <| omv rfl <| WO.run rfl <| osb rfl rfl (by omega) <| WO.run rfl <| obn rfl rfl (gtF (by omega)) <| opf rfl rfl <| WO.nil <| WC.cond rfl (fun hc => by cases hc) (fun hc => WC.skip (WC.seqO ?_))
  refine omv rfl <| omv rfl <| omv rfl <| WO.ops StepK.makeMap ?_
  have m0 : MapI entV (h3.push (.map [] [] 0)) h3.size [] := MapI.new _ _
  have g4 := g3.push (.map [] [] 0)
  have z4 : (h3.push (.map [] [] 0)).size = h3.size + 1 := rfl
  have z3 := g3.size
  generalize h3.push (.map [] [] 0) = h4 at *
  generalize h3.size = mb at *
  refine obu rfl rfl <| WO.ops (StepK.box rfl) ?_
  have c5 : Cl (h4.push (.cells [.ptr (some (b, 0)), iv f, iv n, .map (some mb), iv 0, iv 0] (.tip [] 0 none))) h4.size [.ptr (some (b, 0)), iv f, iv n, .map (some mb), iv 0, iv 0] := Cl.new _ _ _
  have gp := (Grow.refl g4.wf).push (.cells [.ptr (some (b, 0)), iv f, iv n, .map (some mb), iv 0, iv 0] (.tip [] 0 none))
  change WO C _ _ (h4.push (.cells [.ptr (some (b, 0)), iv f, iv n, .map (some mb), iv 0, iv 0] (.tip [] 0 none))) _
  have g5 := g4.trans gp
  have m5 := m0.grow gp
  generalize h4.push (.cells [.ptr (some (b, 0)), iv f, iv n, .map (some mb), iv 0, iv 0] (.tip [] 0 none)) = h5 at *
  have ls : h4.size < h5.size := c5.lt g5.wf
  generalize h4.size = s at *
  refine omv rfl <| WO.nil <| WC.seqO <| omv rfl <| WO.nil <| WC.seq <| WC.seqO ?_
  refine omv rfl ?_
  refine WO.call rfl rfl (room_ans S.toStdO h5 g5.wf s n (c5.rd rfl) (by omega)) ?_
  rintro _ h6 ⟨rfl, g56⟩
  have g6 := g5.trans g56
  have c6 := c5.grow g56
  have m6 := m5.grow g56
  have ec : (roomN n : Int) + 7 - 1 = ((roomN n + 6 : Nat) : Int) := by omega
  refine oad rfl rfl (by omega) <| osb rfl rfl (by omega) ?_
  rw [ec]
  refine obn rfl rfl (quo_nat (roomN n + 6) 7 (by decide) (by omega)) <| omv rfl <| WO.nil (WC.block ?_)
  generalize hG : (roomN n + 6) / 7 = G at *
  have hG2 : G ≤ 1000 := by omega
  refine WC.loop (σ := Nat × Int) (fun p => [(7, .ptr (some (s, 0))), (8, iv p.2), (40, iv G), (41, iv p.1)])
    (fun p h' => p.1 ≤ G ∧ -1 ≤ p.2 ∧ Grow h h' ∧ ∃ sq hd, Cl h' s [.ptr (some (b, 0)), iv f, iv n, .map (some mb), iv sq, iv hd] ∧ MapI entV h' mb (lgA f lg p.1) ∧ ((∀ g, g < p.1 → lg g = none) → sq = 0 ∧ hd = 0)) (fun p => G - p.1) (0, -1)
    (Cov.cons rfl (Cov.cons rfl (Cov.cons rfl (Cov.cons rfl (Cov.nil _))))) ⟨Nat.zero_le _, by simp, g6, 0, 0, c6, m6, fun _ => ⟨rfl, rfl⟩⟩ ?_
  rintro ⟨j, best⟩ h7 ⟨hj, hbest, g7, sq, hd, c7, m7, hno⟩
  dsimp only at hj hbest hno m7
  refine WC.seqO ?_
  by_cases hlt : j < G
  · refine obn rfl rfl (ltT (by omega)) (WO.nil (WC.seq (WC.cond rfl (fun hc => WC.skip ?_) (fun hc => by cases hc))))
    obtain ⟨hrd, hok⟩ := hlg j hlt
    refine WC.seq (WC.block (WC.seqO (omv rfl <| omv rfl <| WO.nil (WC.seqO ?_))))
    refine omv rfl <| omv rfl ?_
    cases hl : lg j with
    | none =>
      rw [hl] at hrd
      refine WO.call rfl rfl (load_none S hSm nb h7 g7.wf (ro.grow g7) s b b0 b1 wv D (d.grow g7) f j _ _ _ _ c7 (by omega) (by omega) hws hrd) ?_
      rintro _ h8 ⟨rfl, g78⟩
      refine omv rfl <| oex rfl rfl <| oex rfl rfl <| WO.ops StepK.alloc ?_
      have gq := (Grow.refl g78.wf).push (.cells [iv 0, .slice none 0 0] (.tip [] 0 none))
      have k8 : Cl (h8.push (.cells [iv 0, .slice none 0 0] (.tip [] 0 none))) h8.size [iv 0, .slice none 0 0] := Cl.new _ _ _
      change WO C _ _ (h8.push (.cells [iv 0, .slice none 0 0] (.tip [] 0 none))) _
      generalize h8.push (.cells [iv 0, .slice none 0 0] (.tip [] 0 none)) = h9 at *
      obtain ⟨h10, u1, u2, u3, u4⟩ := k8.sets gq.wf (i := 0) (us := [iv 0, .slice none 0 0]) (by simp) rfl
      have g810 : Grow h8 h10 := u3.newGrow gq g78.wf (fun x hx => by obtain rfl := List.mem_singleton.1 hx; omega)
      have g10 := g78.trans g810
      refine WO.op (StepK.store (v := .agg [iv 0, .slice none 0 0]) rfl rfl rfl u1) <| omv rfl <| WO.nil (WC.seq (WC.seqO ?_))
      refine omv rfl <| ont rfl <| omv rfl ?_
      (repeat (first | refine omv rfl ?_ | refine ols rfl (by first | with_reducible assumption | rfl) ?_ | refine ofa rfl ?_ | refine oad rfl rfl (by omega) ?_ | refine osb rfl rfl (by omega) ?_ | refine obn rfl rfl rfl ?_ | refine opt rfl rfl ?_ | refine opf rfl rfl ?_ | refine ont rfl ?_ | refine oeq rfl rfl rfl ?_ | refine oex rfl rfl ?_ | refine obu rfl rfl ?_ | refine ofd rfl rfl ?_ | refine olt rfl ?_ | refine onk rfl ?_ | refine old rfl (by first | with_reducible assumption | rfl) ?_ | refine WO.run rfl ?_ | refine WO.skip rfl rfl ?_ | refine WO.skipu rfl ?_))
      refine WO.nil (WC.cond rfl (fun hc => WC.exit (WC.ops ?_)) (fun hc => by cases hc))
      refine oad rfl rfl (by omega) <| omv rfl (WO.nil ⟨(j + 1, best), ?_, ⟨hlt, hbest, g7.trans g10, sq, hd, c7.grow g10, ?_, ?_⟩, by dsimp only; omega⟩)
      · exact Cov.cons rfl (Cov.cons rfl (Cov.cons rfl (Cov.cons (by simp [Env.get, iv]) (Cov.nil _))))
      · simp only [lgA, hl]; exact m7.grow g10
      · exact fun hg => hno fun g hgl => hg g (by dsimp only; omega)
    | some p =>
      rw [hl] at hrd
      obtain ⟨o1, o2, o3⟩ := hok p hl
      refine WO.call rfl rfl (load_some S hSm nb h7 g7.wf (ro.grow g7) s mb b b0 b1 wv D (d.grow g7) f n j (lgA f lg j) _ _ c7 m7 (by omega) (by omega) (by omega) (by omega) hws p.1 p.2 hrd o1 o2 o3) ?_
      rintro _ h8 ⟨⟨x, hx1, rfl⟩, c78, m8⟩
      have g8 : Grow h h8 := c78.newGrow g7 hw (fun x hx => by obtain rfl := List.mem_singleton.1 hx; omega)
      have c8 := c7.chg c78 (by simp; omega)
      refine omv rfl <| oex rfl rfl <| oex rfl rfl <| WO.ops StepK.alloc ?_
      have gq := (Grow.refl g8.wf).push (.cells [iv 0, .slice none 0 0] (.tip [] 0 none))
      have k8 : Cl (h8.push (.cells [iv 0, .slice none 0 0] (.tip [] 0 none))) h8.size [iv 0, .slice none 0 0] := Cl.new _ _ _
      change WO C _ _ (h8.push (.cells [iv 0, .slice none 0 0] (.tip [] 0 none))) _
      generalize h8.push (.cells [iv 0, .slice none 0 0] (.tip [] 0 none)) = h9 at *
      obtain ⟨h10, u1, u2, u3, u4⟩ := k8.sets gq.wf (i := 0) (us := [iv p.1, x]) (by simp) (by simp only [List.all_cons, List.all_nil, hx1]; rfl)
      have g810 : Grow h8 h10 := u3.newGrow gq g8.wf (fun x hx => by obtain rfl := List.mem_singleton.1 hx; omega)
      have g10 := g8.trans g810
      have u2 : Cl h10 h8.size [iv p.1, x] := u2
      have ls8 : s < h8.size := c8.lt g8.wf
      have c10 := c8.grow g810
      have m10 : MapI entV h10 mb (lgA f lg (j + 1)) := by simp only [lgA, hl]; exact m8.grow g810
      have hno' : ∀ (P : Prop), (∀ g, g < j + 1 → lg g = none) → P := fun P hg => by have := hg j (by omega); rw [hl] at this; cases this
      refine WO.op (StepK.store (v := .agg [iv p.1, x]) rfl rfl rfl u1) <| omv rfl <| WO.nil (WC.seq (WC.seqO ?_))
      refine omv rfl <| ont rfl <| omv rfl <| WO.run rfl <| ofa rfl <| WO.run rfl <| old rfl (u2.rd (i := 0) rfl) <| WO.run rfl <| omv rfl <| WO.run rfl ?_
      have e0 := u2.rd (i := 0) rfl
      generalize p.1 = q at *
      by_cases hqb : q < best
      · refine obn rfl rfl (ltT hqb) <| opf rfl rfl <| WO.nil (WC.cond rfl (fun hc => WC.exit (WC.ops ?_)) (fun hc => by cases hc))
        refine oad rfl rfl (by omega) <| omv rfl (WO.nil ⟨(j + 1, best), ?_, ⟨hlt, hbest, g10, sq, hd, c10, m10, hno' _⟩, by dsimp only; omega⟩)
        exact Cov.cons rfl (Cov.cons rfl (Cov.cons rfl (Cov.cons (by simp [Env.get, iv]) (Cov.nil _))))
      refine obn rfl rfl (ltF hqb) <| opf rfl rfl <| WO.nil (WC.cond rfl (fun hc => by cases hc) (fun hc => WC.skip (WC.seqD ?_)))
      obtain ⟨h11, v1, v2, v3, v4⟩ := c10.set g10.wf (i := 4) (by simp) (v := iv q) rfl
      refine dmv rfl <| dfa rfl <| WD.load1 rfl e0 <| dfa rfl <| WD.load1 rfl e0 <| dmv rfl <| dnk rfl <| dfa rfl <| WD.opC (by repeat (first | exact trivial | refine ⟨by with_reducible assumption, ?_⟩)) rfl (StepK.store rfl rfl rfl v1) <| WD.nil (by repeat (first | exact trivial | refine ⟨by with_reducible assumption, ?_⟩)) (WC.seqO ?_)
      obtain ⟨h12, w1, w2, w3, w4⟩ := v2.set v3.wf (i := 5) (by simp) (v := iv (7 * ((j : Int) + 1))) rfl
      refine omv rfl <| omv rfl <| oad rfl rfl (by omega) <| obn rfl rfl (mul_at (by omega) (by omega)) <| onk rfl <| ofa rfl <| WO.op (StepK.store rfl rfl rfl w1) <| WO.nil (WC.seqD ?_)
      have w2 : Cl h12 s [.ptr (some (b, 0)), iv f, iv n, .map (some mb), iv q, iv (7 * ((j : Int) + 1))] := w2
      have g11 : Grow h h11 := v3.newGrow g10 hw (fun y hy => by obtain rfl := List.mem_singleton.1 hy; omega)
      have g12 : Grow h h12 := w3.newGrow g11 hw (fun y hy => by obtain rfl := List.mem_singleton.1 hy; omega)
      have m12 := (m10.chg v3 (by simp; omega)).chg w3 (by simp; omega)
      have e5 := w2.rd (i := 5) rfl
      refine dmv rfl <| dnk rfl <| dfa rfl <| WD.load1 rfl e5 <| dmv rfl ?_
      refine WD.call (by repeat (first | exact trivial | refine ⟨by with_reducible assumption, ?_⟩)) rfl rfl (room_ans S.toStdO h12 g12.wf s n (w2.rd rfl) (by omega)) ?_
      rintro _ h13 ⟨rfl, g1213⟩
      have g13 := g12.trans g1213
      have e5' := g1213.rd e5
      have w13 := w2.grow g1213
      have m13 := m12.grow g1213
      by_cases hge : (roomN n : Int) ≤ 7 * ((j : Int) + 1)
      · refine dbn rfl rfl (geT hge) <| WD.nil (by repeat (first | exact trivial | refine ⟨by with_reducible assumption, ?_⟩)) (WC.cond rfl (fun hc => WC.ops ?_) (fun hc => by cases hc))
        obtain ⟨h14, x1, x2, x3, x4⟩ := w13.set g13.wf (i := 5) (by simp) (v := iv 0) rfl
        have g14 : Grow h h14 := x3.newGrow g13 hw (fun y hy => by obtain rfl := List.mem_singleton.1 hy; omega)
        refine omv rfl <| onk rfl <| ofa rfl <| WO.op (StepK.store rfl rfl rfl x1) <| WO.nil (WC.ops ?_)
        refine oad rfl rfl (by omega) <| omv rfl (WO.nil ⟨(j + 1, q), ?_, ⟨hlt, by dsimp only; omega, g14, q, 0, x2, m13.chg x3 (by simp; omega), hno' _⟩, by dsimp only; omega⟩)
        exact Cov.cons rfl (Cov.cons rfl (Cov.cons rfl (Cov.cons (by simp [Env.get, iv]) (Cov.nil _))))
      · refine dbn rfl rfl (geF hge) <| WD.nil (by repeat (first | exact trivial | refine ⟨by with_reducible assumption, ?_⟩)) (WC.cond rfl (fun hc => by cases hc) (fun hc => WC.skip (WC.ops ?_)))
        refine oad rfl rfl (by omega) <| omv rfl (WO.nil ⟨(j + 1, q), ?_, ⟨hlt, by dsimp only; omega, g13, q, _, w13, m13, hno' _⟩, by dsimp only; omega⟩)
        exact Cov.cons rfl (Cov.cons rfl (Cov.cons rfl (Cov.cons (by simp [Env.get, iv]) (Cov.nil _))))
  · obtain rfl : j = G := by omega
    refine obn rfl rfl (ltF (by omega)) (WO.nil (WC.seq (WC.cond rfl (fun hc => by cases hc) (fun hc => WC.exit (WC.seqO ?_)))))
    have ow := fun c (hc : h.size ≤ c) => d.W.offNew hw hc
    refine omv rfl <| omv rfl <| WO.nil <| WC.ret ⟨trivial, g7.wf, .ptr (some (s, 0)), rfl, fun h8 g8 => ⟨s, mb, sq, hd, rfl, g7.trans g8, ⟨c7.grow g8, m7.grow g8, by omega, by omega, by omega, by simp; omega, by simp; omega, ow _ (by omega), ow _ (by omega)⟩, hno⟩, fun hc => ?_⟩
    change (V.ptr (some (s, 0))).scopd h.size = true at hc
    simp [V.scopd] at hc
    omega
end
end Abs
end Go.Proofs.YtlgbdjlnbnlphaaGreatDoor
namespace Go.Proofs.YtlgbdjlnbnlphaaGreatDoor
namespace Abs
set_option linter.unusedVariables false
set_option linter.unusedSimpArgs false
open Go.RowKit
attribute [local irreducible] WO WC WD StepK Ans Does Runs DoesD

structure StdW (C : Cfg) : Prop extends StdX C where
  live : ∀ (h : Heap), Gl gl h → C.S 5 [] h = some (some (.bool true, h))
theorem Gl.grow {h h' : Heap} (G : Gl gl h) (g : Grow h h') : Gl gl h' := by
  intro b hb
  have e := G b hb
  rcases (baseH_get gl (by decide) b).1 hb with q | ⟨p, _, _, q⟩
  · rw [q] at e ⊢; exact g.ext _ _ e
  · rw [q] at e ⊢; exact g.ext _ _ e
theorem Gl.ro {h : Heap} (G : Gl gl h) : Ro h := by
  have e := G 0 (by decide)
  have q : (baseH gl).get 0 = some (.cells ((rootsN.map iN).map uv) .ro) := HT.get_set_same _ _ _
  rw [q] at e
  exact Ro.mk e (V.beqs_refl _)
theorem pigeon : ∀ (R : Nat) (l : List Int), l.Nodup → (∀ x ∈ l, 0 ≤ x ∧ x < R) → l.length ≤ R
  | 0, l, _, h => by
    cases l with
    | nil => exact Nat.le_refl _
    | cons a r => have := h a List.mem_cons_self; omega
  | R + 1, l, hn, h => by
    have h1 : (l.erase (R : Int)).length ≤ R := pigeon R _ (hn.erase _) (fun x hx => by
      have h2 := (hn.mem_erase_iff).1 hx
      have := h x h2.2
      have := h2.1
      omega)
    have := List.length_erase_le (a := (R : Int)) (l := l)
    by_cases hm : (R : Int) ∈ l
    · have := List.length_erase_of_mem hm
      have := List.length_pos_of_mem hm
      omega
    · rw [List.erase_of_not_mem hm] at h1; omega
/-- Where the text of a place lies. -/
def locN (f p : Nat) : Nat := f + 8 * (p / 7) + 1 + (p - 7 * (p / 7))
structure FOk (f n i hd : Nat) (D : Dv) (X : XS) : Prop where
  ef : X.f = f
  en : X.n = n
  eh : X.hand = hd
  hr : hd < roomN n
  z0 : D.s0.length = 4
  z1 : D.s1.length = 40
  l0 : D.l0 = false
  l1 : D.l1 = false
  ws : D.ws.length ≤ 1
  ok : WsOk D
  q0 : 0 ≤ X.seq
  q1 : X.seq ≤ 2 * i
  by' : ∀ p ∈ X.A, p.2.byt
  ks : ∀ p ∈ X.A, 0 ≤ p.1 ∧ p.1 < roomN n
/-- What a Feed comes to. -/
def Fed (f n : Nat) (key ld : List Nat) (D : Dv) (X : XS) (hd : Nat) (D' : Dv) (X' : XS) (hd' : Nat) (t : Bool) : Prop :=
  (t = false ∧ fdBad key ld false ∧ D' = D ∧ X' = X ∧ hd' = hd) ∨ (t = true ∧ ¬ fdBad key ld false ∧ findX X.A key ≠ none ∧ D' = D ∧ X' = X ∧ hd' = hd) ∨
  (t = true ∧ ¬ fdBad key ld false ∧ findX X.A key = none ∧ D' = fdD D X (hd / 7) key ld (locN f hd) ∧ X' = fdXn X key ld (locN f hd) hd ∧ hd' = (hd + 1) % roomN n)
theorem FOk.fdD' {f n i hd : Nat} {D : Dv} {X : XS} (F : FOk f n i hd D X) (key ld : List Nat) (a : Int) (k : Nat) : (fdD D X k key ld a).s0.length = 4 ∧ (fdD D X k key ld a).s1.length = 40 ∧ (fdD D X k key ld a).l0 = false ∧ (fdD D X k key ld a).l1 = false ∧ (fdD D X k key ld a).ws.length = 1 := by
  obtain ⟨a1, a2, a3, a4, a5⟩ := fl_alk (fdD1 D X k) fun _ => true
  obtain ⟨b1, b2, b3, b4, b5⟩ := fl_alk (fdD2 D X k ld a) fun _ => true
  refine ⟨b1.trans (a1.trans F.z0), b2.trans (a2.trans F.z1), b3.trans (a3.trans F.l0), b4.trans (a4.trans F.l1), ?_⟩
  show ((fdD2 D X k ld a).fl.ws ++ [_]).length = 1
  rw [show (fdD2 D X k ld a).fl.ws = [] from b5]; rfl
theorem FOk.step {f n i hd : Nat} {D : Dv} {X : XS} (F : FOk f n i hd D X) (hfn : f + n ≤ 40) {key ld : List Nat} (hb : Byt key) :
    FOk f n (i + 1) ((hd + 1) % roomN n) (fdD D X (hd / 7) key ld (locN f hd)) (fdXn X key ld (locN f hd) hd) := by
  obtain ⟨d1, d2, d3, d4, d5⟩ := F.fdD' key ld (locN f hd) (hd / 7)
  have hr := F.hr
  have hR : roomN n ≤ n := by unfold roomN; omega
  have hg : f + 8 * (hd / 7) < 40 := by unfold roomN at hr; omega
  refine ⟨F.ef, F.en, by show (((hd + 1) % roomN X.n : Nat) : Int) = _; rw [F.en], Nat.mod_lt _ (by omega), d1, d2, d3, d4, by omega, ?_, by show 0 ≤ X.seq + 2; have := F.q0; omega, by show X.seq + 2 ≤ _; have := F.q1; omega, ?_, ?_⟩
  · have q : WsOk ((fdD2 D X (hd / 7) ld (locN f hd)).fl.w ((X.f + 8 * (hd / 7) : Nat) : Int) (logT X (fdA2 X key ld (locN f hd)) (X.seq + 2) (hd / 7))) := by
      refine WsOk.w (WsOk.nil rfl) (by omega) ?_
      have e : (fdD2 D X (hd / 7) ld (locN f hd)).fl.s1.length = 40 := d2
      rw [e, F.ef]; omega
    exact q
  · intro p hp
    rcases mem_updI hp with rfl | q
    · exact ⟨hb, ofF_byt ld⟩
    · exact F.by' p (mem_delI q)
  · intro p hp
    rcases mem_updI hp with rfl | q
    · show 0 ≤ X.hand ∧ X.hand < _; rw [F.eh]; omega
    · exact F.ks p (mem_delI q)
theorem FOk.up {f n i hd : Nat} {D : Dv} {X : XS} (F : FOk f n i hd D X) : FOk f n (i + 1) hd D X := { F with q1 := by have := F.q1; omega }
section
variable {C : Cfg} (S : StdX C)
include S
theorem feed_ok (hSm : ∀ f args h v h', C.S f args h = some (some (v, h')) → HM h h') (hB h : Heap) (hw0 : Wf hB) (gB : Grow hB h) (ro : Ro hB) (s mb b b0 b1 : Nat) (wv : V) (D : Dv) (X : XS) (d : DevAt hB.size h b b0 b1 wv D) (x : XAt hB.size h s mb b b0 b1 wv X) (key ld : List Nat)
    (f n i hd : Nat) (F : FOk f n i hd D X) (hfn : f + n ≤ 40) (hi : i ≤ 1000) (hkb : Byt key) :
    Ans C 8 [.ptr (some (s, 0)), .str key, .str ld] h fun r h' => ∃ t wv' D' X' hd', r = .bool t ∧ Grow hB h' ∧ DevAt hB.size h' b b0 b1 wv' D' ∧ XAt hB.size h' s mb b b0 b1 wv' X' ∧ FOk f n (i + 1) hd' D' X' ∧ Fed f n key ld D X hd D' X' hd' t := by
  have hR : roomN n ≤ n := by unfold roomN; omega
  have hks : ∀ k ∈ X.A.map (fun p : Int × Ent => p.1), 0 ≤ k ∧ k < (roomN n : Int) := fun k hk => by
    obtain ⟨p, hp, rfl⟩ := List.mem_map.1 hk
    exact F.ks p hp
  have hA : X.A.length ≤ roomN n := by
    have := pigeon (roomN n) (X.A.map (fun p : Int × Ent => p.1)) x.mp.1 hks
    rwa [List.length_map] at this
  have hq0 := F.q0
  have hq1 := F.q1
  refine (feed_ans S hSm hB h hw0 gB ro s mb b b0 b1 wv D X d x key ld hd F.eh (by rw [F.en]; exact F.hr) (by rw [F.ef, F.en, F.z1]; exact hfn) (by rw [F.z1]; decide) (by have := F.ws; omega) F.ok ⟨by omega, by omega⟩ F.by' hkb (fun k hk => by have := hks k hk; omega) (by omega)).mono ?_
  rw [F.l1, F.ef]
  rintro r h' (⟨q1, rfl, g⟩ | ⟨q1, q2, rfl, g⟩ | ⟨q1, q2, rfl, g, wv', d', x'⟩)
  · exact ⟨_, wv, D, X, hd, rfl, gB.trans g, d.grow g, x.grow g, F.up, .inl ⟨rfl, q1, rfl, rfl, rfl⟩⟩
  · exact ⟨_, wv, D, X, hd, rfl, gB.trans g, d.grow g, x.grow g, F.up, .inr (.inl ⟨rfl, q1, q2, rfl, rfl, rfl⟩)⟩
  · exact ⟨_, wv', _, _, _, rfl, g, d', x', F.step hfn hkb, .inr (.inr ⟨rfl, q1, q2, rfl, rfl, rfl⟩)⟩
end
end Abs
end Go.Proofs.YtlgbdjlnbnlphaaGreatDoor
