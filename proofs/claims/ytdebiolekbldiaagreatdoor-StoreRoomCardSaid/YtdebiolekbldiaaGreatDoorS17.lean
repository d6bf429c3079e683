/- Layer 18: put. Layer 18: room, Free, choose, Put, PutData. Layer 18: region, Settle. Layer 18: Settle. Layer 18, plainly: the runs of the sectors that are not taken. No program is in sight. -/
import Derived.Test.YtdebiolekbldiaaGreatDoorS12
namespace Go.Proofs.YtdebiolekbldiaaGreatDoor
namespace Abs
set_option linter.unusedVariables false
set_option linter.unusedSimpArgs false
open Go.RowKit
attribute [local irreducible] WO WC WD StepK Ans Does Runs DoesD
structure SV where
 P : Pol
 txg : Int
 va : V
 vm : V
 vs : V
 k0 : V
 k1 : V
 k2 : V
def stC (b : Nat) (T : SV) (u0 u1 : V) : List V := [.ptr (some (b, 0)), .bool T.P.fast, .bool T.P.mirror, iv T.P.small, iv T.P.arc, iv T.P.sec, u0, u1, iv T.txg, T.va, T.vm, T.vs, T.k0, T.k1, T.k2]
structure FrU (h : Heap) (F : List Nat) (wv u : V) (R : List (Int × Int)) : Prop where
 sl : Sl h 2 u (R.map rn)
 ok : RunOk R
 blk : R ≠ [] → ∀ c, blkOf u = some c → c ∉ F ∧ Off wv c
 one : V.one u = true
def refP (ls : List (Int × Int)) (t : List Nat) (txg : Int) : Ptr := ⟨ls, t.length, txg, ofF t⟩
theorem Sl.nilKeep {h h' : Heap} {sz : Nat} {x : V} (s : Sl h sz x []) : Sl h' sz x [] := by
 refine ⟨s.1, ?_⟩
 have := s.2
 split at this <;> simp_all
theorem Sl.one {h : Heap} {sz : Nat} {x : V} {es : List (List V)} (s : Sl h sz x es) : V.one x = true := by
 have := s.2
 split at this
 ·rfl
 ·rfl
 ·rfl
 ·exact this.elim
theorem tk_distinct {R0 R1 : List (Int × Int)} {dl : List Int} : ∀ {j : Nat} {x : List (Int × Int) × List (Int × Int) × List (Int × Int)}, (∀ d ∈ dl, d = 0 ∨ d = 1) → j ≤ dl.length → tk R0 R1 dl j = some x → x.1.map (·.1) = dl.take j
 | 0, x, _, _, h => by cases h; rfl
 | j + 1, x, hd, hj, h => by
  have hdj := hd _ (List.getElem_mem (show j < dl.length by omega))
  have e : dl.getD j 0 = dl[j]'(by omega) := by rw [List.getD_eq_getElem?_getD, List.getElem?_eq_getElem (by omega)]; rfl
  rw [List.take_succ_eq_append_getElem (by omega)]
  simp only [tk, e] at h
  split at h
  ·cases h
  ·rename_i ls A B hj'
   have ih := tk_distinct hd (by omega) hj'
   dsimp only at ih
   split at h
   ·rename_i h0
    split at h
    ·cases h
    ·cases h; simp [ih, h0]
   ·rename_i h0
    have h1 := hdj.resolve_left h0
    split at h
    ·cases h
    ·cases h; simp [ih, h1]
def tkStep (dd : Int) (l A B : List (Int × Int)) : Option (List (Int × Int) × List (Int × Int) × List (Int × Int)) :=
 if dd = 0 then (match A with | [] => none | r :: l' => some (l ++ [(0, r.1)], tl1 (r :: l'), B)) else (match B with | [] => none | r :: l' => some (l ++ [(1, r.1)], A, tl1 (r :: l')))
theorem tk_succ {R0 R1 : List (Int × Int)} {dl : List Int} {j : Nat} {l A B : List (Int × Int)} (h : tk R0 R1 dl j = some (l, A, B)) : tk R0 R1 dl (j + 1) = tkStep (dl.getD j 0) l A B := by
 simp only [tk, h]
 unfold tkStep
 split
 ·cases A <;> rfl
 ·cases B <;> rfl
theorem spTake_nil (o : RunOk []) : spTakeF [] 1 = (0, [], false) := spTake_one o
theorem spTake_cons {r : Int × Int} {l : List (Int × Int)} (o : RunOk (r :: l)) : spTakeF (r :: l) 1 = (r.1, tl1 (r :: l), true) := spTake_one o
theorem Sl.blk_lt {h : Heap} {sz : Nat} {u : V} {es : List (List V)} (s : Sl h sz u es) (hw : Wf h) (hne : es ≠ []) : ∀ c, blkOf u = some c → c < h.size := by
 intro c hc
 have key : ∀ o n vs, h.rds c o n = some vs → c < h.size := by
  intro o n vs hr
  refine Decidable.byContradiction fun hge => ?_
  rw [Heap.rds, hw c (by omega)] at hr
  cases hr
 have h2 := s.2
 split at h2
 ·cases hc
 ·cases hc; exact key _ _ _ (h2.2.2 hne)
 ·cases hc; exact key _ _ _ (h2.2.2.2 hne)
 ·exact h2.elim
def PutR (hB h : Heap) (s b b0 b1 : Nat) (wv : V) (D : Dv) (T : SV) (t : List Nat) (u0 u1 : V) : Option (List (Int × Int) × List (Int × Int) × List (Int × Int)) → V → Heap → Prop
 | none => fun r h' => r = .tuple [.str [], iv 6] ∧ Grow h h'
 | some (ls, A, B) => fun r h' => r = .tuple [.str (encP (refP ls t T.txg)), iv 0] ∧ Grow hB h' ∧ ∃ wv' u0' u1', DevAt hB.size h' b b0 b1 wv' (D.more (wrs ls t)) ∧ Cl h' s (stC b T u0' u1') ∧ FrU h' [s, b, b0, b1] wv' u0' A ∧ FrU h' [s, b, b0, b1] wv' u1' B ∧ DFr h h' [s, b] wv wv' ∧ Off wv' s ∧
   (A ≠ [] → ∀ c, blkOf u0' = some c → blkOf u0 = some c ∨ h.size ≤ c) ∧ (B ≠ [] → ∀ c, blkOf u1' = some c → blkOf u1 = some c ∨ h.size ≤ c)
theorem tk_fre {R0 R1 : List (Int × Int)} {dl : List Int} (o0 : RunOk R0) (o1 : RunOk R1) : ∀ {j : Nat} {x : List (Int × Int) × List (Int × Int) × List (Int × Int)}, tk R0 R1 dl j = some x →
  (∀ a, Fre x.2.1 a → Fre R0 a) ∧ (∀ a, Fre x.2.2 a → Fre R1 a) ∧ ∀ l ∈ x.1, (l.1 = 0 ∧ Fre R0 l.2) ∨ (l.1 = 1 ∧ Fre R1 l.2)
 | 0, x, h => by cases h; exact ⟨fun _ q => q, fun _ q => q, fun l hl => by cases hl⟩
 | j + 1, x, h => by
  cases hj : tk R0 R1 dl j with
  | none => rw [tk_none hj (by omega)] at h; cases h
  | some y =>
   obtain ⟨ls, A, B⟩ := y
   obtain ⟨i1, i2, i3⟩ := tk_fre o0 o1 hj
   obtain ⟨k1, k2, _, _⟩ := tk_ok o0 o1 hj
   dsimp only at i1 i2 i3 k1 k2
   rw [tk_succ hj] at h
   unfold tkStep at h
   split at h
   ·cases A with
    | nil => cases h
    | cons r A =>
     cases h
     refine ⟨fun a q => i1 a ((fre_tl k1 a).1 q).1, i2, fun l hl => ?_⟩
     rcases List.mem_append.1 hl with q | q
     ·exact i3 l q
     ·rw [List.mem_singleton.1 q]; exact .inl ⟨rfl, i1 _ (fre_hd k1)⟩
   ·cases B with
    | nil => cases h
    | cons r B =>
     cases h
     refine ⟨i1, fun a q => i2 a ((fre_tl k2 a).1 q).1, fun l hl => ?_⟩
     rcases List.mem_append.1 hl with q | q
     ·exact i3 l q
     ·rw [List.mem_singleton.1 q]; exact .inr ⟨rfl, i2 _ (fre_hd k2)⟩
section
variable {C : Cfg} (S : StdO C)
include S
theorem stput_ans (hSm : ∀ f args h v h', C.S f args h = some (some (v, h')) → HM h h') (hB h : Heap) (hw0 : Wf hB) (gB : Grow hB h) (ro : Ro hB) (s b b0 b1 : Nat) (wv : V) (D : Dv) (d : DevAt hB.size h b b0 b1 wv D) (T : SV) (u0 u1 : V) (R0 R1 : List (Int × Int))
  (cs : Cl h s (stC b T u0 u1)) (ns : hB.size ≤ s) (sb : s ∉ [b, b0, b1]) (os : Off wv s) (f0 : FrU h [s, b, b0, b1] wv u0 R0) (f1 : FrU h [s, b, b0, b1] wv u1 R1) (hl0 : D.l0 = false) (hl1 : D.l1 = false)
  (hb0 : ∀ a, Fre R0 a → a < D.s0.length) (hb1 : ∀ a, Fre R1 a → a < D.s1.length) (hws : D.ws.length ≤ 900000) (htx : 0 ≤ T.txg ∧ T.txg ≤ 1099511627776)
  (dl : List Int) (x : V) (sx : Sl h 1 x (ints dl)) (hdl : ∀ d ∈ dl, d = 0 ∨ d = 1) (hn1 : 1 ≤ dl.length) (hn2 : dl.length ≤ 2) (hdd : ∀ a c, dl = [a, c] → a ≠ c) (t : List Nat) (ht : t.length ≤ 960) :
  Ans C 64 [.ptr (some (s, 0)), .str t, x] h (PutR hB h s b b0 b1 wv D T t u0 u1 (tk R0 R1 dl dl.length)) := by
 have hw := gB.wf
 obtain ⟨lb, lb0, lb1⟩ := d.lt hw
 have ls := cs.lt hw
 have nb1 : hB.size ≤ h.size := gB.size
 have hoff : ∀ c, h.size ≤ c → Off wv c := fun c hc => d.W.offNew hw hc
 have hF : C.F 64 = some a64 := S.f rfl
 unfold a64 at hF
 refine Ans.loc hSm (S.s _ _ _ rfl) hF rfl rfl hw (fun h2 g2 hs2 hg2 => ?_) (fun v h1 hl hr _ => ?_)
 rotate_left
 ·cases hq : tk R0 R1 dl dl.length with
  | none => rw [hq] at hr; exact ⟨hr.1, Grow.refl hw⟩
  | some q =>
   obtain ⟨l, A, B⟩ := q
   rw [hq] at hr
   exfalso
   obtain ⟨_, _, wv', _, _, d', _⟩ := hr
   have e1 := (Cl.of_get d'.B (hl b lb)).inj d.B
   have e2 : wv' = wv := by simp at e1; exact e1.2.2.2.2
   rw [e2] at d'
   have e3 := d'.W.same_len d.W
   have e4 := (tk_ok f0.ok f1.ok hq).2.2.1
   simp only [Dv.more, wrs, List.length_append, List.length_map] at e3
   dsimp only at e4
   omega
 clear hF
 have cs2 := cs.grow g2
 refine WC.seqO (omv rfl <| omv rfl <| WO.nil <| WC.seqO <| omv rfl <| WO.nil <| WC.seqO ?_)
 have q67 : h2.rds s (0 + 6) 2 = some [u0, u1] := Cl.rdsAt cs2 (o := 6) (n := 2) (by simp [stC])
 refine omv rfl <| onk rfl <| ofa rfl <| WO.ops (StepK.loadN rfl q67) <| WO.ops StepK.alloc ?_
 obtain ⟨h3, w3, g3, _, r3⟩ := box_two (x := .slice none 0 0) (y := .slice none 0 0) (u := u0) (w := u1) g2 f0.one f1.one
 have c9 : Cl h3 h2.size [u0, u1] := ⟨_, r3⟩
 have hp9 : h.size ≤ h2.size := g2.size
 generalize h2.size = p9 at *
 refine WO.op (StepK.store rfl rfl rfl w3) <| WO.nil <| WC.seq <| WC.seqO ?_
 have hxl : slLen x = some dl.length := by have := sx.len; simpa [ints] using this
 refine omv rfl <| ols rfl hxl <| omv rfl <| WO.nil <| WC.block ?_
 have l9 : p9 < h3.size := c9.lt g3.wf
 refine WC.loop (σ := Nat × V) (fun q => [(0, .ptr (some (s, 0))), (1, .str t), (8, q.2), (9, .ptr (some (p9, 0))), (21, x), (22, iv dl.length), (23, iv q.1)])
  (fun q h' => q.1 ≤ dl.length ∧ Grow h h' ∧ ∃ w0 w1 l A B, Cl h' p9 [w0, w1] ∧ tk R0 R1 dl q.1 = some (l, A, B) ∧ Sl h' 2 w0 (A.map rn) ∧ Sl h' 2 w1 (B.map rn) ∧ Grown h' h.size 2 q.2 (l.map rn) ∧ Off q.2 p9 ∧
   (A ≠ [] → ∀ c, blkOf w0 = some c → (blkOf u0 = some c ∨ h.size ≤ c) ∧ c ≠ p9 ∧ Off q.2 c) ∧ (B ≠ [] → ∀ c, blkOf w1 = some c → (blkOf u1 = some c ∨ h.size ≤ c) ∧ c ≠ p9 ∧ Off q.2 c)) (fun q => dl.length - q.1) (0, .slice none 0 0)
  (Cov.cons rfl (Cov.cons rfl (Cov.cons rfl (Cov.cons rfl (Cov.cons rfl (Cov.cons rfl (Cov.cons rfl (Cov.nil _)))))))) ⟨Nat.zero_le _, g3, u0, u1, [], R0, R1, c9, rfl, f0.sl.grow g3, f1.sl.grow g3, Grown.nil _ _ _, Off.nil _,
   fun hne c hc => ⟨.inl hc, by have := f0.sl.blk_lt hw (by simpa using hne) c hc; omega, Off.nil _⟩, fun hne c hc => ⟨.inl hc, by have := f1.sl.blk_lt hw (by simpa using hne) c hc; omega, Off.nil _⟩⟩ ?_
 rintro ⟨j, y⟩ h4 ⟨hj, g4, w0, w1, l, A, B, k9, hk, sA, sB, gy, oy9, hb0', hb1'⟩
 dsimp only at hj hk gy oy9 hb0' hb1'
 obtain ⟨oA, oB, hll, hlb⟩ := tk_ok f0.ok f1.ok hk
 dsimp only at oA oB hll hlb
 have d4 := d.grow g4
 have cs4 := cs.grow g4
 refine WC.seqO ?_
 by_cases hlt : j < dl.length
 ·refine obn rfl rfl (ltT (by omega)) (WO.nil (WC.seq (WC.cond rfl (fun hc => WC.skip ?_) (fun hc => by cases hc))))
  obtain ⟨c, of, k1, k2⟩ := (sx.grow g4).at (i := j) (by simpa [ints] using hlt)
  rw [ints_at hlt] at k2
  have rk : h4.rd c of = some (iv dl[j]) := rds_rd k2 (j := 0) rfl
  have hdj := hdl _ (List.getElem_mem hlt)
  have hgd : dl.getD j 0 = dl[j] := by rw [List.getD_eq_getElem?_getD, List.getElem?_eq_getElem hlt]; rfl
  have hk1 : tk R0 R1 dl (j + 1) = tkStep dl[j] l A B := by rw [tk_succ hk, hgd]
  generalize dl[j] = dd at *
  obtain ⟨kd, w, W, hkd, i1, i2, sW, oW, hW1, hbW⟩ : ∃ (kd : Nat) (w : V) (W : List (Int × Int)), dd = kd ∧ idxArrA 2 1 (.ptr (some (p9, 0))) (iv dd) = some (.ptr (some (p9, kd))) ∧ h4.rd p9 kd = some w ∧ Sl h4 2 w (W.map rn) ∧ RunOk W ∧ W = (if dd = 0 then A else B) ∧ kd < 2 := by
   rcases hdj with rfl | rfl
   ·exact ⟨0, w0, A, rfl, rfl, k9.rd rfl, sA, oA, rfl, by decide⟩
   ·exact ⟨1, w1, B, rfl, rfl, k9.rd rfl, sB, oB, rfl, by decide⟩
  refine WC.seq (WC.block (WC.seqO ?_))
  refine WO.ops (StepK.idxSl rfl rfl k1) <| old rfl rk <| omv rfl <| WO.nil <| WC.seqO <| omv rfl <| WO.ops (StepK.idxArr rfl rfl i1) <| old rfl i2 ?_
  have hcall := spTake_ans S h4 g4.wf w W 1 sW oW.each (by have := oW.len; omega)
  cases hWc : W with
  | nil =>
   subst hWc
   rw [spTake_nil oW] at hcall
   refine WO.call rfl rfl hcall ?_
   rintro _ h5 ⟨u, rfl, su, g45, nu⟩
   have g5 := g4.trans g45
   have k95 := k9.grow g45
   have d5 := d.grow g5
   refine omv rfl <| oex rfl rfl <| oex rfl rfl <| oex rfl rfl <| omv rfl <| omv rfl <| omv rfl <| WO.nil <| WC.seq <| WC.seqO ?_
   refine omv rfl <| ont rfl <| omv rfl ?_
   (repeat (first | refine omv rfl ?_ | refine ols rfl (by first | with_reducible assumption | rfl) ?_ | refine ofa rfl ?_ | refine oad rfl rfl (by omega) ?_ | refine osb rfl rfl (by omega) ?_ | refine obn rfl rfl rfl ?_ | refine opt rfl rfl ?_ | refine opf rfl rfl ?_ | refine ont rfl ?_ | refine oeq rfl rfl rfl ?_ | refine oex rfl rfl ?_ | refine obu rfl rfl ?_ | refine ofd rfl rfl ?_ | refine olt rfl ?_ | refine onk rfl ?_ | refine old rfl (by first | with_reducible assumption | rfl) ?_ | refine WO.run rfl ?_ | refine WO.skip rfl rfl ?_ | refine WO.skipu rfl ?_))
   refine WO.nil (WC.cond rfl (fun hc => WC.seqO (omv rfl <| omv rfl <| WO.nil <| WC.ret ?_)) (fun hc => by cases hc))
   have hkn : tk R0 R1 dl dl.length = none := by
    refine tk_none (j := j + 1) ?_ (by omega)
    rw [hk1]
    unfold tkStep
    by_cases h0 : dd = 0
    ·rw [if_pos h0] at hW1 ⊢; rw [← hW1]
    ·rw [if_neg h0] at hW1 ⊢; rw [← hW1]
   refine ⟨trivial, .tuple [.str [], iv 6], rfl, fun n => ?_⟩
   rw [hkn]
   exact ⟨rfl, g5.low1 n⟩
  | cons r W' =>
   subst hWc
   rw [spTake_cons oW] at hcall
   refine WO.call rfl rfl hcall ?_
   rintro _ h5 ⟨u, rfl, su, g45, nu⟩
   have g5 := g4.trans g45
   have k95 := k9.grow g45
   have d5 := d.grow g5
   refine omv rfl <| oex rfl rfl <| oex rfl rfl <| oex rfl rfl <| omv rfl <| omv rfl <| omv rfl <| WO.nil <| WC.seq <| WC.seqO ?_
   dsimp only at su nu
   have hdv : isDev dd = true := by rcases hdj with q | q <;> rw [q] <;> rfl
   have hld : D.l dd = false := by rcases hdj with q | q <;> rw [q] <;> assumption
   refine omv rfl <| ont rfl <| omv rfl <| WO.run rfl <| omv rfl <| WO.run rfl <| onk rfl <| WO.run rfl <| ofa rfl <| WO.run rfl <| old rfl ((cs.grow g5).rd (i := 0) rfl) <| WO.run rfl <| omv rfl <| WO.run rfl ?_
   refine WO.call rfl rfl (lost_ans S h5 g5.wf b b0 b1 wv D (Cl.grow d.B g5) dd) ?_
   rintro _ h6 ⟨rfl, g56⟩
   rw [hld, Bool.and_false]
   have g6 := g5.trans g56
   refine opf rfl rfl <| WO.nil <| WC.cond rfl (fun hc => by cases hc) (fun hc => WC.skip (WC.ops ?_))
   refine omv rfl <| omv rfl <| omv rfl <| omv rfl <| obu rfl rfl <| WO.ops (StepK.buildSl rfl rfl) ?_
   have gp := (Grow.refl g6.wf).push (.cells [iv dd, iv r.1] (.tip [] 0 none))
   have hnew : (h6.push (.cells [iv dd, iv r.1] (.tip [] 0 none))).get h6.size = some (.cells [iv dd, iv r.1] (.tip [] 0 none)) := get_push_self _ _
   change WO C _ _ (h6.push (.cells [iv dd, iv r.1] (.tip [] 0 none))) _
   have g47 := (g45.trans g56).trans gp
   have g7 := g6.trans gp
   have gy7 := gy.grow g47
   have g57 := g56.trans gp
   generalize h6.push (.cells [iv dd, iv r.1] (.tip [] 0 none)) = h7 at *
   have hl2 : l.length ≤ 2 := by omega
   obtain ⟨y', h8, a1, a2, a3, a4, a5⟩ := Grown.append2 (bytes := 16) (tyK := none) hw g7 gy7 (sl_one hnew rfl) (by decide) (by decide) (by rw [List.length_map]; exact decide_eq_true (by simp; omega)) (fun c hc v hv => by
    obtain rfl := List.mem_singleton.1 hc
    simp at hv; rcases hv with rfl | rfl <;> rfl)
   refine WO.ops (StepK.append rfl rfl a1) <| omv rfl <| omv rfl <| WO.ops (StepK.idxArr rfl rfl i1) ?_
   have s47 := g47.size
   have s45 := g45.size
   have s57 := g57.size
   have s04 := g4.size
   have hl9 : p9 < h4.size := k9.lt g4.wf
   have k97 := Cl.frm (k9.grow g47) a4 oy9
   obtain ⟨h9, b1', b2', b3', b4'⟩ := k97.set a3.wf (i := kd) (by simpa using hbW) (v := u) su.one
   refine WO.op (StepK.store (v := u) rfl rfl (by rw [one_cells su.one]; rfl) (by rw [one_cells su.one]; exact b1')) <| WO.nil <| WC.ops ?_
   have hbu : ∀ c, blkOf u = some c → h4.size ≤ c := fun c hc => by
    refine Decidable.byContradiction fun hlt' => ?_
    have hsc : u.scopd h4.size = true := by
     cases u with
     | slice a n m =>
      cases a with
      | none => rfl
      | some a => obtain ⟨bb, oo⟩ := a; cases hc; simp [V.scopd]; omega
     | oslice bb oo n m z => cases hc; simp [V.scopd]; omega
     | _ => cases hc
    obtain ⟨rfl, _⟩ := nu hsc
    cases hc
   have hble : (tl1 (r :: W')).map rn ≠ [] → ∀ c, blkOf u = some c → c < h5.size := fun hne => su.blk_lt g45.wf hne
   have oy : ∀ c, h4.size ≤ c → Off y c := fun c hc => gy.offNew g4.wf hc
   have sz9 := b3'.size
   have sz8 := append_size a1
   have g9 : Grow h h9 := b3'.newGrow a3 hw (by simpa using hp9)
   have keep : ∀ (v : V) (E : List (Int × Int)), Sl h4 2 v (E.map rn) → (E ≠ [] → ∀ c, blkOf v = some c → c ≠ p9 ∧ Off y c) → Sl h9 2 v (E.map rn) := fun v E sv hv => by
    by_cases hE : E = []
    ·subst hE; exact sv.nilKeep
    ·exact (sv.grow g47).keepB fun c hc ob hob => b3'.keep c ob (by simpa using (hv hE c hc).1) (a4 c ob hob (hv hE c hc).2)
   have su9 : Sl h9 2 u ((tl1 (r :: W')).map rn) := (su.grow g57).keepB fun c hc ob hob => b3'.keep c ob (by have := hbu c hc; simp; omega) (a4 c ob hob (oy c (hbu c hc)))
   have gy9 := a2.chg b3' (fun c hc => by rw [List.mem_singleton.1 hc]; exact a5 p9 (by omega) oy9)
   have oy9' := a5 p9 (by omega) oy9
   have huI : tl1 (r :: W') ≠ [] → ∀ c, blkOf u = some c → h.size ≤ c ∧ c ≠ p9 ∧ Off y' c := fun hne c hc => by
    have h1 := hbu c hc
    have h2 := hble (by simpa using hne) c hc
    exact ⟨by omega, by omega, a5 c (by omega) (oy c h1)⟩
   have hwI : ∀ (v v0 : V) (E : List (Int × Int)), Sl h4 2 v (E.map rn) → (E ≠ [] → ∀ c, blkOf v = some c → (blkOf v0 = some c ∨ h.size ≤ c) ∧ c ≠ p9 ∧ Off y c) → E ≠ [] → ∀ c, blkOf v = some c → (blkOf v0 = some c ∨ h.size ≤ c) ∧ c ≠ p9 ∧ Off y' c := fun v v0 E sv hv hne c hc => by
    have h2 := sv.blk_lt g4.wf (by simpa using hne) c hc
    exact ⟨(hv hne c hc).1, (hv hne c hc).2.1, a5 c (by omega) (hv hne c hc).2.2⟩
   by_cases h0 : dd = 0
   ·have hA : A = r :: W' := by rw [if_pos h0] at hW1; exact hW1.symm
    obtain rfl : kd = 0 := by omega
    refine oad rfl rfl (by omega) <| omv rfl (WO.nil ⟨(j + 1, y'), ?_, ⟨hlt, g9, u, w1, l ++ [(0, r.1)], tl1 (r :: W'), B, b2', ?_, su9, keep w1 B sB (fun hne c hc => (hb1' hne c hc).2), ?_, oy9', fun hne c hc => ⟨.inr (huI hne c hc).1, (huI hne c hc).2⟩, hwI w1 u1 B sB hb1'⟩, by dsimp only; omega⟩)
    ·exact Cov.cons rfl (Cov.cons rfl (Cov.cons rfl (Cov.cons rfl (Cov.cons rfl (Cov.cons rfl (Cov.cons rfl (Cov.nil _)))))))
    ·show tk R0 R1 dl (j + 1) = _
     rw [hk1]; unfold tkStep; rw [if_pos h0, hA]
    ·rw [List.map_append]; rw [h0] at gy9; exact gy9
   ·have hB' : B = r :: W' := by rw [if_neg h0] at hW1; exact hW1.symm
    have h1 := hdj.resolve_left h0
    obtain rfl : kd = 1 := by omega
    refine oad rfl rfl (by omega) <| omv rfl (WO.nil ⟨(j + 1, y'), ?_, ⟨hlt, g9, w0, u, l ++ [(1, r.1)], A, tl1 (r :: W'), b2', ?_, keep w0 A sA (fun hne c hc => (hb0' hne c hc).2), su9, ?_, oy9', hwI w0 u0 A sA hb0', fun hne c hc => ⟨.inr (huI hne c hc).1, (huI hne c hc).2⟩⟩, by dsimp only; omega⟩)
    ·exact Cov.cons rfl (Cov.cons rfl (Cov.cons rfl (Cov.cons rfl (Cov.cons rfl (Cov.cons rfl (Cov.cons rfl (Cov.nil _)))))))
    ·show tk R0 R1 dl (j + 1) = _
     rw [hk1]; unfold tkStep; rw [if_neg h0, hB']
    ·rw [List.map_append]; rw [h1] at gy9; exact gy9
 ·obtain rfl : j = dl.length := by omega
  refine obn rfl rfl (ltF (by omega)) (WO.nil (WC.seq (WC.cond rfl (fun hc => by cases hc) (fun hc => WC.exit ?_))))
  show WC C _ _ _ _
  refine WC.seq (WC.draw ?_)
  obtain ⟨u1f, u2f, u3f⟩ := tk_fre f0.ok f1.ok hk
  dsimp only at u1f u2f u3f
  refine dmv rfl <| dnk rfl <| dfa rfl <| WD.load1 rfl (cs4.rd (i := 0) rfl) <| dmv rfl <| dmv rfl <| dmv rfl <| dnk rfl <| dfa rfl <| WD.load1 rfl (cs4.rd (i := 8) rfl) ?_
  refine WD.alloc rfl StepK.alloc ?_
  have gp := (Grow.refl g4.wf).push (.cells [.slice none 0 0, iv 0, iv 0, .str []] (.tip [] 0 none))
  have e15 : (h4.push (.cells [.slice none 0 0, iv 0, iv 0, .str []] (.tip [] 0 none))).get h4.size = some (.cells [.slice none 0 0, iv 0, iv 0, .str []] (.tip [] 0 none)) := get_push_self _ _
  have c15 : Cl (h4.push (.cells [.slice none 0 0, iv 0, iv 0, .str []] (.tip [] 0 none))) h4.size [.slice none 0 0, iv 0, iv 0, .str []] := Cl.new _ _ _
  have hb4 : h.size ≤ h4.size := g4.size
  have l94 : p9 < h4.size := k9.lt g4.wf
  have l154 := c15.lt gp.wf
  have hp15 : h4.size ≤ h4.size := Nat.le_refl _
  generalize h4.push (.cells [.slice none 0 0, iv 0, iv 0, .str []] (.tip [] 0 none)) = h5 at *
  generalize hp : h4.size = p15 at hp15 c15 l154 e15 ⊢
  have cs5 := cs4.grow gp
  have e0 : h5.rd s (0 + 0) = some (.ptr (some (b, 0))) := cs5.rd (i := 0) rfl
  have e8 : h5.rd s (0 + 8) = some (iv T.txg) := cs5.rd (i := 8) rfl
  have g5 := g4.trans gp
  have gy5 := gy.grow gp
  have hll' : l.length = dl.length := hll
  have hds := tk_distinct hdl (Nat.le_refl _) hk
  dsimp only at hds
  have ok : (refP l t T.txg).ok := ⟨by show 1 ≤ l.length; omega, by show l.length ≤ 2; omega, fun q hq => ⟨(hlb q hq).1, by have := (hlb q hq).2; omega⟩, fun a c hac => by
    have hac : l = [a, c] := hac
    rw [hac] at hds
    rw [List.take_length] at hds
    exact hdd _ _ hds.symm, by show (0 : Int) ≤ t.length ∧ (t.length : Int) ≤ 960; omega, htx, by show (ofF t).length = 32; exact ofF_len t⟩
  have hlc : ∀ q ∈ l, q.2 < (D.s q.1).length ∧ D.l q.1 = false := fun q hq => by
   rcases u3f q hq with ⟨e, f⟩ | ⟨e, f⟩
   ·rw [e]; exact ⟨hb0 _ f, hl0⟩
   ·rw [e]; exact ⟨hb1 _ f, hl1⟩
  refine WD.call (by repeat (first | exact trivial | refine ⟨by with_reducible assumption, ?_⟩)) rfl rfl (bkWrite_ok S hSm hB h5 hw0 (gB.trans g5) ro b b0 b1 wv D (d.grow g5) y (refP l t T.txg) t gy5.sl (fun c hc => ⟨by have := gy5.blk hc; omega, hoff c (gy5.blk hc)⟩) ⟨rfl, rfl⟩ ok hlc hws) ?_
  rintro _ h6 ⟨yy, wv', rfl, gyy, g6, d6, fr6⟩
  have hsb : s ≠ b := fun e => sb (by rw [e]; exact List.mem_cons_self)
  have lsz : s < h4.size := by omega
  have k95 := k9.grow gp
  have k96 : Cl h6 p9 [w0, w1] := fr6.chg k95 (by simp; omega) (hoff p9 (by omega))
  have c156 : Cl h6 p15 [.slice none 0 0, iv 0, iv 0, .str []] := fr6.chg c15 (by simp; omega) (hoff p15 (by omega))
  have e156 : h6.get p15 = some (.cells [.slice none 0 0, iv 0, iv 0, .str []] (.tip [] 0 none)) := fr6.keep _ _ e15 (by simp; omega) (hoff p15 (by omega))
  have cs6 : Cl h6 s (stC b T u0 u1) := fr6.chg cs5 (by simp; exact hsb) os
  refine dmv rfl <| dex rfl rfl <| dex rfl rfl ?_
  have hyo : V.one yy = true := gyy.sl.one
  obtain ⟨h7, v1, v2, v3⟩ := c156.sets g6.wf (i := 0) (us := (refP l t T.txg).v yy) (by simp [Ptr.v]) (by show (V.one yy && true) = true; rw [hyo]; rfl)
  refine WD.opC (by repeat (first | exact trivial | refine ⟨by with_reducible assumption, ?_⟩)) rfl (StepK.store rfl rfl rfl v1) <| dmv rfl <| WD.nil (by repeat (first | exact trivial | refine ⟨by with_reducible assumption, ?_⟩)) ?_
  show WC C _ _ _ _
  refine WC.seq (WC.seqO ?_)
  refine omv rfl <| obn rfl rfl (show binA .neq (iv 0) (iv 0) = some (.bool false) from rfl) <| WO.nil <| WC.cond rfl (fun hc => by cases hc) (fun hc => WC.skip ?_)
  have hs15 : s ≠ p15 := by omega
  have h915 : p9 ≠ p15 := by omega
  have w7 : Wf h7 := v3.1.wf
  have k97 : Cl h7 p9 [w0, w1] := k96.chg v3.1 (by simp; exact h915)
  have cs7 : Cl h7 s (stC b T u0 u1) := cs6.chg v3.1 (by simp; exact hs15)
  have q9 : h7.rds p9 0 2 = some [w0, w1] := Cl.rdsAt k97 (o := 0) (n := 2) (by simp)
  refine WC.seqO (omv rfl <| WO.ops (StepK.loadN rfl q9) <| onk rfl <| ofa rfl ?_)
  obtain ⟨h8, y1, y2, y3, y4⟩ := cs7.sets w7 (i := 6) (us := [w0, w1]) (by simp [stC]) (by show (V.one w0 && (V.one w1 && true)) = true; rw [sA.one, sB.one]; rfl)
  refine WO.op (StepK.store rfl rfl rfl y1) <| WO.nil <| WC.seqO ?_
  have c158 : Cl h8 p15 ((refP l t T.txg).v yy) := Cl.chg v2 y3 (by simp; exact Ne.symm hs15)
  have q15 : h8.rds p15 0 4 = some ((refP l t T.txg).v yy) := Cl.rdsAt c158 (o := 0) (n := 4) (by simp [Ptr.v])
  refine WO.ops (StepK.loadN rfl q15) ?_
  have w8 : Wf h8 := y3.wf
  have sy8 : Sl h8 2 yy (l.map rn) := by
   refine gyy.sl.keepB fun c hc ob hob => ?_
   have hc5 := gyy.blk hc
   exact y3.keep c ob (by simp; omega) (v3.1.keep c ob (by simp; omega) hob)
  refine WO.call rfl rfl (ptEncode_ok S h8 w8 (refP l t T.txg) ok (ofF_byt t) yy sy8) ?_
  rintro _ h9 ⟨rfl, g89⟩
  refine oex rfl rfl <| oex rfl rfl <| omv rfl <| omv rfl <| WO.nil <| WC.ret ⟨trivial, .tuple [.str (encP (refP l t T.txg)), iv 0], rfl, fun n => ?_⟩
  rw [hk]
  have ow15 : Off wv' p15 := fr6.off p15 (by omega) (hoff p15 (by omega))
  have ows : Off wv' s := fr6.off s (by have := gp.size; omega) os
  have gB7 := v3.1.newGrow g6 hw0 (fun c hc => by obtain rfl := List.mem_singleton.1 hc; omega)
  have gB8 := y3.newGrow gB7 hw0 (fun c hc => by obtain rfl := List.mem_singleton.1 hc; omega)
  have d7 := d6.chg v3.1 (fun c hc => by obtain rfl := List.mem_singleton.1 hc; exact ⟨by simp; omega, ow15⟩)
  have d8 := d7.chg y3 (fun c hc => by obtain rfl := List.mem_singleton.1 hc; exact ⟨sb, ows⟩)
  have d9 := d8.grow g89
  have y2 : Cl h8 s (stC b T w0 w1) := y2
  have c9s := y2.grow g89
  have s89 := g89.size
  have s56 := fr6.size
  have blkOf' : ∀ (R E : List (Int × Int)) (u w : V), (E ≠ [] → R ≠ []) → (R ≠ [] → ∀ c, blkOf u = some c → c ∉ [s, b, b0, b1] ∧ Off wv c) → Sl h4 2 w (E.map rn) → (E ≠ [] → ∀ c, blkOf w = some c → (blkOf u = some c ∨ h.size ≤ c) ∧ c ≠ p9 ∧ Off y c) → E ≠ [] → ∀ c, blkOf w = some c → c ∉ [s, b, b0, b1] ∧ Off wv c ∧ c < p15 := fun R E u w h1 h2 h3 h4' hE c hc => by
   have hlt := h3.blk_lt g4.wf (by simpa using hE) c hc
   rcases (h4' hE c hc).1 with e | e
   ·exact ⟨(h2 (h1 hE) c e).1, (h2 (h1 hE) c e).2, by omega⟩
   ·exact ⟨by simp; omega, hoff c e, by omega⟩
  have slx : ∀ (w : V) (E : List (Int × Int)), Sl h4 2 w (E.map rn) → (E ≠ [] → ∀ c, blkOf w = some c → c ∉ [s, b, b0, b1] ∧ Off wv c ∧ c < p15) → Sl h9 2 w (E.map rn) := fun w E q1 q2 => by
   by_cases hE : E = []
   ·subst hE; exact q1.nilKeep
   ·refine Sl.grow ((q1.grow gp).keepB fun c hc ob hob => ?_) g89
    have k := q2 hE c hc
    have kb := k.1
    simp only [List.mem_cons, List.not_mem_nil, or_false, not_or] at kb
    exact y3.keep c ob (by simp; exact kb.1) (v3.1.keep c ob (by simp; omega) (fr6.keep c ob hob (by simp; exact kb.2.1) k.2.1))
  have hne0 : A ≠ [] → R0 ≠ [] := fun h0 e => by
   obtain ⟨r, A', rfl⟩ := List.exists_cons_of_ne_nil h0
   obtain ⟨x, hx, _⟩ := u1f _ (fre_hd oA)
   rw [e] at hx; cases hx
  have hne1 : B ≠ [] → R1 ≠ [] := fun h0 e => by
   obtain ⟨r, A', rfl⟩ := List.exists_cons_of_ne_nil h0
   obtain ⟨x, hx, _⟩ := u2f _ (fre_hd oB)
   rw [e] at hx; cases hx
  have bA := blkOf' R0 A u0 w0 hne0 f0.blk sA hb0'
  have bB := blkOf' R1 B u1 w1 hne1 f1.blk sB hb1'
  have off6 : ∀ c, c < p15 → Off wv c → Off wv' c := fun c h1 h2 => fr6.off c (by omega) h2
  refine ⟨rfl, (gB8.trans g89).low1 n, wv', w0, w1, { d9 with B := d9.B, S0 := d9.S0, S1 := d9.S1, W := d9.W.same (fun _ => rfl) }, c9s, ⟨(slx w0 A sA bA).grow ((Grow.refl g89.wf).low1 n), oA, fun hE c hc => ⟨(bA hE c hc).1, off6 c (bA hE c hc).2.2 (bA hE c hc).2.1⟩, sA.one⟩, ⟨(slx w1 B sB bB).grow ((Grow.refl g89.wf).low1 n), oB, fun hE c hc => ⟨(bB hE c hc).1, off6 c (bB hE c hc).2.2 (bB hE c hc).2.1⟩, sB.one⟩, ?_, ows, fun hE c hc => (hb0' hE c hc).1, fun hE c hc => (hb1' hE c hc).1⟩
  refine ⟨?_, fun c ob q1 q2 q3 => ?_, fun c q1 q2 => fr6.off c (by have := g5.size; omega) q2⟩
  ·show h.size ≤ h9.size
   have := g5.size; have := v3.2; omega
  ·have hlt := Wf.lt hw q1
   simp only [List.mem_cons, List.not_mem_nil, or_false, not_or] at q2
   exact g89.ext c ob (y3.keep c ob (by simp; exact q2.1) (v3.1.keep c ob (by simp; omega) (fr6.keep c ob (g5.ext c ob q1) (by simp; exact q2.2) q3)))
end
end Abs
end Go.Proofs.YtdebiolekbldiaaGreatDoor
namespace Go.Proofs.YtdebiolekbldiaaGreatDoor
namespace Abs
set_option linter.unusedVariables false
set_option linter.unusedSimpArgs false
open Go.RowKit
attribute [local irreducible] WO WC WD StepK Ans Does Runs DoesD
structure StAt (hB h : Heap) (s b b0 b1 : Nat) (wv : V) (D : Dv) (T : SV) (u0 u1 : V) (R0 R1 : List (Int × Int)) : Prop where
 g : Grow hB h
 d : DevAt hB.size h b b0 b1 wv D
 cs : Cl h s (stC b T u0 u1)
 ns : hB.size ≤ s
 sb : s ∉ [b, b0, b1]
 os : Off wv s
 f0 : FrU h [s, b, b0, b1] wv u0 R0
 f1 : FrU h [s, b, b0, b1] wv u1 R1
 l0 : D.l0 = false
 l1 : D.l1 = false
 hb0 : ∀ a, Fre R0 a → a < D.s0.length
 hb1 : ∀ a, Fre R1 a → a < D.s1.length
 tx : 0 ≤ T.txg ∧ T.txg ≤ 1099511627776
 pk : T.P.ok
theorem FrU.grow {h h' : Heap} {F : List Nat} {wv u : V} {R : List (Int × Int)} (f : FrU h F wv u R) (g : Grow h h') : FrU h' F wv u R := ⟨f.sl.grow g, f.ok, f.blk, f.one⟩
theorem StAt.grow {hB h h' : Heap} {s b b0 b1 : Nat} {wv : V} {D : Dv} {T : SV} {u0 u1 : V} {R0 R1 : List (Int × Int)} (x : StAt hB h s b b0 b1 wv D T u0 u1 R0 R1) (g : Grow h h') : StAt hB h' s b b0 b1 wv D T u0 u1 R0 R1 :=
 { x with g := x.g.trans g, d := x.d.grow g, cs := x.cs.grow g, f0 := x.f0.grow g, f1 := x.f1.grow g }
theorem ret2 {e : List (Nat × V)} {h : Heap} {a b : Nat} {x y : V} (ha : Env.get e a = some x) (hb : Env.get e b = some y) : retE e h [.tmp a, .tmp b] = some (.tuple [x, y]) := by
 simp only [retE, ressE, resE, ha, hb]; rfl
section
variable {C : Cfg} (S : StdO C)
include S
theorem room_ans2 (hB h : Heap) (s b b0 b1 : Nat) (wv : V) (D : Dv) (T : SV) (u0 u1 : V) (R0 R1 : List (Int × Int)) (x : StAt hB h s b b0 b1 wv D T u0 u1 R0 R1) (k : Nat) (hk : k < 2) :
  Ans C 45 [.ptr (some (s, 0)), iv k] h fun r h' => r = iv (cnt (if k = 0 then R0 else R1)) ∧ Grow h h' := by
 have hF : C.F 45 = some a45 := S.f rfl
 unfold a45 at hF
 refine Ans.val (fun _ _ => S.s _ _ _ rfl) hF rfl rfl x.g.wf fun h2 g => ?_
 clear hF
 have x2 := x.grow g
 refine WC.seqO (omv rfl <| WO.nil <| WC.seq <| WC.seqO ?_)
 refine omv rfl <| onk rfl <| ofa rfl <| old rfl (x2.cs.rd (i := 0) rfl) <| omv rfl ?_
 refine WO.call rfl rfl (lost_ans S h2 g.wf b b0 b1 wv D x2.d.B k) ?_
 rintro _ h3 ⟨rfl, g3⟩
 have hl : (isDev (k : Int) && D.l (k : Int)) = false := by
  have : k = 0 ∨ k = 1 := by omega
  rcases this with rfl | rfl
  ·show (_ && D.l0) = false; rw [x.l0, Bool.and_false]
  ·show (_ && D.l1) = false; rw [x.l1, Bool.and_false]
 rw [hl]
 have x3 := x2.grow g3
 have g3' := g.trans g3
 refine WO.nil <| WC.cond rfl (fun hc => by cases hc) (fun hc => WC.skip <| WC.seqO ?_)
 obtain ⟨w, W, q1, q2, q3, q4, q5⟩ : ∃ w W, idxArrA 2 1 (.ptr (some (s, 0 + 6))) (iv k) = some (.ptr (some (s, 6 + k))) ∧ h3.rd s (6 + k) = some w ∧ Sl h3 2 w (W.map rn) ∧ RunOk W ∧ W = if k = 0 then R0 else R1 := by
  have : k = 0 ∨ k = 1 := by omega
  rcases this with rfl | rfl
  ·exact ⟨u0, R0, rfl, x3.cs.rd rfl, x3.f0.sl, x3.f0.ok, rfl⟩
  ·exact ⟨u1, R1, rfl, x3.cs.rd rfl, x3.f1.sl, x3.f1.ok, rfl⟩
 refine omv rfl <| omv rfl <| onk rfl <| ofa rfl <| WO.ops (StepK.idxArr rfl rfl q1) <| old rfl q2 ?_
 refine WO.call rfl rfl (spTotal_ans S h3 g3'.wf w W q3 q4.each (by have := q4.len; omega)) ?_
 rintro _ h4 ⟨rfl, g4⟩
 rw [q4.tot, q5]
 exact omv rfl <| WO.nil <| WC.ret ⟨trivial, g3'.trans g4, rfl⟩
theorem free_ans (hB h : Heap) (s b b0 b1 : Nat) (wv : V) (D : Dv) (T : SV) (u0 u1 : V) (R0 R1 : List (Int × Int)) (x : StAt hB h s b b0 b1 wv D T u0 u1 R0 R1) :
  Ans C 17 [.ptr (some (s, 0))] h fun r h' => r = .tuple [iv (cnt R0), iv (cnt R1)] ∧ Grow h h' := by
 have hF : C.F 17 = some a17 := S.f rfl
 unfold a17 at hF
 refine Ans.val (fun _ _ => S.s _ _ _ rfl) hF rfl rfl x.g.wf fun h2 g => ?_
 clear hF
 have x2 := x.grow g
 refine WC.seqO (omv rfl <| omv rfl <| WO.nil <| WC.seq <| WC.seqO ?_)
 refine omv rfl <| oeq rfl rfl (t := false) rfl <| WO.nil <| WC.cond rfl (fun hc => by cases hc) (fun hc => WC.skip <| WC.seqO <| omv rfl ?_)
 refine WO.call rfl rfl (room_ans2 S hB h2 s b b0 b1 wv D T u0 u1 R0 R1 x2 0 (by decide)) ?_
 rintro _ h3 ⟨rfl, g3⟩
 refine omv rfl <| WO.call rfl rfl (room_ans2 S hB h3 s b b0 b1 wv D T u0 u1 R0 R1 (x2.grow g3) 1 (by decide)) ?_
 rintro _ h4 ⟨rfl, g4⟩
 exact omv rfl <| omv rfl <| WO.nil <| WC.ret ⟨trivial, (g.trans g3).trans g4, rfl⟩
end
end Abs
end Go.Proofs.YtdebiolekbldiaaGreatDoor
namespace Go.Proofs.YtdebiolekbldiaaGreatDoor
namespace Abs
set_option linter.unusedVariables false
set_option linter.unusedSimpArgs false
open Go.RowKit
attribute [local irreducible] WO WC WD StepK Ans Does Runs DoesD
/-! ### Sectors that are taken -/
theorem leT {a b : Int} (h : a ≤ b) : binA .leq (iv a) (iv b) = some (.bool true) := by simp [binA, iv, h]
theorem leF {a b : Int} (h : ¬ a ≤ b) : binA .leq (iv a) (iv b) = some (.bool false) := by simp [binA, iv]; omega
def flg (n : Nat) (f : Nat → Bool) : List Bool := (List.range n).map f
theorem flg_len (n : Nat) (f : Nat → Bool) : (flg n f).length = n := by simp [flg]
theorem flg_congr {n : Nat} {f g : Nat → Bool} (h : ∀ a, a < n → f a = g a) : flg n f = flg n g := by
 unfold flg
 exact List.map_congr_left fun a ha => h a (List.mem_range.1 ha)
theorem flg_set {n : Nat} {f : Nat → Bool} {i : Nat} (hi : i < n) : (flg n f).set i true = flg n (fun a => f a || decide (a = i)) := by
 refine List.ext_getElem (by simp [flg]) fun j h1 h2 => ?_
 simp only [flg, List.length_set, List.length_map, List.length_range] at h1
 simp only [List.getElem_set, flg, List.getElem_map, List.getElem_range]
 by_cases e : i = j
 ·rw [if_pos e]; subst e; simp
 ·rw [if_neg e]; rw [decide_eq_false (fun q => e q.symm), Bool.or_false]
theorem reps_bool : ∀ n : Nat, reps n [V.bool false] = (flg n fun _ => false).map V.bool := by
 intro n
 have : ∀ n, reps n [V.bool false] = List.replicate n (V.bool false) := by
  intro n
  induction n with
  | zero => rfl
  | succ n ih => simp only [reps, List.replicate_succ, ih]; rfl
 rw [this]
 refine List.ext_getElem (by simp [flg]) fun j h1 h2 => by simp [flg]
theorem make_bools (h : Heap) (n : Nat) (hn : n ≤ 1000) : makeSlA h 1 1 [.bool false] (iv n) (iv n) = some (.slice (some (h.size, 0)) n n, h.push (.cells ((flg n fun _ => false).map V.bool) (.tip [] 0 none))) := by
 simp only [makeSlA, iv]
 rw [if_pos (by omega), Int.toNat_natCast, reps_bool]
def Fl (h : Heap) (q n : Nat) (f : Nat → Bool) : Prop := Cl h q ((flg n f).map V.bool)
theorem Fl.sl {h : Heap} {q n : Nat} {f : Nat → Bool} (a : Fl h q n f) : Sl h 1 (.slice (some (q, 0)) n n) ((flg n f).map fun u => [.bool u]) := by
 obtain ⟨ty, a⟩ := a
 refine Sl.of_new a (fun c hc => by obtain ⟨u, _, rfl⟩ := List.mem_map.1 hc; rfl) (by simp [flg]) ?_
 induction flg n f with
 | nil => rfl
 | cons u l ih => simp only [List.map_cons, List.flatten_cons]; rw [ih]; rfl
theorem fl_idx {q n i : Nat} (hi : i < n) : idxSlA 1 (.slice (some (q, 0)) n n) (iv i) = some (.ptr (some (q, i))) := by
 simp only [idxSlA, intV, iv]
 rw [if_pos ⟨by omega, by omega⟩]; simp
theorem Fl.set {h : Heap} (hw : Wf h) {q n : Nat} {f g : Nat → Bool} (a : Fl h q n f) {i : Nat} (hi : i < n) (hg : ∀ a, a < n → g a = (f a || decide (a = i))) :
  ∃ h', h.wr q i [.bool true] = some h' ∧ Fl h' q n g ∧ Chg [q] h h' ∧ h'.size = h.size := by
 obtain ⟨h', p1, p2, p3, p4⟩ := Cl.set hw a (i := i) (by simpa [flg] using hi) (v := .bool true) rfl
 refine ⟨h', p1, ?_, p3, p4⟩
 unfold Fl
 rw [flg_congr hg, ← flg_set hi, List.map_set]
 exact p2
def regN (sec : Int) (n : Nat) : Nat := if 2 ≤ sec ∧ sec ≤ (n : Int) - 4 then sec.toNat else 0
theorem regN_le (sec : Int) (n : Nat) : regN sec n ≤ n ∧ (regN sec n ≠ 0 → regN sec n + 4 ≤ n) := by
 unfold regN; split <;> omega
def tkn (reg n : Nat) (d : Int) (us : List (Int × Int)) (a : Nat) : Bool := decide (a < 4) || decide (d = 1 ∧ n - reg ≤ a) || us.contains (d, (a : Int))
def UsOk (m0 m1 : Nat) (us : List (Int × Int)) : Prop := ∀ l ∈ us, (l.1 = 0 ∧ 0 ≤ l.2 ∧ l.2 < (m0 : Int)) ∨ (l.1 = 1 ∧ 0 ≤ l.2 ∧ l.2 < (m1 : Int))
instance (m0 m1 : Nat) (us : List (Int × Int)) : Decidable (UsOk m0 m1 us) := inferInstanceAs (Decidable (∀ l ∈ us, _))
theorem tkn_snoc {reg n : Nat} {d : Int} {us : List (Int × Int)} {l : Int × Int} {a : Nat} : tkn reg n d (us ++ [l]) a = (tkn reg n d us a || (decide (d = l.1) && decide ((a : Int) = l.2))) := by
 obtain ⟨x, y⟩ := l
 have e : (us ++ [(x, y)]).contains (d, (a : Int)) = (us.contains (d, (a : Int)) || (decide (d = x) && decide ((a : Int) = y))) := by
  rw [Bool.eq_iff_iff]
  simp only [List.contains_iff_mem, List.mem_append, List.mem_singleton, Prod.mk.injEq, Bool.or_eq_true, Bool.and_eq_true, decide_eq_true_eq]
 simp only [tkn, e, Bool.or_assoc]
def TM0 (m0 m1 reg : Nat) (us : List (Int × Int)) (d : Int) : List (Int × Int) := spOfF 0 [] (flg (if d = 0 then m0 else m1) (tkn reg (if d = 0 then m0 else m1) d us))
section
variable {C : Cfg} (S : StdO C)
include S
theorem region_ans (h : Heap) (hw : Wf h) (s b b0 b1 : Nat) (wv : V) (D : Dv) (hb : DevB h b b0 b1 wv D) (T : SV) (u0 u1 : V) (cs : Cl h s (stC b T u0 u1)) (hz : D.s1.length ≤ 1000) :
  Ans C 50 [.ptr (some (s, 0))] h fun r h' => r = iv (regN T.P.sec D.s1.length) ∧ Grow h h' := by
 have hF : C.F 50 = some a50 := S.f rfl
 unfold a50 at hF
 refine Ans.val (fun _ _ => S.s _ _ _ rfl) hF rfl rfl hw fun h2 g => ?_
 clear hF
 have c2 := cs.grow g
 refine WC.seqO (omv rfl <| WO.nil <| WC.seq <| WC.seqO ?_)
 refine omv rfl <| onk rfl <| ofa rfl <| ofa rfl <| old rfl (c2.rd (i := 5) rfl) <| omv rfl <| WO.nil <| WC.seqO ?_
 refine omv rfl ?_
 by_cases h1 : 2 ≤ T.P.sec
 rotate_left
 ·refine obn rfl rfl (geF h1) <| omv rfl ?_
  (repeat (first | refine omv rfl ?_ | refine ols rfl (by first | with_reducible assumption | rfl) ?_ | refine ofa rfl ?_ | refine oad rfl rfl (by omega) ?_ | refine osb rfl rfl (by omega) ?_ | refine obn rfl rfl rfl ?_ | refine opt rfl rfl ?_ | refine opf rfl rfl ?_ | refine ont rfl ?_ | refine oeq rfl rfl rfl ?_ | refine oex rfl rfl ?_ | refine obu rfl rfl ?_ | refine ofd rfl rfl ?_ | refine olt rfl ?_ | refine onk rfl ?_ | refine old rfl (by first | with_reducible assumption | rfl) ?_ | refine WO.run rfl ?_ | refine WO.skip rfl rfl ?_ | refine WO.skipu rfl ?_))
  refine WO.nil <| WC.cond rfl (fun hc => by cases hc) (fun hc => WC.skip <| WC.seqO <| omv rfl <| WO.nil <| WC.ret ⟨trivial, g, ?_⟩)
  unfold regN
  rw [if_neg (by omega)]; rfl
 refine obn rfl rfl (geT h1) <| omv rfl <| WO.run rfl <| omv rfl <| WO.run rfl <| omv rfl <| WO.run rfl <| onk rfl <| WO.run rfl <| ofa rfl <| WO.run rfl <| old rfl (c2.rd (i := 0) rfl) <| WO.run rfl ?_
 refine WO.call rfl rfl (size_ans S h2 g.wf b b0 b1 wv D (Cl.grow hb g) 1) ?_
 rintro _ h3 ⟨rfl, g3⟩
 have e1 : (if isDev 1 = true then ((D.s 1).length : Int) else 0) = (D.s1.length : Int) := rfl
 rw [e1]
 refine WO.run rfl <| osb rfl rfl (by omega) <| WO.run rfl ?_
 by_cases h2 : T.P.sec ≤ (D.s1.length : Int) - 4
 ·refine obn rfl rfl (leT h2) <| opt rfl rfl <| WO.nil <| WC.cond rfl (fun hc => WC.seqO <| omv rfl <| omv rfl <| WO.nil <| WC.ret ⟨trivial, g.trans g3, ?_⟩) (fun hc => by cases hc)
  unfold regN
  rw [if_pos ⟨h1, h2⟩]
  show some (iv T.P.sec) = some (iv _)
  congr 2; omega
 ·refine obn rfl rfl (leF h2) <| opt rfl rfl <| WO.nil <| WC.cond rfl (fun hc => by cases hc) (fun hc => WC.skip <| WC.seqO <| omv rfl <| WO.nil <| WC.ret ⟨trivial, g.trans g3, ?_⟩)
  unfold regN
  rw [if_neg (by omega)]; rfl
end
end Abs
end Go.Proofs.YtdebiolekbldiaaGreatDoor
namespace Go.Proofs.YtdebiolekbldiaaGreatDoor
namespace Abs
set_option linter.unusedVariables false
set_option linter.unusedSimpArgs false
open Go.RowKit
attribute [local irreducible] WO WC WD StepK Ans Does Runs DoesD
theorem min_four (n : Nat) : (if (n : Int) < 4 then (n : Int) else 4) = ((min 4 n : Nat) : Int) := by split <;> omega
structure SeJ (h2 h' : Heap) (p q0 q1 m0 m1 : Nat) (f0 f1 : Nat → Bool) : Prop where
 cp : Cl h' p [.slice (some (q0, 0)) m0 m0, .slice (some (q1, 0)) m1 m1]
 f0 : Fl h' q0 m0 f0
 f1 : Fl h' q1 m1 f1
 np : h2.size ≤ p
 n0 : h2.size ≤ q0
 n1 : h2.size ≤ q1
 e0 : q0 ≠ p
 e1 : q1 ≠ p
 e2 : q0 ≠ q1
theorem SeJ.grow {h2 h' h3 : Heap} {p q0 q1 m0 m1 : Nat} {f0 f1 : Nat → Bool} (j : SeJ h2 h' p q0 q1 m0 m1 f0 f1) (g : Grow h' h3) : SeJ h2 h3 p q0 q1 m0 m1 f0 f1 :=
 { j with cp := j.cp.grow g, f0 := Cl.grow j.f0 g, f1 := Cl.grow j.f1 g }
def SetR (h : Heap) (s b : Nat) (T : SV) (tx : Int) (m0 m1 : Nat) (us : List (Int × Int)) (r : V) (h' : Heap) : Prop :=
 r = iv 0 ∧ ∃ u0 u1, Chg [s] h h' ∧ Cl h' s (stC b { T with txg := tx } u0 u1) ∧ Grown h' h.size 2 u0 ((TM0 m0 m1 (regN T.P.sec m1) us 0).map rn) ∧ Grown h' h.size 2 u1 ((TM0 m0 m1 (regN T.P.sec m1) us 1).map rn)
section
variable {C : Cfg} (S : StdO C)
include S
theorem settle_wc (h : Heap) (hw : Wf h) (s b b0 b1 : Nat) (wv : V) (D : Dv) (hb : DevB h b b0 b1 wv D) (T : SV) (u0 u1 : V) (o0 : V.one u0 = true) (o1 : V.one u1 = true) (cs : Cl h s (stC b T u0 u1)) (m0 m1 : Nat) (hm0 : D.s0.length = m0) (hm1 : D.s1.length = m1) (h0 : m0 ≤ 512) (h1 : m1 ≤ 512)
  (y : V) (us : List (Int × Int)) (sy : Sl h 2 y (us.map rn)) (hus : us.length ≤ 1000) (tx : Int) (htx : 0 ≤ tx ∧ tx ≤ 1099511627776) (h2 : Heap) (g2 : Grow h h2) :
  WC C a20.body [(2, iv tx), (1, y), (0, .ptr (some (s, 0)))] h2 fun x e' h' => Fin x ∧ (UsOk m0 m1 us → ∃ r, retE e' h' [.tmp 6] = some r ∧ h'.low ≤ s ∧ SetR h2 s b T tx m0 m1 us r h') ∧ (¬ UsOk m0 m1 us → retE e' h' [.tmp 6] = some (iv 1) ∧ Grow h2 h') := by
 unfold a20
 dsimp only
 have hw2 := g2.wf
 have c2 := cs.grow g2
 have ls : s < h2.size := c2.lt hw2
 have hbl : b < h2.size := (Cl.grow hb g2).lt hw2
 refine WC.seqO (omv rfl <| WO.nil <| WC.seq <| WC.seqO ?_)
 refine omv rfl <| oeq rfl rfl (t := false) rfl <| omv rfl <| WO.run rfl <| omv rfl <| WO.run rfl <| obn rfl rfl (ltF (by omega)) <| opf rfl rfl <| omv rfl <| WO.run rfl <| omv rfl <| WO.run rfl <| obn rfl rfl (gtF (by omega)) <| opf rfl rfl <| WO.nil <| WC.cond rfl (fun hc => by cases hc) (fun hc => WC.skip <| WC.seqO <| WO.ops StepK.alloc ?_)
 have cp : Cl (h2.push (.cells [.slice none 0 0, .slice none 0 0] (.tip [] 0 none))) h2.size [.slice none 0 0, .slice none 0 0] := Cl.new _ _ _
 have g3 := (Grow.refl hw2).push (.cells [.slice none 0 0, .slice none 0 0] (.tip [] 0 none))
 generalize h2.push (.cells [.slice none 0 0, .slice none 0 0] (.tip [] 0 none)) = h3 at *
 obtain ⟨p, hp⟩ : ∃ p, p = h2.size := ⟨_, rfl⟩
 rw [← hp] at cp ⊢
 have lp3 := cp.lt g3.wf
 refine WO.nil <| WC.seq <| WC.seqO <| omv rfl <| WO.nil <| WC.block ?_
 refine WC.loop (σ := Nat) (fun d => [(0, .ptr (some (s, 0))), (1, y), (2, iv tx), (7, .ptr (some (p, 0))), (25, iv d)])
  (fun d h' => d ≤ 2 ∧ Grow h2 h' ∧ ∃ w0 w1, Cl h' p [w0, w1] ∧ (1 ≤ d → ∃ q0, h2.size ≤ q0 ∧ q0 ≠ p ∧ w0 = .slice (some (q0, 0)) m0 m0 ∧ Fl h' q0 m0 (fun a => decide (a < 4))) ∧
   (2 ≤ d → ∃ q1, h2.size ≤ q1 ∧ q1 ≠ p ∧ w1 = .slice (some (q1, 0)) m1 m1 ∧ Fl h' q1 m1 (fun a => decide (a < 4)) ∧ ∀ q0, w0 = .slice (some (q0, 0)) m0 m0 → q0 ≠ q1)) (fun d => 2 - d) 0
  (Cov.cons rfl (Cov.cons rfl (Cov.cons rfl (Cov.cons rfl (Cov.cons rfl (Cov.nil _)))))) ⟨by omega, g3, _, _, cp, fun q => by omega, fun q => by omega⟩ ?_
 rintro d h4 ⟨hd, g4, w0, w1, c4, P0, P1⟩
 refine WC.seqO ?_
 by_cases hlt : d < 2
 ·refine obn rfl rfl (ltT (by omega)) (WO.nil (WC.seq (WC.cond rfl (fun hc => WC.skip ?_) (fun hc => by cases hc))))
  refine WC.seq (WC.block (WC.seqO (omv rfl <| omv rfl <| WO.nil <| WC.seqO ?_)))
  refine omv rfl <| omv rfl <| onk rfl <| ofa rfl <| old rfl ((c2.grow g4).rd (i := 0) rfl) <| omv rfl ?_
  refine WO.call rfl rfl (size_ans S h4 g4.wf b b0 b1 wv D (Cl.grow hb (g2.trans g4)) d) ?_
  rintro _ h5 ⟨rfl, g45⟩
  obtain ⟨n, hn, hnn⟩ : ∃ n : Nat, (if isDev (d : Int) = true then ((D.s (d : Int)).length : Int) else 0) = (n : Int) ∧ n = (if d = 0 then m0 else m1) := by
   have : d = 0 ∨ d = 1 := by omega
   rcases this with rfl | rfl
   ·exact ⟨D.s0.length, rfl, hm0⟩
   ·exact ⟨D.s1.length, rfl, hm1⟩
  rw [hn]
  have hn5 : n ≤ 512 := by rw [hnn]; split <;> assumption
  have g5 := g4.trans g45
  have c5 := c4.grow g45
  refine WO.ops (StepK.makeSl rfl rfl (make_bools h5 n (by omega))) ?_
  have f6 : Fl (h5.push (.cells ((flg n fun _ => false).map V.bool) (.tip [] 0 none))) h5.size n (fun _ => false) := Cl.new _ _ _
  have g56 := (Grow.refl g5.wf).push (.cells ((flg n fun _ => false).map V.bool) (.tip [] 0 none))
  generalize h5.push (.cells ((flg n fun _ => false).map V.bool) (.tip [] 0 none)) = h6 at *
  have z5 := g5.size
  have l4p := c4.lt g4.wf
  have l5p := c5.lt g5.wf
  generalize hq : h5.size = q at *
  have g6 := g5.trans g56
  have c6 := c5.grow g56
  have i1 : idxArrA 2 1 (.ptr (some (p, 0))) (iv d) = some (.ptr (some (p, d))) := by
   have : d = 0 ∨ d = 1 := by omega
   rcases this with rfl | rfl <;> rfl
  obtain ⟨h7, s1, s2, s3, s4⟩ := c6.set g6.wf (i := d) (by simpa using hlt) (v := .slice (some (q, 0)) n n) rfl
  refine WO.ops (StepK.idxArr rfl rfl i1) <| WO.op (StepK.store rfl rfl rfl s1) <| WO.nil <| WC.seqO ?_
  have rp : ∀ hh, Cl hh p ([w0, w1].set d (.slice (some (q, 0)) n n)) → hh.rd p d = some (.slice (some (q, 0)) n n) := fun hh cc => cc.rd (by rw [List.getElem?_set_self (by simpa using hlt)])
  refine omv rfl <| WO.ops (StepK.idxArr rfl rfl i1) <| old rfl (rp _ s2) <| ols rfl rfl <| omn rfl rfl <| omv rfl <| WO.nil <| WC.block ?_
  rw [min_four]
  have f7 : Fl h7 q n (fun a => decide (a < 0)) := by
   have := Cl.chg f6 s3 (by simp; omega)
   unfold Fl
   rw [flg_congr (g := fun _ => false) (fun a _ => by simp)]
   exact this
  refine WC.loop (σ := Nat) (fun k => [(0, .ptr (some (s, 0))), (1, y), (2, iv tx), (7, .ptr (some (p, 0))), (8, iv d), (25, iv d), (41, iv ((min 4 n : Nat) : Int)), (42, iv k)])
   (fun k hh => k ≤ min 4 n ∧ Chg [p, q] h6 hh ∧ Cl hh p ([w0, w1].set d (.slice (some (q, 0)) n n)) ∧ Fl hh q n (fun a => decide (a < k))) (fun k => min 4 n - k) 0
   (Cov.cons rfl (Cov.cons rfl (Cov.cons rfl (Cov.cons rfl (Cov.cons rfl (Cov.cons rfl (Cov.cons rfl (Cov.cons rfl (Cov.nil _))))))))) ⟨by omega, s3.mono (fun x hx => by simp at hx; simp [hx]), s2, f7⟩ ?_
  rintro k h8 ⟨hk, C8, c8, f8⟩
  refine WC.seqO ?_
  by_cases hlk : k < min 4 n
  ·refine obn rfl rfl (ltT (by omega)) (WO.nil (WC.seq (WC.cond rfl (fun hc => WC.skip ?_) (fun hc => by cases hc))))
   obtain ⟨h9, t1, t2, t3, t4⟩ := f8.set C8.wf (i := k) (by omega) (g := fun a => decide (a < k + 1)) (fun a _ => by rw [Bool.eq_iff_iff]; simp; omega)
   refine WC.seq (WC.block (WC.seqO (omv rfl <| omv rfl <| WO.nil <| WC.ops ?_)))
   refine omv rfl <| WO.ops (StepK.idxArr rfl rfl i1) <| old rfl (rp _ c8) <| omv rfl <| WO.ops (StepK.idxSl rfl rfl (fl_idx (by omega))) <| WO.op (StepK.store rfl rfl rfl t1) <| WO.nil <| WC.ops ?_
   refine oad rfl rfl (by omega) <| omv rfl <| WO.nil ⟨k + 1, ?_, ⟨by omega, ⟨t3.wf, Nat.le_trans C8.size t3.size, fun x o hx ho => t3.keep x o (fun e => hx (by simp at e; simp [e])) (C8.keep x o hx ho)⟩, c8.chg t3 (by simp; omega), t2⟩, by omega⟩
   exact Cov.cons rfl (Cov.cons rfl (Cov.cons rfl (Cov.cons rfl (Cov.cons rfl (Cov.cons rfl (Cov.cons rfl (Cov.cons rfl (Cov.nil _))))))))
  ·refine obn rfl rfl (ltF (by omega)) (WO.nil (WC.seq (WC.cond rfl (fun hc => by cases hc) (fun hc => WC.exit ?_))))
   have g8 : Grow h2 h8 := C8.newGrow g6 hw2 (fun x hx => by simp at hx; omega)
   have f9 : Fl h8 q n (fun a => decide (a < 4)) := by
    have e : k = min 4 n := by omega
    unfold Fl at f8 ⊢
    rw [flg_congr (g := fun a => decide (a < k)) (fun a ha => by rw [decide_eq_decide]; omega)]
    exact f8
   have nq : q ≠ p := by omega
   refine WC.ops (oad rfl rfl (by omega) <| omv rfl <| WO.nil ⟨d + 1, ?_, ⟨by omega, g8, ?_⟩, by omega⟩)
   ·exact Cov.cons rfl (Cov.cons rfl (Cov.cons rfl (Cov.cons rfl (Cov.cons rfl (Cov.nil _)))))
   have : d = 0 ∨ d = 1 := by omega
   rcases this with rfl | rfl
   ·simp only [if_true] at hnn
    subst hnn
    exact ⟨_, _, c8, fun _ => ⟨q, by omega, nq, rfl, f9⟩, fun hh => by omega⟩
   ·simp only [Nat.one_ne_zero, if_false] at hnn
    subst hnn
    obtain ⟨q0, e1, e2, e3, e4⟩ := P0 (Nat.le_refl _)
    have l0 := Cl.lt e4 g4.wf
    have z45 := g45.size
    refine ⟨_, _, c8, fun _ => ⟨q0, e1, e2, e3, ?_⟩, fun _ => ⟨q, by omega, nq, rfl, f9, fun q' hq' => ?_⟩⟩
    ·exact Cl.chg (Cl.grow e4 (g45.trans g56)) C8 (by simp; omega)
    ·rw [e3] at hq'
     have : q0 = q' := by simpa using hq'
     omega
 obtain rfl : d = 2 := by omega
 obtain ⟨q0, n0, e0, rfl, f0⟩ := P0 (by omega)
 obtain ⟨q1, n1, e1, rfl, f1, e2⟩ := P1 (by omega)
 have J4 : SeJ h2 h4 p q0 q1 m0 m1 (fun a => decide (a < 4)) (fun a => decide (a < 4)) := ⟨c4, f0, f1, by omega, n0, n1, e0, e1, e2 q0 rfl⟩
 clear c4 P0 P1 f0 f1 n0 n1 e0 e1 e2 cp
 refine obn rfl rfl (ltF (by omega)) (WO.nil (WC.seq (WC.cond rfl (fun hc => by cases hc) (fun hc => WC.exit ?_))))
 refine WC.seqO (WO.ops (StepK.idxArr rfl rfl rfl) <| old rfl (J4.cp.rd (i := 1) rfl) <| ols rfl rfl <| omv rfl <| WO.nil <| WC.seq <| WC.seqO ?_)
 refine omv rfl <| omv rfl ?_
 refine WO.call rfl rfl (region_ans S h4 g4.wf s b b0 b1 wv D (Cl.grow hb (g2.trans g4)) T u0 u1 (c2.grow g4) (by omega)) ?_
 rintro _ h5 ⟨rfl, g45⟩
 have J5 := J4.grow g45
 have g5 := g4.trans g45
 rw [hm1]
 obtain ⟨hrg, hrg4⟩ := regN_le T.P.sec m1
 generalize hreg : regN T.P.sec m1 = reg at *
 have f5 : Fl h5 q1 m1 (fun a => decide (a < 4) || decide (m1 - reg ≤ a ∧ a < m1 - reg + 0)) := by
  have := J5.f1
  unfold Fl at this ⊢
  rw [flg_congr (g := fun a => decide (a < 4)) (fun a ha => by rw [decide_eq_false (by omega : ¬ (m1 - reg ≤ a ∧ a < m1 - reg + 0)), Bool.or_false])]
  exact this
 refine osb rfl rfl (by omega) <| omv rfl <| WO.nil <| WC.block ?_
 refine WC.loop (σ := Nat) (fun k => [(0, .ptr (some (s, 0))), (1, y), (2, iv tx), (7, .ptr (some (p, 0))), (10, iv m1), (11, iv ((m1 : Int) - (reg : Int) + (k : Int)))])
  (fun k hh => k ≤ reg ∧ Grow h2 hh ∧ SeJ h2 hh p q0 q1 m0 m1 (fun a => decide (a < 4)) (fun a => decide (a < 4) || decide (m1 - reg ≤ a ∧ a < m1 - reg + k))) (fun k => reg - k) 0
  (Cov.cons rfl (Cov.cons rfl (Cov.cons rfl (Cov.cons rfl (Cov.cons rfl (Cov.cons (by simp [Env.get, iv]) (Cov.nil _))))))) ⟨by omega, g5, { J5 with f1 := f5 }⟩ ?_
 rintro k h6 ⟨hk, g6, J6⟩
 refine WC.seq (WC.seqO (omv rfl <| omv rfl ?_))
 by_cases hlk : k < reg
 ·refine obn rfl rfl (ltT (by omega)) (WO.nil (WC.cond rfl (fun hc => WC.skip ?_) (fun hc => by cases hc)))
  obtain ⟨h7, t1, t2, t3, t4⟩ := J6.f1.set g6.wf (i := m1 - reg + k) (by omega) (g := fun a => decide (a < 4) || decide (m1 - reg ≤ a ∧ a < m1 - reg + (k + 1))) (fun a _ => by rw [Bool.eq_iff_iff]; simp; omega)
  refine WC.seq (WC.block (WC.ops ?_))
  have ei : (m1 : Int) - (reg : Int) + (k : Int) = ((m1 - reg + k : Nat) : Int) := by omega
  refine WO.ops (StepK.idxArr rfl rfl rfl) <| old rfl (J6.cp.rd (i := 1) rfl) <| omv rfl <| WO.ops (StepK.idxSl rfl rfl (by rw [ei]; exact fl_idx (by omega))) <| WO.op (StepK.store rfl rfl rfl t1) <| WO.nil <| WC.ops ?_
  refine omv rfl <| oad rfl rfl (by omega) <| omv rfl <| WO.nil ⟨k + 1, ?_, ⟨by omega, t3.newGrow g6 hw2 (fun x hx => by obtain rfl := List.mem_singleton.1 hx; exact J6.n1), { J6 with cp := J6.cp.chg t3 (by simpa using fun e => J6.e1 e.symm), f0 := Cl.chg J6.f0 t3 (by simpa using J6.e2), f1 := t2 }⟩, by omega⟩
  refine Cov.cons rfl (Cov.cons rfl (Cov.cons rfl (Cov.cons rfl (Cov.cons rfl (Cov.cons ?_ (Cov.nil _))))))
  show some (iv _) = some (iv _)
  congr 2; omega
 refine obn rfl rfl (ltF (by omega)) (WO.nil (WC.cond rfl (fun hc => by cases hc) (fun hc => WC.exit ?_)))
 obtain rfl : k = reg := by omega
 have f60 : Fl h6 q0 m0 (tkn k m0 0 (us.take 0)) := by
  have := J6.f0
  unfold Fl at this ⊢
  rw [flg_congr (g := fun a => decide (a < 4)) (fun a ha => by simp [tkn])]
  exact this
 have f61 : Fl h6 q1 m1 (tkn k m1 1 (us.take 0)) := by
  have := J6.f1
  unfold Fl at this ⊢
  rw [flg_congr (g := fun a => decide (a < 4) || decide (m1 - k ≤ a ∧ a < m1 - k + k)) (fun a ha => by
   simp only [tkn, List.take_zero, List.contains_nil, Bool.or_false]
   rw [Bool.eq_iff_iff]
   simp only [Bool.or_eq_true, decide_eq_true_eq, true_and]
   constructor <;> intro hh <;> omega)]
  exact this
 have J7 : SeJ h2 h6 p q0 q1 m0 m1 (tkn k m0 0 (us.take 0)) (tkn k m1 1 (us.take 0)) := { J6 with f0 := f60, f1 := f61 }
 clear J6 J5 J4
 have hyl : slLen y = some us.length := by have := sy.len; simpa using this
 refine WC.seq (WC.seqO (omv rfl <| ols rfl hyl <| omv rfl <| WO.nil <| WC.block ?_))
 refine WC.loop (σ := Nat) (fun j => [(0, .ptr (some (s, 0))), (2, iv tx), (7, .ptr (some (p, 0))), (68, y), (69, iv us.length), (70, iv j)])
  (fun j hh => j ≤ us.length ∧ Grow h2 hh ∧ SeJ h2 hh p q0 q1 m0 m1 (tkn k m0 0 (us.take j)) (tkn k m1 1 (us.take j)) ∧ UsOk m0 m1 (us.take j)) (fun j => us.length - j) 0
  (Cov.cons rfl (Cov.cons rfl (Cov.cons rfl (Cov.cons rfl (Cov.cons rfl (Cov.cons rfl (Cov.nil _))))))) ⟨by omega, g6, J7, by intro l hl; simp at hl⟩ ?_
 rintro j h7 ⟨hj, g7, J7, ok7⟩
 refine WC.seqO ?_
 by_cases hlj : j < us.length
 ·refine obn rfl rfl (ltT (by omega)) (WO.nil (WC.seq (WC.cond rfl (fun hc => WC.skip ?_) (fun hc => by cases hc))))
  obtain ⟨c, of, k1, k2⟩ := (sy.grow (g2.trans g7)).at (i := j) (by rw [List.length_map]; exact hlj)
  rw [List.getElem_map] at k2
  have htk : us.take (j + 1) = us.take j ++ [us[j]] := by rw [List.take_succ_eq_append_getElem hlj]
  have hmem : us[j] ∈ us := List.getElem_mem hlj
  generalize us[j] = l at *
  obtain ⟨ld, la⟩ := l
  refine WC.seq (WC.block (WC.seqO ?_))
  refine WO.ops (StepK.idxSl rfl rfl k1) <| WO.ops (StepK.loadN rfl k2) <| WO.ops StepK.alloc ?_
  obtain ⟨h8, w8, g8', g78, r8⟩ := box_two (x := iv 0) (y := iv 0) (u := iv ld) (w := iv la) g7 rfl rfl
  have r0 : h8.rd h7.size 0 = some (iv ld) := rd_get r8 rfl
  have r1 : h8.rd h7.size 1 = some (iv la) := rd_get r8 rfl
  refine WO.op (StepK.store rfl rfl rfl w8) <| WO.nil <| WC.seq <| WC.seqD ?_
  have J8 := J7.grow g78
  generalize h7.size = bx at *
  have bad : ¬ UsOk m0 m1 us → ∀ (e' : List (Nat × V)), Env.get e' 96 = some (.bool true) → WC C (.cond (.t 96) (.seq (.ops [⟨(some 6), none, .mv (.c (.int .i64 (1)))⟩]) .ret) .skip) e' h8 fun x e1 h1 => Fin x ∧ x ≠ .normal ∧ (UsOk m0 m1 us → ∃ r, retE e1 h1 [.tmp 6] = some r ∧ h1.low ≤ s ∧ SetR h2 s b T tx m0 m1 us r h1) ∧ (¬ UsOk m0 m1 us → retE e1 h1 [.tmp 6] = some (iv 1) ∧ Grow h2 h1) := by
   intro hno e' he
   exact WC.cond he (fun _ => WC.seqO (omv rfl (WO.nil (WC.ret ⟨trivial, Ex.noConfusion, fun q => absurd q hno, fun _ => ⟨rfl, g8'⟩⟩)))) (fun hc => by cases hc)
  have up : ∀ {x : Ex} {e1 : List (Nat × V)} {h1 : Heap}, (Fin x ∧ x ≠ .normal ∧ (UsOk m0 m1 us → ∃ r, retE e1 h1 [.tmp 6] = some r ∧ h1.low ≤ s ∧ SetR h2 s b T tx m0 m1 us r h1) ∧ (¬ UsOk m0 m1 us → retE e1 h1 [.tmp 6] = some (iv 1) ∧ Grow h2 h1)) → x = .ret := by
   intro x e1 h1 hx
   cases x with
   | normal => exact absurd rfl hx.2.1
   | exit i => exact hx.1.elim
   | ret => rfl
  refine dfa rfl <| WD.load1 rfl r0 ?_
  by_cases a1 : ld < 0
  ·refine dbn rfl rfl (ltT a1) <| dmv rfl ?_
   (repeat (first | refine dmv rfl ?_ | refine dls rfl (by first | with_reducible assumption | rfl) ?_ | refine dfa rfl ?_ | refine dad rfl rfl (by omega) ?_ | refine dsb rfl rfl (by omega) ?_ | refine dbn rfl rfl rfl ?_ | refine dpt rfl rfl ?_ | refine dpf rfl rfl ?_ | refine dnt rfl ?_ | refine deq rfl rfl rfl ?_ | refine dex rfl rfl ?_ | refine dbu rfl rfl ?_ | refine dfd rfl rfl ?_ | refine dlt rfl ?_ | refine dnk rfl ?_ | refine WD.load1 rfl (by first | with_reducible assumption | rfl) ?_ | refine WD.run rfl ?_ | refine WD.skipn rfl rfl rfl ?_ | refine WD.skipun rfl rfl ?_))
   refine WD.nil (by repeat (first | exact trivial | refine ⟨by with_reducible assumption, ?_⟩)) ((bad (fun q => by have := q _ hmem; dsimp only at this; omega) _ rfl).mono fun x e1 h1 hx => ?_)
   obtain rfl := up hx
   exact ⟨hx.1, hx.2.2⟩
  refine dbn rfl rfl (ltF a1) <| dmv rfl <| WD.run rfl <| dfa rfl <| WD.run rfl <| WD.load1 rfl r0 <| WD.run rfl ?_
  by_cases a2 : 2 ≤ ld
  ·refine dbn rfl rfl (geT a2) ?_
   (repeat (first | refine dmv rfl ?_ | refine dls rfl (by first | with_reducible assumption | rfl) ?_ | refine dfa rfl ?_ | refine dad rfl rfl (by omega) ?_ | refine dsb rfl rfl (by omega) ?_ | refine dbn rfl rfl rfl ?_ | refine dpt rfl rfl ?_ | refine dpf rfl rfl ?_ | refine dnt rfl ?_ | refine deq rfl rfl rfl ?_ | refine dex rfl rfl ?_ | refine dbu rfl rfl ?_ | refine dfd rfl rfl ?_ | refine dlt rfl ?_ | refine dnk rfl ?_ | refine WD.load1 rfl (by first | with_reducible assumption | rfl) ?_ | refine WD.run rfl ?_ | refine WD.skipn rfl rfl rfl ?_ | refine WD.skipun rfl rfl ?_))
   refine WD.nil (by repeat (first | exact trivial | refine ⟨by with_reducible assumption, ?_⟩)) ((bad (fun q => by have := q _ hmem; dsimp only at this; omega) _ rfl).mono fun x e1 h1 hx => ?_)
   obtain rfl := up hx
   exact ⟨hx.1, hx.2.2⟩
  refine dbn rfl rfl (geF a2) <| dpf rfl rfl <| dmv rfl <| WD.run rfl <| dfa rfl <| WD.run rfl <| WD.load1 rfl r1 <| WD.run rfl ?_
  by_cases a3 : la < 0
  ·refine dbn rfl rfl (ltT a3) ?_
   (repeat (first | refine dmv rfl ?_ | refine dls rfl (by first | with_reducible assumption | rfl) ?_ | refine dfa rfl ?_ | refine dad rfl rfl (by omega) ?_ | refine dsb rfl rfl (by omega) ?_ | refine dbn rfl rfl rfl ?_ | refine dpt rfl rfl ?_ | refine dpf rfl rfl ?_ | refine dnt rfl ?_ | refine deq rfl rfl rfl ?_ | refine dex rfl rfl ?_ | refine dbu rfl rfl ?_ | refine dfd rfl rfl ?_ | refine dlt rfl ?_ | refine dnk rfl ?_ | refine WD.load1 rfl (by first | with_reducible assumption | rfl) ?_ | refine WD.run rfl ?_ | refine WD.skipn rfl rfl rfl ?_ | refine WD.skipun rfl rfl ?_))
   refine WD.nil (by repeat (first | exact trivial | refine ⟨by with_reducible assumption, ?_⟩)) ((bad (fun q => by have := q _ hmem; dsimp only at this; omega) _ rfl).mono fun x e1 h1 hx => ?_)
   obtain rfl := up hx
   exact ⟨hx.1, hx.2.2⟩
  obtain ⟨kd, n, q, f, hkd, hk2, i1, rq, hn⟩ : ∃ (kd n q : Nat) (f : Nat → Bool), ld = kd ∧ kd < 2 ∧ idxArrA 2 1 (.ptr (some (p, 0))) (iv ld) = some (.ptr (some (p, kd))) ∧ h8.rd p kd = some (.slice (some (q, 0)) n n) ∧ (UsOk m0 m1 [(ld, la)] ↔ la < (n : Int)) := by
   have : ld = 0 ∨ ld = 1 := by omega
   rcases this with rfl | rfl
   ·exact ⟨0, m0, q0, tkn k m0 0 (us.take j), rfl, by decide, rfl, J8.cp.rd rfl, by simp [UsOk]; omega⟩
   ·exact ⟨1, m1, q1, tkn k m1 1 (us.take j), rfl, by decide, rfl, J8.cp.rd rfl, by simp [UsOk]; omega⟩
  refine dbn rfl rfl (ltF a3) <| dpf rfl rfl <| dmv rfl <| WD.run rfl <| dfa rfl <| WD.run rfl <| WD.load1 rfl r1 <| WD.run rfl <| dfa rfl <| WD.run rfl <| WD.load1 rfl r0 <| WD.run rfl <| WD.pure (StepK.idxArr rfl rfl i1) rfl <| WD.run rfl <| WD.load1 rfl rq <| WD.run rfl <| dls rfl rfl <| WD.run rfl ?_
  by_cases a4 : (n : Int) ≤ la
  ·refine dbn rfl rfl (geT a4) ?_
   (repeat (first | refine dmv rfl ?_ | refine dls rfl (by first | with_reducible assumption | rfl) ?_ | refine dfa rfl ?_ | refine dad rfl rfl (by omega) ?_ | refine dsb rfl rfl (by omega) ?_ | refine dbn rfl rfl rfl ?_ | refine dpt rfl rfl ?_ | refine dpf rfl rfl ?_ | refine dnt rfl ?_ | refine deq rfl rfl rfl ?_ | refine dex rfl rfl ?_ | refine dbu rfl rfl ?_ | refine dfd rfl rfl ?_ | refine dlt rfl ?_ | refine dnk rfl ?_ | refine WD.load1 rfl (by first | with_reducible assumption | rfl) ?_ | refine WD.run rfl ?_ | refine WD.skipn rfl rfl rfl ?_ | refine WD.skipun rfl rfl ?_))
   refine WD.nil (by repeat (first | exact trivial | refine ⟨by with_reducible assumption, ?_⟩)) ((bad (fun q => by have := (hn.1 (fun l hl => by obtain rfl := List.mem_singleton.1 hl; exact q _ hmem)); omega) _ rfl).mono fun x e1 h1 hx => ?_)
   obtain rfl := up hx
   exact ⟨hx.1, hx.2.2⟩
  have hok := hn.2 (by omega)
  refine dbn rfl rfl (geF a4) <| dpf rfl rfl <| WD.nil (by repeat (first | exact trivial | refine ⟨by with_reducible assumption, ?_⟩)) <| WC.cond rfl (fun hc => by cases hc) (fun hc => WC.skip <| WC.draw ?_)
  obtain ⟨na, rfl⟩ : ∃ na : Nat, la = na := ⟨la.toNat, by omega⟩
  have ok8 : UsOk m0 m1 (us.take (j + 1)) := by
   rw [htk]
   intro l hl
   rcases List.mem_append.1 hl with e | e
   ·exact ok7 l e
   ·exact hok l e
  have i3 : idxSlA 1 (.slice (some (q, 0)) n n) (iv na) = some (.ptr (some (q, na))) := fl_idx (by omega)
  have : ld = 0 ∨ ld = 1 := by omega
  have step : ∀ hh, Grow h2 hh → hh.wr q na [.bool true] = some hh → True := fun _ _ _ => trivial
  rcases this with rfl | rfl
  ·obtain rfl : kd = 0 := by omega
   have eq1 : V.slice (some (q, 0)) n n = .slice (some (q0, 0)) m0 m0 := by
    have := J8.cp.rd (i := 0) rfl
    rw [rq] at this; injection this
   have eq2 : q = q0 ∧ n = m0 := by simpa using eq1
   obtain ⟨rfl, rfl⟩ := eq2
   obtain ⟨h9, t1, t2, t3, t4⟩ := J8.f0.set g8'.wf (i := na) (by omega) (g := tkn k n 0 (us.take (j + 1))) (fun a _ => by rw [htk, tkn_snoc]; simp [show ((a : Int) = na) = (a = na) from propext (by omega)])
   refine dfa rfl <| WD.load1 rfl r0 <| WD.pure (StepK.idxArr rfl rfl i1) rfl <| WD.load1 rfl rq <| dfa rfl <| WD.load1 rfl r1 <| WD.pure (StepK.idxSl rfl rfl i3) rfl <| WD.opC (by repeat (first | exact trivial | refine ⟨by with_reducible assumption, ?_⟩)) rfl (StepK.store rfl rfl rfl t1) <| WD.nil (by repeat (first | exact trivial | refine ⟨by with_reducible assumption, ?_⟩)) (WC.ops ?_)
   refine oad rfl rfl (by omega) <| omv rfl <| WO.nil ⟨j + 1, ?_, ⟨by omega, t3.newGrow g8' hw2 (fun x hx => by obtain rfl := List.mem_singleton.1 hx; exact J8.n0), { J8 with cp := J8.cp.chg t3 (by simpa using fun e => J8.e0 e.symm), f0 := t2, f1 := ?_ }, ok8⟩, by omega⟩
   ·exact Cov.cons rfl (Cov.cons rfl (Cov.cons rfl (Cov.cons rfl (Cov.cons rfl (Cov.cons rfl (Cov.nil _))))))
   ·have := Cl.chg J8.f1 t3 (by simpa using fun e => J8.e2 e.symm)
    unfold Fl
    rw [flg_congr (g := tkn k m1 1 (us.take j)) (fun a ha => by rw [htk, tkn_snoc]; simp)]
    exact this
  ·obtain rfl : kd = 1 := by omega
   have eq1 : V.slice (some (q, 0)) n n = .slice (some (q1, 0)) m1 m1 := by
    have := J8.cp.rd (i := 1) rfl
    rw [rq] at this; injection this
   have eq2 : q = q1 ∧ n = m1 := by simpa using eq1
   obtain ⟨rfl, rfl⟩ := eq2
   obtain ⟨h9, t1, t2, t3, t4⟩ := J8.f1.set g8'.wf (i := na) (by omega) (g := tkn k n 1 (us.take (j + 1))) (fun a _ => by rw [htk, tkn_snoc]; simp [show ((a : Int) = na) = (a = na) from propext (by omega)])
   refine dfa rfl <| WD.load1 rfl r0 <| WD.pure (StepK.idxArr rfl rfl i1) rfl <| WD.load1 rfl rq <| dfa rfl <| WD.load1 rfl r1 <| WD.pure (StepK.idxSl rfl rfl i3) rfl <| WD.opC (by repeat (first | exact trivial | refine ⟨by with_reducible assumption, ?_⟩)) rfl (StepK.store rfl rfl rfl t1) <| WD.nil (by repeat (first | exact trivial | refine ⟨by with_reducible assumption, ?_⟩)) (WC.ops ?_)
   refine oad rfl rfl (by omega) <| omv rfl <| WO.nil ⟨j + 1, ?_, ⟨by omega, t3.newGrow g8' hw2 (fun x hx => by obtain rfl := List.mem_singleton.1 hx; exact J8.n1), { J8 with cp := J8.cp.chg t3 (by simpa using fun e => J8.e1 e.symm), f1 := t2, f0 := ?_ }, ok8⟩, by omega⟩
   ·exact Cov.cons rfl (Cov.cons rfl (Cov.cons rfl (Cov.cons rfl (Cov.cons rfl (Cov.cons rfl (Cov.nil _))))))
   ·have := Cl.chg J8.f0 t3 (by simpa using J8.e2)
    unfold Fl
    rw [flg_congr (g := tkn k m0 0 (us.take j)) (fun a ha => by rw [htk, tkn_snoc]; simp)]
    exact this
 obtain rfl : j = us.length := by omega
 rw [List.take_length] at J7 ok7
 refine obn rfl rfl (ltF (by omega)) (WO.nil (WC.seq (WC.cond rfl (fun hc => by cases hc) (fun hc => WC.exit ?_))))
 have og : Off (.slice none 0 0) s := Off.nil _
 refine WC.seq (WC.seqO (omv rfl <| WO.nil <| WC.block ?_))
 have reg0 : regN T.P.sec m1 = k := hreg
 have c7 := c2.grow g7
 have C7 : Chg [s] h2 h7 := ⟨g7.wf, g7.size, fun x o _ q => g7.ext x o q⟩
 refine WC.loop (σ := Nat) (fun d => [(0, .ptr (some (s, 0))), (2, iv tx), (7, .ptr (some (p, 0))), (105, iv d)])
  (fun d hh => d ≤ 2 ∧ Chg [s] h2 hh ∧ SeJ h2 hh p q0 q1 m0 m1 (tkn k m0 0 us) (tkn k m1 1 us) ∧ ∃ v0 v1, Cl hh s (stC b T v0 v1) ∧ V.one v0 = true ∧ V.one v1 = true ∧ (1 ≤ d → Grown hh h2.size 2 v0 ((TM0 m0 m1 k us 0).map rn)) ∧ (2 ≤ d → Grown hh h2.size 2 v1 ((TM0 m0 m1 k us 1).map rn))) (fun d => 2 - d) 0
  (Cov.cons rfl (Cov.cons rfl (Cov.cons rfl (Cov.cons rfl (Cov.nil _))))) ⟨by omega, C7, J7, u0, u1, c7, o0, o1, fun q => by omega, fun q => by omega⟩ ?_
 rintro d h8 ⟨hd, C8, J8, v0, v1, c8, ov0, ov1, G0, G1⟩
 refine WC.seqO ?_
 have nsp : s ≠ p := by have := J8.np; omega
 have ns0 : s ≠ q0 := by have := J8.n0; omega
 have ns1 : s ≠ q1 := by have := J8.n1; omega
 have z28 := C8.size
 by_cases hlt : d < 2
 ·refine obn rfl rfl (ltT (by omega)) (WO.nil (WC.seq (WC.cond rfl (fun hc => WC.skip ?_) (fun hc => by cases hc))))
  obtain ⟨n, q, f, i1, i2, rq, fq, hn, hU⟩ : ∃ (n q : Nat) (f : Nat → Bool), idxArrA 2 1 (.ptr (some (p, 0))) (iv d) = some (.ptr (some (p, d))) ∧ idxArrA 2 1 (.ptr (some (s, 0 + 6))) (iv d) = some (.ptr (some (s, 6 + d))) ∧ h8.rd p d = some (.slice (some (q, 0)) n n) ∧ Fl h8 q n f ∧ n ≤ 512 ∧ spOfF 0 [] (flg n f) = TM0 m0 m1 k us d := by
   have : d = 0 ∨ d = 1 := by omega
   rcases this with rfl | rfl
   ·exact ⟨m0, q0, _, rfl, rfl, J8.cp.rd rfl, J8.f0, h0, rfl⟩
   ·exact ⟨m1, q1, _, rfl, rfl, J8.cp.rd rfl, J8.f1, h1, rfl⟩
  refine WC.seq (WC.block (WC.seqO (omv rfl <| omv rfl <| WO.nil <| WC.draw ?_)))
  refine dmv rfl <| dmv rfl <| dmv rfl <| WD.pure (StepK.idxArr rfl rfl i1) rfl <| WD.load1 rfl rq <| dnk rfl <| dfa rfl ?_
  refine WD.call (by repeat (first | exact trivial | refine ⟨by with_reducible assumption, ?_⟩)) rfl rfl (spOf_ans S h8 C8.wf _ _ fq.sl (by rw [flg_len]; omega)) ?_
  rintro v h9 ⟨gv, g89⟩
  rw [hU] at gv
  have gv2 : Grown h9 h2.size 2 v ((TM0 m0 m1 k us d).map rn) := gv.up z28
  have c9 := c8.grow g89
  have J9 := J8.grow g89
  obtain ⟨h10, t1, t2, t3, t4⟩ := c9.set g89.wf (i := 6 + d) (by simp [stC]; omega) (v := v) gv.one
  refine WD.pure (StepK.idxArr rfl rfl i2) rfl <| WD.opC (by repeat (first | exact trivial | refine ⟨by with_reducible assumption, ?_⟩)) rfl (StepK.store (v := v) rfl rfl (by rw [one_cells gv.one]; rfl) (by rw [one_cells gv.one]; exact t1)) <| WD.nil (by repeat (first | exact trivial | refine ⟨by with_reducible assumption, ?_⟩)) <| WC.ops ?_
  refine oad rfl rfl (by omega) <| omv rfl <| WO.nil ⟨d + 1, ?_, ⟨by omega, ⟨t3.wf, Nat.le_trans (Nat.le_trans z28 g89.size) t3.size, fun x o hx ho => t3.keep x o hx (g89.ext x o (C8.keep x o hx ho))⟩, { J9 with cp := J9.cp.chg t3 (by simpa using nsp.symm), f0 := Cl.chg J9.f0 t3 (by simpa using ns0.symm), f1 := Cl.chg J9.f1 t3 (by simpa using ns1.symm) }, ?_⟩, by omega⟩
  ·exact Cov.cons rfl (Cov.cons rfl (Cov.cons rfl (Cov.cons rfl (Cov.nil _))))
  have gv10 := gv2.chg t3 (fun x hx => by obtain rfl := List.mem_singleton.1 hx; exact Off.of_lt gv2 ls)
  have : d = 0 ∨ d = 1 := by omega
  rcases this with rfl | rfl
  ·exact ⟨v, v1, t2, gv.one, ov1, fun _ => gv10, fun hh => by omega⟩
  ·have G0' := (G0 (Nat.le_refl _)).grow g89
   exact ⟨v0, v, t2, ov0, gv.one, fun _ => G0'.chg t3 (fun x hx => by obtain rfl := List.mem_singleton.1 hx; exact Off.of_lt G0' ls), fun _ => gv10⟩
 obtain rfl : d = 2 := by omega
 refine obn rfl rfl (ltF (by omega)) (WO.nil (WC.seq (WC.cond rfl (fun hc => by cases hc) (fun hc => WC.exit ?_))))
 have K0 := G0 (by omega)
 have K1 := G1 (by omega)
 obtain ⟨h10, t1, t2, t3, t4⟩ := c8.set C8.wf (i := 8) (by simp [stC]) (v := iv tx) rfl
 refine WC.seqO (omv rfl <| omv rfl <| onk rfl <| ofa rfl <| WO.op (StepK.store rfl rfl rfl t1) <| WO.nil <| WC.seqO <| omv rfl <| WO.nil <| WC.ret ⟨trivial, fun _ => ⟨iv 0, rfl, wr_low t1, rfl, v0, v1, ⟨t3.wf, Nat.le_trans z28 t3.size, fun x o hx ho => t3.keep x o hx (C8.keep x o hx ho)⟩, t2, ?_, ?_⟩, fun hno => absurd ok7 hno⟩)
 ·rw [reg0]; exact K0.chg t3 (fun x hx => by obtain rfl := List.mem_singleton.1 hx; exact Off.of_lt K0 ls)
 ·rw [reg0]; exact K1.chg t3 (fun x hx => by obtain rfl := List.mem_singleton.1 hx; exact Off.of_lt K1 ls)
theorem settle_bad (h : Heap) (hw : Wf h) (s b b0 b1 : Nat) (wv : V) (D : Dv) (hb : DevB h b b0 b1 wv D) (T : SV) (u0 u1 : V) (o0 : V.one u0 = true) (o1 : V.one u1 = true) (cs : Cl h s (stC b T u0 u1)) (h0 : D.s0.length ≤ 512) (h1 : D.s1.length ≤ 512)
  (y : V) (us : List (Int × Int)) (sy : Sl h 2 y (us.map rn)) (hus : us.length ≤ 1000) (tx : Int) (htx : 0 ≤ tx ∧ tx ≤ 1099511627776) (no : ¬ UsOk D.s0.length D.s1.length us) :
  Ans C 20 [.ptr (some (s, 0)), y, iv tx] h fun r h' => r = iv 1 ∧ Grow h h' := by
 have hF : C.F 20 = some a20 := S.f rfl
 unfold a20 at hF
 refine Ans.val (fun _ _ => S.s _ _ _ rfl) hF rfl rfl hw fun h2 g => ?_
 clear hF
 exact (settle_wc S h hw s b b0 b1 wv D hb T u0 u1 o0 o1 cs _ _ rfl rfl h0 h1 y us sy hus tx htx h2 g).mono fun x e' h3 hx => ⟨hx.1, g.trans (hx.2.2 no).2, (hx.2.2 no).1⟩
theorem settle_ok (h : Heap) (hw : Wf h) (s b b0 b1 : Nat) (wv : V) (D : Dv) (hb : DevB h b b0 b1 wv D) (T : SV) (u0 u1 : V) (o0 : V.one u0 = true) (o1 : V.one u1 = true) (cs : Cl h s (stC b T u0 u1)) (h0 : D.s0.length ≤ 512) (h1 : D.s1.length ≤ 512)
  (y : V) (us : List (Int × Int)) (sy : Sl h 2 y (us.map rn)) (hus : us.length ≤ 1000) (tx : Int) (htx : 0 ≤ tx ∧ tx ≤ 1099511627776) (ok : UsOk D.s0.length D.s1.length us) :
  Ans C 20 [.ptr (some (s, 0)), y, iv tx] h (SetR h s b T tx D.s0.length D.s1.length us) := by
 have hF : C.F 20 = some a20 := S.f rfl
 unfold a20 at hF
 refine Ans.mut (S.s _ _ _ rfl) hF rfl rfl hw (fun h2 g hs2 hg2 => ?_)
 clear hF
 refine (settle_wc S h hw s b b0 b1 wv D hb T u0 u1 o0 o1 cs _ _ rfl rfl h0 h1 y us sy hus tx htx h2 g).mono fun x e' h3 hx => ⟨hx.1, ?_⟩
 obtain ⟨r, q1, q2, q3, v0, v1, q4, q5, q6, q7⟩ := hx.2.1 ok
 have ls := cs.lt hw
 rw [hs2] at q6 q7
 exact ⟨r, q1, by omega, fun n => ⟨q3, v0, v1, (q4.of_same hs2 hg2).low n, q5, q6.same (fun _ => rfl), q7.same (fun _ => rfl)⟩⟩
end
end Abs
end Go.Proofs.YtdebiolekbldiaaGreatDoor
namespace Go.Proofs.YtdebiolekbldiaaGreatDoor
namespace Abs
set_option linter.unusedVariables false
set_option linter.unusedSimpArgs false
attribute [local irreducible] WO WC WD StepK Ans Does Runs DoesD
def endR : Int → List (Int × Int) → Int
 | a, [] => a
 | _, r :: l => endR (r.1 + r.2) l
theorem endR_snoc : ∀ (R : List (Int × Int)) (a : Int) (r : Int × Int), endR a (R ++ [r]) = r.1 + r.2
 | [], a, r => rfl
 | x :: R, a, r => by simp only [List.cons_append, endR]; exact endR_snoc R _ r
theorem spMay_snoc : ∀ (R : List (Int × Int)) (a : Int) (r : Int × Int), spMayF a (R ++ [r]) = true ↔ spMayF a R = true ∧ endR a R < r.1 ∧ 1 ≤ r.2 ∧ r.2 ≤ 1073741824 ∧ r.1 ≤ 1073741824 - r.2
 | [], a, r => by
  rw [List.nil_append, spMay_cons]
  simp [spMayF, endR]
 | x :: R, a, r => by
  rw [List.cons_append, spMay_cons, spMay_cons, spMay_snoc R]
  simp only [endR]
  exact ⟨fun ⟨p, q, s⟩ => ⟨⟨p, q⟩, s⟩, fun ⟨⟨p, q⟩, s⟩ => ⟨p, q, s⟩⟩
theorem fre_snoc (R : List (Int × Int)) (r : Int × Int) (a : Int) : Fre (R ++ [r]) a ↔ Fre R a ∨ (r.1 ≤ a ∧ a < r.1 + r.2) := by
 constructor
 ·rintro ⟨x, hx, h⟩
  rcases List.mem_append.1 hx with q | q
  ·exact .inl ⟨x, q, h⟩
  ·rw [List.mem_singleton.1 q] at h; exact .inr h
 ·rintro (⟨x, hx, h⟩ | h)
  ·exact ⟨x, List.mem_append_left _ hx, h⟩
  ·exact ⟨r, List.mem_append_right _ (List.mem_singleton.2 rfl), h⟩
theorem cnt_snoc : ∀ (R : List (Int × Int)) (r : Int × Int), cnt (R ++ [r]) = cnt R + r.2
 | [], r => by simp [cnt]
 | x :: R, r => by simp only [List.cons_append, cnt, cnt_snoc R r]; omega
theorem spOf_app : ∀ (l l' : List Bool) (i : Int) (R : List (Int × Int)), spOfF i R (l ++ l') = spOfF (i + l.length) (spOfF i R l) l'
 | [], l', i, R => by simp [spOfF]
 | u :: l, l', i, R => by
  simp only [List.cons_append, spOfF, spOf_app l l', List.length_cons]
  congr 1; omega
def RN (f : Nat → Bool) (n : Nat) : List (Int × Int) := spOfF 0 [] (flg n f)
theorem RN_succ (f : Nat → Bool) (n : Nat) : RN f (n + 1) = if f n then RN f n else spAddF (RN f n) n := by
 unfold RN
 rw [show flg (n + 1) f = flg n f ++ [f n] by simp [flg, List.range_succ], spOf_app, flg_len]
 simp only [spOfF, Int.zero_add]
theorem spAdd_snoc (R : List (Int × Int)) (r : Int × Int) (i : Int) : spAddF (R ++ [r]) i = if r.1 + r.2 = i then R ++ [(r.1, r.2 + 1)] else R ++ [r] ++ [(i, 1)] := by
 unfold spAddF
 rw [List.getLast?_append, List.getLast?_singleton]
 simp only [Option.some_or]
 split
 ·rw [List.length_append, List.length_singleton, Nat.add_sub_cancel, List.set_append_right _ _ (Nat.le_refl _), Nat.sub_self]; rfl
 ·rfl
def cntF (n : Nat) (f : Nat → Bool) : Int := ((List.range n).countP fun k => !f k : Nat)
theorem cntF_succ (n : Nat) (f : Nat → Bool) : cntF (n + 1) f = cntF n f + if f n then 0 else 1 := by
 unfold cntF
 rw [List.range_succ, List.countP_append, List.countP_singleton]
 cases f n <;> simp
theorem cntF_congr {n : Nat} {f g : Nat → Bool} (h : ∀ a, a < n → f a = g a) : cntF n f = cntF n g := by
 unfold cntF
 rw [List.countP_congr]
 intro a ha
 rw [h a (List.mem_range.1 ha)]
theorem cntF_set {n : Nat} {f g : Nat → Bool} {i : Nat} (hi : i < n) (hf : f i = false) (hg : ∀ a, g a = (f a || decide (a = i))) : cntF n g = cntF n f - 1 := by
 induction n with
 | zero => omega
 | succ n ih =>
  rw [cntF_succ, cntF_succ]
  by_cases e : i = n
  ·subst e
   have : cntF i g = cntF i f := cntF_congr fun a ha => by rw [hg, decide_eq_false (by omega), Bool.or_false]
   rw [this, hg i, hf]; simp
  ·rw [ih (by omega), hg n, decide_eq_false (by omega : ¬ n = i), Bool.or_false]; omega
structure RunsOf (f : Nat → Bool) (n : Nat) (R : List (Int × Int)) : Prop where
 may : spMayF (-1) R = true
 e : endR (-1) R ≤ n
 fre : ∀ a, Fre R a ↔ ∃ k : Nat, k < n ∧ f k = false ∧ a = k
 cnt : cnt R = cntF n f
theorem runsOf (f : Nat → Bool) : ∀ n, n ≤ 1000 → RunsOf f n (RN f n)
 | 0, _ => ⟨rfl, by simp [RN, flg, spOfF, endR], fun a => by simp [RN, flg, spOfF, Fre], rfl⟩
 | n + 1, hn => by
  have ih := runsOf f n (by omega)
  rw [RN_succ]
  generalize RN f n = R at *
  by_cases hf : f n = true
  ·rw [if_pos hf]
   refine ⟨ih.may, by have := ih.e; omega, fun a => ?_, by rw [ih.cnt, cntF_succ, if_pos hf]; omega⟩
   rw [ih.fre]
   constructor
   ·rintro ⟨k, h1, h2⟩; exact ⟨k, by omega, h2⟩
   ·rintro ⟨k, h1, h2, h3⟩
    refine ⟨k, ?_, h2, h3⟩
    have : k ≠ n := fun e => by rw [e, hf] at h2; cases h2
    omega
  ·rw [if_neg hf]
   have hf' : f n = false := by simpa using hf
   have hfre : ∀ R' : List (Int × Int), (∀ a, Fre R' a ↔ Fre R a ∨ a = n) → ∀ a, Fre R' a ↔ ∃ k : Nat, k < n + 1 ∧ f k = false ∧ a = k := by
    intro R' h a
    rw [h, ih.fre]
    constructor
    ·rintro (⟨k, h1, h2⟩ | h1)
     ·exact ⟨k, by omega, h2⟩
     ·exact ⟨n, by omega, hf', h1⟩
    ·rintro ⟨k, h1, h2, h3⟩
     by_cases e : k = n
     ·exact .inr (by omega)
     ·exact .inl ⟨k, by omega, h2, h3⟩
   have hc := ih.cnt
   have hm := ih.may
   have he := ih.e
   have key : RunsOf f (n + 1) (R ++ [((n : Int), 1)]) ∨ ¬ endR (-1) R < n := by
    by_cases hlt : endR (-1) R < n
    ·refine .inl ⟨(spMay_snoc _ _ _).2 ⟨hm, hlt, by simp, by simp, by simp; omega⟩, by rw [endR_snoc]; simp, hfre _ fun a => ?_, ?_⟩
     ·rw [fre_snoc]
      dsimp only
      constructor
      ·rintro (q | q)
       ·exact .inl q
       ·exact .inr (by omega)
      ·rintro (q | q)
       ·exact .inl q
       ·exact .inr (by omega)
     ·rw [cnt_snoc, hc, cntF_succ, if_neg hf]
    ·exact .inr hlt
   rcases List.eq_nil_or_concat R with rfl | ⟨R', r, rfl⟩
   ·exact key.resolve_right fun q => q (by simp only [endR]; omega)
   ·rw [List.concat_eq_append] at *
    rw [spAdd_snoc]
    rw [endR_snoc] at he key
    have hp := spMayF_bounds _ (-1) (by omega) hm r (List.mem_append_right _ (List.mem_singleton.2 rfl))
    rw [spMay_snoc] at hm
    split
    ·rename_i hr
     refine ⟨(spMay_snoc _ _ _).2 ⟨hm.1, hm.2.1, by dsimp only; omega, by dsimp only; omega, by dsimp only; omega⟩, by rw [endR_snoc]; dsimp only; omega, hfre _ fun a => ?_, ?_⟩
     ·rw [fre_snoc, fre_snoc]
      dsimp only
      constructor
      ·rintro (q | q)
       ·exact .inl (.inl q)
       ·by_cases e : a = n
        ·exact .inr e
        ·exact .inl (.inr (by omega))
      ·rintro ((q | q) | q)
       ·exact .inl q
       ·exact .inr (by omega)
       ·exact .inr (by omega)
     ·rw [cnt_snoc] at hc ⊢
      rw [cntF_succ, if_neg hf, ← hc]; dsimp only; omega
    ·exact key.resolve_right fun q => q (by omega)
theorem runs_ok {f : Nat → Bool} {n : Nat} (hn : n ≤ 512) (h4 : ∀ a, a < 4 → f a = true) : RunOk (RN f n) := by
 have h := runsOf f n (by omega)
 refine ⟨h.may, fun r hr => ?_⟩
 have hp := spMayF_bounds _ (-1) (by omega) h.may r hr
 have f1 : Fre (RN f n) r.1 := ⟨r, hr, by omega, by omega⟩
 have f2 : Fre (RN f n) (r.1 + r.2 - 1) := ⟨r, hr, by omega, by omega⟩
 obtain ⟨k, k1, k2, k3⟩ := (h.fre _).1 f1
 obtain ⟨j, j1, j2, j3⟩ := (h.fre _).1 f2
 have : ¬ k < 4 := fun q => by rw [h4 k q] at k2; cases k2
 omega
theorem tkn_low (reg n : Nat) (d : Int) (us : List (Int × Int)) : ∀ a, a < 4 → tkn reg n d us a = true := fun a ha => by
 simp [tkn, ha]
theorem TM0_ok {m0 m1 reg : Nat} {us : List (Int × Int)} {d : Int} (h0 : m0 ≤ 512) (h1 : m1 ≤ 512) : RunOk (TM0 m0 m1 reg us d) := by
 unfold TM0
 exact runs_ok (by split <;> assumption) (tkn_low _ _ _ _)
theorem TM0_fre {m0 m1 reg : Nat} {us : List (Int × Int)} {d : Int} (h0 : m0 ≤ 512) (h1 : m1 ≤ 512) (a : Int) : Fre (TM0 m0 m1 reg us d) a ↔ ∃ k : Nat, k < (if d = 0 then m0 else m1) ∧ tkn reg (if d = 0 then m0 else m1) d us k = false ∧ a = k := by
 unfold TM0
 exact (runsOf _ _ (by split <;> omega)).fre a
theorem TM0_cnt {m0 m1 reg : Nat} {us : List (Int × Int)} {d : Int} (h0 : m0 ≤ 512) (h1 : m1 ≤ 512) : cnt (TM0 m0 m1 reg us d) = cntF (if d = 0 then m0 else m1) (tkn reg (if d = 0 then m0 else m1) d us) := by
 unfold TM0
 exact (runsOf _ _ (by split <;> omega)).cnt
end Abs
end Go.Proofs.YtdebiolekbldiaaGreatDoor
