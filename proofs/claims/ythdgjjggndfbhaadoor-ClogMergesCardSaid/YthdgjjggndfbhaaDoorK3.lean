/- Layer 13: ClogTail, walked. -/
import Derived.Test.YthdgjjggndfbhaaDoorK2
namespace Go.Proofs.YthdgjjggndfbhaaDoor
namespace Abs
set_option linter.unusedVariables false
set_option linter.unusedSimpArgs false
open Go.RowKit
attribute [local irreducible] WO WC WD StepK Ans Does Runs DoesD

theorem xor_u8 {b c : Nat} (hb : b < 256) (hc : c < 256) : binA .xor (bv b) (bv c) = some (bv (b ^^^ c)) := by
  have hx : b ^^^ c < 2 ^ 8 := Nat.xor_lt_two_pow (n := 8) hb hc
  have e : (BitVec.ofInt IntKind.u8.bits (Int.ofNat b) ^^^ BitVec.ofInt IntKind.u8.bits (Int.ofNat c)).toNat = b ^^^ c := by
    rw [BitVec.toNat_xor]
    have f : ∀ n : Nat, n < 256 → (BitVec.ofInt IntKind.u8.bits (Int.ofNat n)).toNat = n := by
      intro n hn
      show (BitVec.ofInt 8 (n : Int)).toNat = n
      rw [BitVec.ofInt_natCast, BitVec.toNat_ofNat]; exact Nat.mod_eq_of_lt hn
    rw [f b hb, f c hc]
  simp only [binA, if_true]
  rw [e]
  congr 2
  generalize b ^^^ c = z at *
  show ((z : Int) % 256) = (z : Int)
  omega
theorem xor_ne {b c : Nat} (hc : c ≠ 0) : b ^^^ c ≠ b := by
  intro h
  have : c = 0 := by
    have h2 : b ^^^ (b ^^^ c) = b ^^^ b := by rw [h]
    rwa [← Nat.xor_assoc, Nat.xor_self, Nat.zero_xor] at h2
  exact hc this
theorem toStr_ocl {h : Heap} {b n c z : Nat} {l : List Nat} (a : Cl h b (l.map bv)) (hn : l.length = n) (hb : ∀ x ∈ l, x < 256) : toStrA h (.oslice b 0 n c z) = some (.str l) := by
  simp only [toStrA, slLen, slCells]
  by_cases h0 : n = 0
  · subst hn
    have : l = [] := List.length_eq_zero_iff.1 h0
    subst this; rfl
  · rw [if_neg h0, Nat.mul_one, a.rds (by simpa using hn)]
    simp only [u8s_bv l hb]

section
variable {C : Cfg} (S : StdV C)
include S

theorem clogTail_ans (h : Heap) (hw : Wf h) (G : Gl gl h) (seq : Int) (x : V) (es : List Ent) (s : Ents h x es) (hb : ∀ e ∈ es, e.byt) (hn : es.length ≤ 9223372036854775807) (at_ : Int) (ch : Nat) (hch : ch < 256) :
    Ans C 6 [.agg [iv seq, x], iv at_, bv ch] h fun v h' => v = .bool true ∧ Grow h h' := by
  have hF : C.F 6 = some a6 := S.f rfl
  unfold a6 at hF
  refine Ans.val (fun _ _ => S.s _ _ _ rfl) hF rfl rfl hw fun h2 g => ?_
  clear hF
  refine WC.seqO ?_
  refine WO.ops (StepK.box rfl) <| WO.ops (StepK.mv rfl) ?_
  have a := Cl.new h2 [iv seq, x] none
  have g3 := g.push (.cells [iv seq, x] (.tip [] 0 none))
  change WO C _ _ (h2.push (.cells [iv seq, x] (.tip [] 0 none))) _
  generalize h2.push (.cells [iv seq, x] (.tip [] 0 none)) = h3 at *
  generalize h2.size = b at *
  refine WO.nil (WC.seq (WC.seqO ?_))
  refine WO.ops (StepK.loadN rfl (a.rds rfl)) ?_
  refine WO.call rfl rfl (small_ans S.toStdO h3 g3.wf seq x es (s.grow g3) hn) ?_
  rintro v h4 ⟨rfl, g4⟩
  have a := a.grow g4
  have g4 := g3.trans g4
  refine WO.ops (StepK.not rfl) <| WO.ops (StepK.mv rfl) ?_
  -- where nothing is asked
  have out : ∀ (e' : List (Nat × V)) (Q : Ex → List (Nat × V) → Heap → Prop), (∀ e', (Fin .ret ∧ Grow h h4 ∧ retE e' h4 [.tmp 6] = some (.bool true)) → Q .ret e' h4) → WC C (.seq (.ops [⟨(some 27), none, .call (.c (.func (.func 9) [] [])) []⟩, ⟨(some 6), none, .mv (.t 27)⟩]) .ret) e' h4 Q := by
    intro e' Q hQ
    refine WC.seqO ?_
    refine WO.call rfl rfl (live_ans S h4 (G.grow g4)) ?_
    rintro v h5 ⟨rfl, rfl⟩
    exact WO.ops (StepK.mv rfl) (WO.nil (WC.ret (hQ _ ⟨trivial, g4, rfl⟩)))
  refine WO.splitG rfl (fun hc => ?_) (fun hc => ?_)
  · (repeat (first | refine omv rfl ?_ | refine ols rfl (by first | with_reducible assumption | rfl) ?_ | refine ofa rfl ?_ | refine oad rfl rfl (by omega) ?_ | refine osb rfl rfl (by omega) ?_ | refine obn rfl rfl rfl ?_ | refine opt rfl rfl ?_ | refine opf rfl rfl ?_ | refine ont rfl ?_ | refine oeq rfl rfl rfl ?_ | refine oex rfl rfl ?_ | refine obu rfl rfl ?_ | refine ofd rfl rfl ?_ | refine olt rfl ?_ | refine onk rfl ?_ | refine old rfl (by first | with_reducible assumption | rfl) ?_ | refine WO.run rfl ?_ | refine WO.skip rfl rfl ?_ | refine WO.skipu rfl ?_))
    exact WO.nil (WC.condT rfl (out _ _ fun _ q => q))
  have hsm : smallF es := by simpa using hc
  clear hc
  (repeat (first | refine omv rfl ?_ | refine ols rfl (by first | with_reducible assumption | rfl) ?_ | refine ofa rfl ?_ | refine oad rfl rfl (by omega) ?_ | refine osb rfl rfl (by omega) ?_ | refine obn rfl rfl rfl ?_ | refine opt rfl rfl ?_ | refine opf rfl rfl ?_ | refine ont rfl ?_ | refine oeq rfl rfl rfl ?_ | refine oex rfl rfl ?_ | refine obu rfl rfl ?_ | refine ofd rfl rfl ?_ | refine olt rfl ?_ | refine onk rfl ?_ | refine old rfl (by first | with_reducible assumption | rfl) ?_ | refine WO.run rfl ?_ | refine WO.skip rfl rfl ?_ | refine WO.skipu rfl ?_))
  refine WO.splitG rfl (fun hc => ?_) (fun hc => ?_)
  · (repeat (first | refine omv rfl ?_ | refine ols rfl (by first | with_reducible assumption | rfl) ?_ | refine ofa rfl ?_ | refine oad rfl rfl (by omega) ?_ | refine osb rfl rfl (by omega) ?_ | refine obn rfl rfl rfl ?_ | refine opt rfl rfl ?_ | refine opf rfl rfl ?_ | refine ont rfl ?_ | refine oeq rfl rfl rfl ?_ | refine oex rfl rfl ?_ | refine obu rfl rfl ?_ | refine ofd rfl rfl ?_ | refine olt rfl ?_ | refine onk rfl ?_ | refine old rfl (by first | with_reducible assumption | rfl) ?_ | refine WO.run rfl ?_ | refine WO.skip rfl rfl ?_ | refine WO.skipu rfl ?_))
    exact WO.nil (WC.condT rfl (out _ _ fun _ q => q))
  have ha1 := of_decide_eq_false hc
  clear hc
  (repeat (first | refine omv rfl ?_ | refine ols rfl (by first | with_reducible assumption | rfl) ?_ | refine ofa rfl ?_ | refine oad rfl rfl (by omega) ?_ | refine osb rfl rfl (by omega) ?_ | refine obn rfl rfl rfl ?_ | refine opt rfl rfl ?_ | refine opf rfl rfl ?_ | refine ont rfl ?_ | refine oeq rfl rfl rfl ?_ | refine oex rfl rfl ?_ | refine obu rfl rfl ?_ | refine ofd rfl rfl ?_ | refine olt rfl ?_ | refine onk rfl ?_ | refine old rfl (by first | with_reducible assumption | rfl) ?_ | refine WO.run rfl ?_ | refine WO.skip rfl rfl ?_ | refine WO.skipu rfl ?_))
  refine WO.splitG rfl (fun hc => ?_) (fun hc => ?_)
  · (repeat (first | refine omv rfl ?_ | refine ols rfl (by first | with_reducible assumption | rfl) ?_ | refine ofa rfl ?_ | refine oad rfl rfl (by omega) ?_ | refine osb rfl rfl (by omega) ?_ | refine obn rfl rfl rfl ?_ | refine opt rfl rfl ?_ | refine opf rfl rfl ?_ | refine ont rfl ?_ | refine oeq rfl rfl rfl ?_ | refine oex rfl rfl ?_ | refine obu rfl rfl ?_ | refine ofd rfl rfl ?_ | refine olt rfl ?_ | refine onk rfl ?_ | refine old rfl (by first | with_reducible assumption | rfl) ?_ | refine WO.run rfl ?_ | refine WO.skip rfl rfl ?_ | refine WO.skipu rfl ?_))
    exact WO.nil (WC.condT rfl (out _ _ fun _ q => q))
  have ha2 := of_decide_eq_false hc
  clear hc
  (repeat (first | refine omv rfl ?_ | refine ols rfl (by first | with_reducible assumption | rfl) ?_ | refine ofa rfl ?_ | refine oad rfl rfl (by omega) ?_ | refine osb rfl rfl (by omega) ?_ | refine obn rfl rfl rfl ?_ | refine opt rfl rfl ?_ | refine opf rfl rfl ?_ | refine ont rfl ?_ | refine oeq rfl rfl rfl ?_ | refine oex rfl rfl ?_ | refine obu rfl rfl ?_ | refine ofd rfl rfl ?_ | refine olt rfl ?_ | refine onk rfl ?_ | refine old rfl (by first | with_reducible assumption | rfl) ?_ | refine WO.run rfl ?_ | refine WO.skip rfl rfl ?_ | refine WO.skipu rfl ?_))
  refine WO.nil (WC.cond rfl (fun hc => ?_) (fun hc => WC.skip (WC.seqO ?_)))
  · exact out _ _ fun _ q => q
  have hc0 : ch ≠ 0 := by
    rintro rfl
    cases hc
  clear hc out
  have h40 : es.length ≤ 40 := hsm.2
  refine WO.ops (StepK.loadN rfl (a.rds rfl)) ?_
  refine WO.call rfl rfl (own_ans S.toStdO h4 g4.wf seq x es (s.grow g4) (by omega)) ?_
  rintro v h5 ⟨y, rfl, gy, g5⟩
  have sy : Ents h5 y es := gy.sl
  have g5 := g4.trans g5
  refine WO.call rfl rfl (cencode_ans S.toStdO h5 g5.wf (G.grow g5).ro seq y es sy (by omega) hb) ?_
  rintro v h6 ⟨rfl, g6⟩
  have g6 := g5.trans g6
  (repeat (first | refine omv rfl ?_ | refine ols rfl (by first | with_reducible assumption | rfl) ?_ | refine ofa rfl ?_ | refine oad rfl rfl (by omega) ?_ | refine osb rfl rfl (by omega) ?_ | refine obn rfl rfl rfl ?_ | refine opt rfl rfl ?_ | refine opf rfl rfl ?_ | refine ont rfl ?_ | refine oeq rfl rfl rfl ?_ | refine oex rfl rfl ?_ | refine obu rfl rfl ?_ | refine ofd rfl rfl ?_ | refine olt rfl ?_ | refine onk rfl ?_ | refine old rfl (by first | with_reducible assumption | rfl) ?_ | refine WO.run rfl ?_ | refine WO.skip rfl rfl ?_ | refine WO.skipu rfl ?_))
  refine WO.nil (WC.seq (WC.seqO ?_))
  refine WO.ops (StepK.mv rfl) <| WO.ops (StepK.bin rfl rfl rfl) <| WO.ops (StepK.mv rfl) ?_
  refine WO.splitG rfl (fun hc => ?_) (fun hc => ?_)
  · have hc : codeF seq es ≠ 0 := by simpa using hc
    have hno : ¬ blkOk seq es := fun q => hc (by unfold codeF; rw [if_pos q])
    have he : encF seq es = [] := by unfold encF; rw [if_neg hno]
    have hco : codeF seq es = 1 := by unfold codeF; rw [if_neg hno]
    rw [he, hco]
    (repeat (first | refine omv rfl ?_ | refine ols rfl (by first | with_reducible assumption | rfl) ?_ | refine ofa rfl ?_ | refine oad rfl rfl (by omega) ?_ | refine osb rfl rfl (by omega) ?_ | refine obn rfl rfl rfl ?_ | refine opt rfl rfl ?_ | refine opf rfl rfl ?_ | refine ont rfl ?_ | refine oeq rfl rfl rfl ?_ | refine oex rfl rfl ?_ | refine obu rfl rfl ?_ | refine ofd rfl rfl ?_ | refine olt rfl ?_ | refine onk rfl ?_ | refine old rfl (by first | with_reducible assumption | rfl) ?_ | refine WO.run rfl ?_ | refine WO.skip rfl rfl ?_ | refine WO.skipu rfl ?_))
    refine WO.nil (WC.condT rfl (WC.seqO ?_))
    refine WO.ops (StepK.mv rfl) <| WO.ops (StepK.bin (v := .bool true) rfl rfl rfl) <| WO.ops (StepK.mv rfl) <| WO.run rfl <| WO.ops (StepK.mv rfl) <| WO.run rfl <| WO.ops (StepK.bin (v := .bool true) rfl rfl rfl) <| WO.ops (StepK.pickT rfl rfl) <| WO.ops (StepK.mv rfl) <| WO.run rfl ?_
    refine WO.call rfl rfl (live_ans S h6 (G.grow g6)) ?_
    rintro v h7 ⟨rfl, rfl⟩
    (repeat (first | refine omv rfl ?_ | refine ols rfl (by first | with_reducible assumption | rfl) ?_ | refine ofa rfl ?_ | refine oad rfl rfl (by omega) ?_ | refine osb rfl rfl (by omega) ?_ | refine obn rfl rfl rfl ?_ | refine opt rfl rfl ?_ | refine opf rfl rfl ?_ | refine ont rfl ?_ | refine oeq rfl rfl rfl ?_ | refine oex rfl rfl ?_ | refine obu rfl rfl ?_ | refine ofd rfl rfl ?_ | refine olt rfl ?_ | refine onk rfl ?_ | refine old rfl (by first | with_reducible assumption | rfl) ?_ | refine WO.run rfl ?_ | refine WO.skip rfl rfl ?_ | refine WO.skipu rfl ?_))
    exact WO.nil (WC.ret ⟨trivial, g6, rfl⟩)
  have hok : blkOk seq es := by
    have hc : codeF seq es = 0 := by simpa using hc
    unfold codeF at hc; split at hc
    · assumption
    · cases hc
  clear hc
  have hel : 41 ≤ (encF seq es).length ∧ (encF seq es).length ≤ 800 := by
    have := encT_len hok
    unfold encF; rw [if_pos hok, List.length_append, ofF_len]; omega
  have hsplit : encF seq es = encT seq es ++ ofF (encT seq es) := by unfold encF; rw [if_pos hok]
  have heb : Byt (encF seq es) := by
    rw [hsplit]
    exact ((encH_byt _ _).app (encs_byt es hb)).app (ofF_byt _)
  have hTl := (encT_len hok).1
  generalize encF seq es = t at *
  refine WO.run rfl <| WO.ops (StepK.mv rfl) <| WO.run rfl <| WO.ops (StepK.lenStr rfl) <| WO.run rfl <| WO.ops (StepK.bin rfl rfl rfl) <| WO.ops (StepK.pickF rfl rfl) ?_
  refine WO.nil (WC.cond rfl (fun hc => ?_) (fun hc => WC.skip (WC.seqO ?_)))
  · have hc := of_decide_eq_true hc
    omega
  refine WO.ops (StepK.mv rfl) <| WO.ops (StepK.toBytes rfl) <| WO.ops (StepK.mv rfl) ?_
  have at6 := Cl.new h6 (bytesV t) none
  have gp := (Grow.refl g6.wf).push (.cells (bytesV t) (.tip [] 0 none))
  have g7 := g6.trans gp
  have hs6 := g6.size
  change WO C _ _ (h6.push (.cells (bytesV t) (.tip [] 0 none))) _
  generalize h6.push (.cells (bytesV t) (.tip [] 0 none)) = h7 at *
  generalize h6.size = c at *
  have at6 : Cl h7 c (t.map bv) := at6
  obtain ⟨i, hi⟩ : ∃ i : Nat, (t.length : Int) - at_ = i := ⟨((t.length : Int) - at_).toNat, by omega⟩
  have hil : i < t.length := by omega
  have hix : idxSlA 1 (.oslice c 0 t.length t.length 0) (iv i) = some (.ptr (some (c, i))) := by
    simp only [idxSlA, intV]; rw [if_pos ⟨by omega, by omega⟩]; simp
  have hrd : h7.rd c i = some (bv t[i]) := at6.rd (by rw [List.getElem?_map, List.getElem?_eq_getElem hil]; rfl)
  have hti : t[i] < 256 := heb _ (List.getElem_mem hil)
  obtain ⟨h8, u1, u2, u3, u4⟩ := at6.set g7.wf (i := i) (v := bv (t[i] ^^^ ch)) (by simpa using hil) rfl
  rw [← List.map_set (f := bv)] at u2
  have g8 := Chg.newGrow g7 u3 hw (by simpa using hs6)
  refine WO.nil (WC.seqO ?_)
  refine WO.ops (StepK.mv rfl) <| WO.ops (StepK.mv rfl) <| WO.ops (StepK.lenSl rfl rfl) <| WO.ops (StepK.mv rfl) <| WO.ops (StepK.sub rfl rfl (by omega)) <| WO.ops (StepK.mv rfl) <| WO.ops (StepK.mv rfl) <| WO.ops (StepK.lenSl rfl rfl) <| WO.ops (StepK.mv rfl) <| WO.ops (StepK.sub rfl rfl (by omega)) ?_
  rw [hi]
  refine WO.ops (StepK.idxSl rfl rfl hix) <| WO.ops (StepK.load1 rfl hrd) <| WO.ops (StepK.mv rfl) <| WO.ops (StepK.bin rfl rfl (xor_u8 hti hch)) <| WO.ops (StepK.idxSl rfl rfl hix) ?_
  refine WO.op (StepK.store rfl rfl rfl u1) ?_
  refine WO.nil (WC.seqO ?_)
  have hxl : t[i] ^^^ ch < 256 := Nat.xor_lt_two_pow (n := 8) hti hch
  have hb2 : Byt (t.set i (t[i] ^^^ ch)) := by
    intro z hz
    rcases List.mem_or_eq_of_mem_set hz with q | q
    · exact heb z q
    · omega
  have hdec : decF (t.set i (t[i] ^^^ ch)) = ⟨0, [], 4⟩ := by
    have hlen : t.length = (encT seq es).length + 32 := by rw [hsplit, List.length_append, ofF_len]
    obtain ⟨j, hj⟩ : ∃ j, i = (encT seq es).length + j := ⟨i - (encT seq es).length, by omega⟩
    have hjl : j < (ofF (encT seq es)).length := by rw [ofF_len]; omega
    have hget : t[i] = (ofF (encT seq es))[j] := by
      have : t[i]? = (ofF (encT seq es))[j]? := by
        rw [hsplit, hj, List.getElem?_append_right (by omega)]; congr 1; omega
      rw [List.getElem?_eq_getElem hil, List.getElem?_eq_getElem hjl] at this
      exact Option.some.inj this
    have hset : t.set i (t[i] ^^^ ch) = encT seq es ++ (ofF (encT seq es)).set j (t[i] ^^^ ch) := by
      generalize t[i] ^^^ ch = z
      rw [hsplit, hj, List.set_append_right _ _ (by omega)]; congr 2; omega
    rw [hset]
    refine dec_bad _ _ (by omega) (by rw [List.length_set, ofF_len]) (fun q => ?_)
    have := congrArg (fun l => l[j]?) q
    simp only [List.getElem?_set_self hjl, List.getElem?_eq_getElem hjl, Option.some.injEq] at this
    rw [hget] at this
    exact xor_ne hc0 this.symm
  refine WO.ops (StepK.mv rfl) <| WO.ops (StepK.toStr rfl (toStr_ocl u2 (by simp) hb2)) ?_
  refine WO.call rfl rfl (cdecode_ans S.toStdO h8 g8.wf (G.grow g8).ro _ (by simp; omega) hb2) ?_
  rw [hdec]
  rintro v h9 ⟨z, rfl, g9, gz⟩
  have hz : z = .slice none 0 0 := by
    obtain ⟨_, ⟨q, _⟩ | ⟨b', S', ty, _, q, _⟩⟩ := gz
    · exact q
    · exact absurd rfl q
  subst hz
  have g9 := g8.trans g9
  refine WO.ops (StepK.mv rfl) <| WO.ops (StepK.extract rfl rfl) <| WO.ops (StepK.extract rfl rfl) <| WO.ops StepK.alloc ?_
  have a2 := Cl.new h9 [iv 0, .slice none 0 0] none
  have gp := (Grow.refl g9.wf).push (.cells [iv 0, .slice none 0 0] (.tip [] 0 none))
  have g10 := g9.trans gp
  have hs9 := g9.size
  change WO C _ _ (h9.push (.cells [iv 0, .slice none 0 0] (.tip [] 0 none))) _
  generalize h9.push (.cells [iv 0, .slice none 0 0] (.tip [] 0 none)) = h10 at *
  generalize h9.size = d at *
  obtain ⟨h11, w1, w2, w3, w4⟩ := a2.sets g10.wf (i := 0) (us := [iv 0, .slice none 0 0]) (by simp) rfl
  have w2 : Cl h11 d [iv 0, .slice none 0 0] := w2
  have g11 := Chg.newGrow g10 w3 hw (by simpa using hs9)
  refine WO.op (StepK.store rfl rfl rfl w1) ?_
  refine WO.ops (StepK.mv rfl) ?_
  refine WO.nil (WC.seqO ?_)
  refine WO.ops (StepK.mv rfl) <| WO.ops (StepK.bin (v := .bool true) rfl rfl rfl) <| WO.ops (StepK.mv rfl) <| WO.run rfl <| WO.ops (StepK.fieldAddr rfl) <| WO.run rfl <| WO.ops (StepK.load1 rfl (w2.rd rfl)) <| WO.run rfl <| WO.ops (StepK.lenSl rfl rfl) <| WO.run rfl <| WO.ops (StepK.bin (v := .bool true) rfl rfl rfl) <| WO.ops (StepK.pickT rfl rfl) <| WO.ops (StepK.mv rfl) <| WO.run rfl ?_
  refine WO.call rfl rfl (live_ans S h11 (G.grow g11)) ?_
  rintro v h12 ⟨rfl, rfl⟩
  (repeat (first | refine omv rfl ?_ | refine ols rfl (by first | with_reducible assumption | rfl) ?_ | refine ofa rfl ?_ | refine oad rfl rfl (by omega) ?_ | refine osb rfl rfl (by omega) ?_ | refine obn rfl rfl rfl ?_ | refine opt rfl rfl ?_ | refine opf rfl rfl ?_ | refine ont rfl ?_ | refine oeq rfl rfl rfl ?_ | refine oex rfl rfl ?_ | refine obu rfl rfl ?_ | refine ofd rfl rfl ?_ | refine olt rfl ?_ | refine onk rfl ?_ | refine old rfl (by first | with_reducible assumption | rfl) ?_ | refine WO.run rfl ?_ | refine WO.skip rfl rfl ?_ | refine WO.skipu rfl ?_))
  exact WO.nil (WC.ret ⟨trivial, g11, rfl⟩)
end
end Abs
end Go.Proofs.YthdgjjggndfbhaaDoor
