/- What the document's functions for numbers of fixed width answer: as fixed's. -/
import Derived.Test.YthdgjjggndfbhaaDoorB11
namespace Go.Proofs.YthdgjjggndfbhaaDoor
namespace Abs
set_option linter.unusedVariables false
set_option linter.unusedSimpArgs false
open Go.RowKit
attribute [local irreducible] WO WC WD StepK Ans Does Runs DoesD

theorem flat_bv (l : List Nat) : (l.map fun b => [bv b]).flatten = l.map bv := by
  induction l with
  | nil => rfl
  | cons a r ih => simp only [List.map_cons, List.flatten_cons, ih]; rfl
theorem toStr_grown {h : Heap} {low : Nat} {y : V} {l : List Nat} (g : Grown h low 1 y (l.map fun b => [bv b])) (hb : Byt l) : toStrA h y = some (.str l) := by
  obtain ⟨_, ⟨rfl, q⟩ | ⟨b', S', ty, rfl, q, _, q4⟩⟩ := g
  · obtain rfl : l = [] := by simpa using q
    rfl
  · rw [flat_bv] at q4
    have hl : l.length ≠ 0 := by intro e; exact q (by rw [List.length_eq_zero_iff.1 e]; rfl)
    simp only [toStrA, slLen, slCells, List.length_map, Nat.mul_one]
    rw [if_neg hl, rds_all q4 (by simp)]
    simp only [u8s_bv l hb]
theorem rem_nn (m k : Nat) (hk : k ≠ 0) : binA .rem (iv m) (iv k) = some (iv ((m % k : Nat) : Int)) := by
  simp only [binA]
  rw [if_pos ⟨trivial, by omega⟩]; rfl
theorem quo_nn (m k : Nat) (hk : k ≠ 0) (hm : m < 9223372036854775808) : binA .quo (iv m) (iv k) = some (iv ((m / k : Nat) : Int)) := by
  simp only [binA]
  rw [if_pos ⟨trivial, by omega⟩]
  have : (m : Int).tdiv k = ((m / k : Nat) : Int) := rfl
  have hle : m / k ≤ m := Nat.div_le_self _ _
  rw [this]
  generalize m / k = q at *
  rw [StepK.wrap64 (by omega) (by omega)]
theorem byte_mod (m : Nat) : IntKind.u8.wrap ((m % 256 : Nat) : Int) = Int.ofNat (m % 256) := by
  show (((m % 256 : Nat) : Int) % 256) = ((m % 256 : Nat) : Int)
  omega
theorem leV_drop {t : List Nat} {k : Nat} (h : k < t.length) : leV (t.drop k) = t.getD k 0 + 256 * leV (t.drop (k + 1)) := by
  rw [List.drop_eq_getElem_cons h, List.getD_eq_getElem?_getD, List.getElem?_eq_getElem h]; rfl

section
variable {C : Cfg} (S : StdM C)
include S

theorem rmost_ans (h : Heap) (hw : Wf h) (w : Int) : Ans C 53 [iv w] h fun v h' => v = iv (mostF w) ∧ Grow h h' := by
  have hF : C.F 53 = some a53 := S.f rfl
  unfold a53 at hF
  refine Ans.val (fun _ _ => S.s _ _ _ rfl) hF rfl rfl hw fun h2 g => ?_
  clear hF
  have fin : ∀ (e' : List (Nat × V)) (c : Int), Env.get e' 2 = some (iv c) → c = mostF w → Fin .ret ∧ Grow h h2 ∧ retE e' h2 [.tmp 2] = some (iv (mostF w)) := by
    intro e' c he hc
    refine ⟨trivial, g, ?_⟩
    simp only [retE, ressE, resE, he, oneOf, hc]
  refine WC.seqO (omv rfl (WO.nil (WC.seq (WC.seqO ?_))))
  refine omv rfl <| obn rfl rfl rfl <| omv rfl ?_
  refine WO.splitG rfl (fun hc => ?_) (fun hc => ?_)
  · have hc := of_decide_eq_true hc
    refine WO.skip rfl rfl <| WO.skip rfl rfl <| opt rfl rfl ?_
    refine WO.nil (WC.condT rfl (WC.seqO (omv rfl (WO.nil (WC.ret (fin _ _ rfl ?_))))))
    rw [mostF, if_pos (.inl hc)]
  have hc := of_decide_eq_false hc
  refine WO.run rfl <| omv rfl <| WO.run rfl <| obn rfl rfl rfl <| opf rfl rfl ?_
  refine WO.nil (WC.cond rfl (fun hc2 => ?_) (fun hc2 => WC.skip (WC.seqO (omv rfl (WO.nil (WC.seq (WC.seqO (omv rfl (WO.nil (WC.block ?_)))))))))) 
  · have hc2 := of_decide_eq_true hc2
    refine WC.seqO (omv rfl (WO.nil (WC.ret (fin _ _ rfl ?_))))
    rw [mostF, if_pos (.inr hc2)]
  have hc2 := of_decide_eq_false hc2
  obtain ⟨k, rfl⟩ : ∃ k : Nat, w = k := ⟨w.toNat, by omega⟩
  have hpow : ∀ p : Nat, p ≤ 7 → (256 : Nat) ^ p ≤ 72057594037927936 := by
    intro p hp
    have : p = 0 ∨ p = 1 ∨ p = 2 ∨ p = 3 ∨ p = 4 ∨ p = 5 ∨ p = 6 ∨ p = 7 := by omega
    rcases this with e | e | e | e | e | e | e | e <;> subst e <;> decide
  refine WC.loop (σ := Nat) (fun p => [(0, iv k), (3, iv ((256 ^ p : Nat) : Int)), (4, iv p)]) (fun p h' => h' = h2 ∧ p ≤ k) (fun p => k - p) 0 (Cov.cons rfl (Cov.cons rfl (Cov.cons rfl (Cov.nil _)))) ⟨rfl, by omega⟩ ?_
  rintro p h3 ⟨rfl, hp⟩
  refine WC.seq (WC.seqO ?_)
  refine omv rfl <| omv rfl <| obn rfl rfl rfl ?_
  refine WO.nil (WC.cond rfl (fun hc3 => WC.skip ?_) (fun hc3 => WC.exit ?_))
  · have hc3 := of_decide_eq_true hc3
    have hb := hpow p (by omega)
    have hs : (256 : Nat) ^ (p + 1) = 256 ^ p * 256 := Nat.pow_succ ..
    have hb2 := hpow (p + 1) (by omega)
    have hmul : binA .mul (iv ((256 ^ p : Nat) : Int)) (iv 256) = some (iv ((256 ^ (p + 1) : Nat) : Int)) := by
      rw [bin_mul (by omega)]; congr 2 <;> omega
    refine WC.seq (WC.block (WC.ops ?_))
    refine omv rfl <| obn rfl rfl hmul <| omv rfl (WO.nil (WC.ops ?_))
    refine omv rfl <| oad rfl rfl (by omega) <| omv rfl ?_
    exact WO.nil ⟨p + 1, Cov.cons rfl (Cov.cons rfl (Cov.cons rfl (Cov.nil _))), ⟨rfl, by omega⟩, by omega⟩
  · have hc3 := of_decide_eq_false hc3
    obtain rfl : p = k := by omega
    have hb := hpow p (by omega)
    have h0 : 0 < (256 : Nat) ^ p := Nat.pow_pos (by decide)
    refine WC.seqO ?_
    refine omv rfl <| osb rfl rfl (by omega) <| omv rfl ?_
    refine WO.nil (WC.ret (fin _ _ rfl ?_))
    rw [mostF, if_neg (by omega), Int.toNat_natCast, ← pow256]
    push_cast; rfl

theorem rput_ans (h : Heap) (hw : Wf h) (n w : Int) (hnn : n < 9223372036854775808) : Ans C 27 [iv n, iv w] h fun v h' => v = .str (putF n w) ∧ Grow h h' := by
  have hF : C.F 27 = some a27 := S.f rfl
  unfold a27 at hF
  refine Ans.val (fun _ _ => S.s _ _ _ rfl) hF rfl rfl hw fun h2 g => ?_
  clear hF
  have fin : ∀ (h3 : Heap) (e' : List (Nat × V)) (c : List Nat), Grow h h3 → Env.get e' 4 = some (.str c) → c = putF n w → Fin .ret ∧ Grow h h3 ∧ retE e' h3 [.tmp 4] = some (.str (putF n w)) := by
    intro h3 e' c g3 he hc
    refine ⟨trivial, g3, ?_⟩
    simp only [retE, ressE, resE, he, oneOf, hc]
  refine WC.seqO (omv rfl (WO.nil (WC.seq (WC.seqO ?_))))
  refine omv rfl <| obn rfl rfl rfl <| omv rfl ?_
  refine WO.splitG rfl (fun hc => ?_) (fun hc => ?_)
  · have hc := of_decide_eq_true hc
    refine WO.skip rfl rfl <| WO.skip rfl rfl <| WO.skip rfl rfl <| WO.skip rfl rfl <| opt rfl rfl ?_
    refine WO.nil (WC.condT rfl (WC.seqO (omv rfl (WO.nil (WC.ret (fin _ _ _ g rfl ?_))))))
    rw [putF, if_pos (.inl hc)]
  have hc := of_decide_eq_false hc
  refine WO.run rfl <| omv rfl <| WO.run rfl <| omv rfl <| WO.run rfl ?_
  refine WO.call rfl rfl (rmost_ans S h2 g.wf w) ?_
  rintro v h3 ⟨rfl, g3⟩
  have g3 := g.trans g3
  refine WO.run rfl <| obn rfl rfl rfl <| opf rfl rfl ?_
  refine WO.nil (WC.cond rfl (fun hc2 => ?_) (fun hc2 => WC.skip (WC.seqO (omv rfl (WO.nil (WC.seq (WC.seqO (omv rfl (WO.nil (WC.block ?_)))))))))) 
  · have hc2 := of_decide_eq_true hc2
    refine WC.seqO (omv rfl (WO.nil (WC.ret (fin _ _ _ g3 rfl ?_))))
    rw [putF, if_pos (.inr hc2)]
  have hc2 := of_decide_eq_false hc2
  obtain ⟨w1, w7, hlt⟩ := most_pos hc hc2
  obtain ⟨m, rfl⟩ : ∃ m : Nat, n = m := ⟨n.toNat, by omega⟩
  obtain ⟨k, rfl⟩ : ∃ k : Nat, w = k := ⟨w.toNat, by omega⟩
  refine WC.loop (σ := Nat × V) (fun p => [(0, iv ((m / 256 ^ p.1 : Nat) : Int)), (1, iv k), (5, p.2), (6, iv p.1)]) (fun p h' => Grow h h' ∧ p.1 ≤ k ∧ Grown h' h.size 1 p.2 ((leB p.1 m).map fun b => [bv b])) (fun p => k - p.1) (0, .slice none 0 0) (Cov.cons (by simp [Env.get, argsE]) (Cov.cons rfl (Cov.cons rfl (Cov.cons rfl (Cov.nil _))))) ⟨g3, by omega, Grown.nil _ _ _⟩ ?_
  rintro ⟨p, y⟩ h4 ⟨g4, hp, gy⟩
  simp only at hp gy ⊢
  refine WC.seq (WC.seqO ?_)
  refine omv rfl <| omv rfl <| obn rfl rfl rfl ?_
  refine WO.nil (WC.cond rfl (fun hc3 => WC.skip ?_) (fun hc3 => WC.exit ?_))
  · have hc3 := of_decide_eq_true hc3
    have hle : m / 256 ^ p ≤ m := Nat.div_le_self _ _
    refine WC.seq (WC.block (WC.seqO ?_))
    refine omv rfl <| omv rfl <| obn rfl rfl (rem_nn _ 256 (by decide)) <| WO.ops (StepK.toInt rfl (byte_mod _)) <| WO.ops (StepK.buildSl rfl rfl) ?_
    have gp := (Grow.refl g4.wf).push (.cells [bv (m / 256 ^ p % 256)] (.tip [] 0 (some 5)))
    have hnew : (h4.push (.cells [bv (m / 256 ^ p % 256)] (.tip [] 0 (some 5)))).get h4.size = some (.cells [bv (m / 256 ^ p % 256)] (.tip [] 0 (some 5))) := get_push_self _ _
    have g5 := g4.trans gp
    have gy := gy.grow gp
    change WO C _ _ (h4.push (.cells [bv (m / 256 ^ p % 256)] (.tip [] 0 (some 5)))) _
    generalize h4.push (.cells [bv (m / 256 ^ p % 256)] (.tip [] 0 (some 5))) = h5 at *
    obtain ⟨v, h6, u1, u2, u3, u4, u5⟩ := Grown.append2 (bytes := 1) (tyK := some 5) hw g5 gy (sl_one hnew rfl) (by decide) (by decide) (by unfold roomy; exact decide_eq_true (by simp [leB_len]; omega)) (by simp [V.one])
    refine WO.ops (StepK.append rfl rfl u1) <| omv rfl (WO.nil (WC.ops ?_))
    refine omv rfl <| obn rfl rfl (quo_nn _ 256 (by decide) (by omega)) <| omv rfl (WO.nil (WC.ops ?_))
    refine omv rfl <| oad rfl rfl (by omega) <| omv rfl ?_
    refine WO.nil ⟨(p + 1, v), Cov.cons ?_ (Cov.cons rfl (Cov.cons rfl (Cov.cons rfl (Cov.nil _)))), ⟨u3, by simp only; omega, ?_⟩, by simp only; omega⟩
    · simp only [Env.get]; rw [Nat.div_div_eq_div_mul, ← Nat.pow_succ]; rfl
    · simp only [leB, List.map_append]; exact u2
  · have hc3 := of_decide_eq_false hc3
    obtain rfl : p = k := by omega
    refine WC.seqO ?_
    refine omv rfl <| WO.ops (StepK.toStr rfl (toStr_grown gy (leB_byt p m))) <| omv rfl ?_
    refine WO.nil (WC.ret (fin _ _ _ g4 rfl ?_))
    rw [putF, if_neg (by omega)]; rfl

theorem rftext_ans (h : Heap) (hw : Wf h) (s : List Nat) (w : Int) (hs : s.length ≤ 1000000000000) : Ans C 28 [.str s, iv w] h fun v h' => v = .str (textF s w) ∧ Grow h h' := by
  have hF : C.F 28 = some a28 := S.f rfl
  unfold a28 at hF
  refine Ans.val (fun _ _ => S.s _ _ _ rfl) hF rfl rfl hw fun h2 g => ?_
  clear hF
  refine WC.seqO (omv rfl (WO.nil (WC.seq (WC.seqO ?_))))
  refine omv rfl <| olt rfl <| omv rfl ?_
  refine WO.call rfl rfl (rmost_ans S h2 g.wf w) ?_
  rintro v h3 ⟨rfl, g3⟩
  have g3 := g.trans g3
  refine obn rfl rfl rfl (WO.nil ?_)
  refine WC.cond rfl (fun hc2 => WC.seqO ?_) (fun hc2 => WC.skip (WC.seqO ?_))
  · have hc2 := of_decide_eq_true hc2
    refine omv rfl (WO.nil (WC.ret ⟨trivial, g3, ?_⟩))
    show some (V.str []) = some (.str (textF s w)); rw [textF, if_pos hc2]
  have hc2 := of_decide_eq_false hc2
  refine omv rfl <| olt rfl <| omv rfl ?_
  refine WO.call rfl rfl (rput_ans S h3 g3.wf s.length w (by omega)) ?_
  rintro v h4 ⟨rfl, g4⟩
  have hl : (putF s.length w).length ≤ 7 := by
    unfold putF
    split
    · simp
    · rename_i q
      have := most_pos (n := s.length) (w := w) (by omega) (by omega)
      rw [leB_len]; omega
  refine omv rfl <| obn rfl rfl (add_str (by omega)) <| omv rfl ?_
  refine WO.nil (WC.ret ⟨trivial, g3.trans g4, ?_⟩)
  show some (V.str _) = some (.str (textF s w)); rw [textF, if_neg hc2]

theorem rbytes_ans (h : Heap) (hw : Wf h) (b : Nat) (s : List Nat) (e n : Int) (a : RdAt h b s e) :
    Ans C 43 [.ptr (some (b, 0)), iv n] h fun v h' => v = .str (bytesF s e n).1 ∧ RdAt h' b (bytesF s e n).2.1 (bytesF s e n).2.2 ∧ Chg [b] h h' := by
  have hF : C.F 43 = some a43 := S.f rfl
  unfold a43 at hF
  have hbl := Cl.lt a hw
  refine Ans.loc S.hm (S.s _ _ _ rfl) hF rfl rfl hw (fun h2 g hsz hge => ?_) ?_
  rotate_left
  · exact fun v h1 hg q hv => ⟨q.1, rdAt_loc hbl hg q.2.1, Chg.refl hw⟩
  clear hF
  have a2 : Cl h2 b [.str s, iv e] := Cl.grow a g
  refine WC.seqO (omv rfl (WO.nil (WC.seq (WC.seqO ?_))))
  refine omv rfl <| onk rfl <| ofa rfl <| old rfl (a2.rd rfl) <| obn rfl rfl rfl (WO.nil ?_)
  refine WC.cond rfl (fun hc => WC.seqO ?_) (fun hc => WC.skip (WC.seq (WC.seqO ?_)))
  · have hc : e ≠ 0 := by simpa using hc
    refine omv rfl (WO.nil (WC.ret ⟨trivial, _, rfl, fun k => ?_⟩))
    simp only [bytesF, takeF, if_pos hc]
    exact ⟨rfl, a2, (g.low1 k).chg _⟩
  have hc : e = 0 := by simpa using hc
  subst hc
  refine omv rfl <| obn rfl rfl rfl (WO.nil ?_)
  refine WC.cond rfl (fun hc => WC.seqO ?_) (fun hc => WC.skip (WC.seq (WC.seqO ?_)))
  · have hc := of_decide_eq_true hc
    obtain ⟨h3, q1, q2, q3, q4⟩ := a2.set g.wf (i := 1) (by exact (by decide : 1 < 2)) (v := iv 1) rfl
    refine omv rfl <| onk rfl <| ofa rfl ?_
    refine WO.op (StepK.store rfl rfl rfl q1) (WO.nil (WC.seqO (omv rfl (WO.nil (WC.ret ⟨trivial, _, rfl, fun k => ?_⟩)))))
    simp only [bytesF, takeF, ne_eq, not_true_eq_false, if_false, if_pos hc]
    exact ⟨rfl, q2, (Chg.of_same q3 hsz hge).low k⟩
  have hc0 := of_decide_eq_false hc
  refine omv rfl <| omv rfl <| onk rfl <| ofa rfl <| old rfl (a2.rd rfl) <| olt rfl <| obn rfl rfl rfl (WO.nil ?_)
  refine WC.cond rfl (fun hc => WC.seqO ?_) (fun hc => WC.skip (WC.seqO ?_))
  · have hc := of_decide_eq_true hc
    obtain ⟨h3, q1, q2, q3, q4⟩ := a2.set g.wf (i := 1) (by exact (by decide : 1 < 2)) (v := iv 2) rfl
    refine omv rfl <| onk rfl <| ofa rfl ?_
    refine WO.op (StepK.store rfl rfl rfl q1) (WO.nil (WC.seqO (omv rfl (WO.nil (WC.ret ⟨trivial, _, rfl, fun k => ?_⟩)))))
    simp only [bytesF, takeF, ne_eq, not_true_eq_false, if_false, if_neg hc0, if_pos hc]
    exact ⟨rfl, q2, (Chg.of_same q3 hsz hge).low k⟩
  have hc := of_decide_eq_false hc
  refine omv rfl <| onk rfl <| ofa rfl <| old rfl (a2.rd rfl) <| omv rfl <| WO.ops (StepK.sliceStr rfl rfl rfl (str_lo (by omega) (by omega))) <| omv rfl (WO.nil (WC.seqO ?_))
  obtain ⟨h3, q1, q2, q3, q4⟩ := a2.set g.wf (i := 0) (by exact (by decide : 0 < 2)) (v := .str (s.drop n.toNat)) rfl
  refine omv rfl <| omv rfl <| onk rfl <| ofa rfl <| old rfl (a2.rd rfl) <| omv rfl <| WO.ops (StepK.sliceStr rfl rfl rfl (str_hi (by omega) (by omega))) <| onk rfl <| ofa rfl ?_
  refine WO.op (StepK.store rfl rfl rfl q1) (WO.nil (WC.seqO ?_))
  refine omv rfl <| omv rfl (WO.nil (WC.ret ⟨trivial, _, rfl, fun k => ?_⟩))
  simp only [bytesF, takeF, ne_eq, not_true_eq_false, if_false, if_neg hc0, if_neg hc]
  exact ⟨rfl, q2, (Chg.of_same q3 hsz hge).low k⟩

theorem rnumber_ans (h : Heap) (hw : Wf h) (b : Nat) (s : List Nat) (e w : Int) (a : RdAt h b s e) (hs : Byt s) :
    Ans C 41 [.ptr (some (b, 0)), iv w] h fun v h' => v = iv (numberF s e w).1 ∧ RdAt h' b (numberF s e w).2.1 (numberF s e w).2.2 ∧ Chg [b] h h' := by
  have hF : C.F 41 = some a41 := S.f rfl
  unfold a41 at hF
  have hbl := Cl.lt a hw
  refine Ans.loc S.hm (S.s _ _ _ rfl) hF rfl rfl hw (fun h2 g hsz hge => ?_) ?_
  rotate_left
  · exact fun v h1 hg q hv => ⟨q.1, rdAt_loc hbl hg q.2.1, Chg.refl hw⟩
  clear hF
  have a2 : Cl h2 b [.str s, iv e] := Cl.grow a g
  refine WC.seqO (omv rfl (WO.nil (WC.seq (WC.seqO ?_))))
  refine omv rfl <| onk rfl <| ofa rfl <| old rfl (a2.rd rfl) <| obn rfl rfl rfl (WO.nil ?_)
  refine WC.cond rfl (fun hc => WC.seqO ?_) (fun hc => WC.skip (WC.seq (WC.seqO ?_)))
  · have hc : e ≠ 0 := by simpa using hc
    refine omv rfl (WO.nil (WC.ret ⟨trivial, _, rfl, fun k => ?_⟩))
    simp only [numberF, takeF, if_pos hc]
    exact ⟨rfl, a2, (g.low1 k).chg _⟩
  have hc : e = 0 := by simpa using hc
  subst hc
  refine omv rfl ?_
  refine WO.call rfl rfl (rmost_ans S h2 g.wf w) ?_
  rintro v h3 ⟨rfl, g3⟩
  have a3 := a2.grow g3
  refine obn rfl rfl rfl (WO.nil ?_)
  refine WC.cond rfl (fun hc => WC.seqO ?_) (fun hc => WC.skip (WC.seqO ?_))
  · have hc := of_decide_eq_true hc
    obtain ⟨h4, q1, q2, q3, q4⟩ := a3.set g3.wf (i := 1) (by exact (by decide : 1 < 2)) (v := iv 1) rfl
    refine omv rfl <| onk rfl <| ofa rfl ?_
    refine WO.op (StepK.store rfl rfl rfl q1) (WO.nil (WC.seqO (omv rfl (WO.nil (WC.ret ⟨trivial, _, rfl, fun k => ?_⟩)))))
    simp only [numberF, takeF, ne_eq, not_true_eq_false, if_false, if_pos hc]
    exact ⟨rfl, q2, (Chg.of_same (Chg.growl g3 q3) hsz hge).low k⟩
  have hc := of_decide_eq_false hc
  have hmp := most_pos (n := 0) (w := w) (by omega) (by omega)
  have hnf : numberF s 0 w = (leV (bytesF s 0 w).1, (bytesF s 0 w).2) := by
    unfold numberF bytesF
    rw [if_neg hc, if_neg (by omega)]
  refine omv rfl <| omv rfl ?_
  refine WO.call rfl rfl (rbytes_ans S h3 g3.wf b s 0 w a3) ?_
  rintro v h4 ⟨rfl, q2, q3⟩
  have q3 := Chg.growl g3 q3
  have hbt := (bytesF_byt (e := 0) (n := w) hs).1
  have hbl7 : (bytesF s 0 w).1.length ≤ 7 := by
    unfold bytesF takeF
    simp only [ne_eq, not_true_eq_false, if_false]
    rw [if_neg (by omega : ¬ w < 0)]
    simp only [not_true_eq_false, if_false]
    split
    · simp
    · simp only [List.length_take]; omega
  rw [hnf]
  generalize bytesF s 0 w = r at *
  obtain ⟨t, s', e'⟩ := r
  simp only at hbt hbl7 q2 ⊢
  refine omv rfl (WO.nil (WC.seqO (omv rfl (WO.nil (WC.seq (WC.seqO ?_))))))
  refine omv rfl <| olt rfl <| osb rfl rfl (by omega) <| omv rfl (WO.nil (WC.block ?_))
  refine WC.loop (σ := Nat) (fun p => [(5, .str t), (6, iv (leV (t.drop (t.length - p)))), (7, iv ((t.length : Int) - 1 - p))]) (fun p h' => h' = h4 ∧ p ≤ t.length) (fun p => t.length - p) 0 (Cov.cons rfl (Cov.cons (by show some (iv 0) = some (iv ((leV (t.drop (t.length - 0)) : Nat) : Int)); rw [Nat.sub_zero, List.drop_length]; rfl) (Cov.cons (by show some (iv ((t.length : Int) - 1)) = some (iv ((t.length : Int) - 1 - ((0 : Nat) : Int))); rw [Int.natCast_zero, Int.sub_zero]) (Cov.nil _)))) ⟨rfl, by omega⟩ ?_
  rintro p h5 ⟨rfl, hp⟩
  refine WC.seq (WC.seqO ?_)
  refine omv rfl <| obn rfl rfl rfl ?_
  refine WO.nil (WC.cond rfl (fun hc3 => WC.skip ?_) (fun hc3 => WC.exit ?_))
  · have hc3 := of_decide_eq_true hc3
    obtain ⟨k, hk⟩ : ∃ k, t.length - p = k + 1 := ⟨t.length - p - 1, by omega⟩
    have hkl : k < t.length := by omega
    have hb1 : t.getD k 0 < 256 := by
      rw [List.getD_eq_getElem?_getD, List.getElem?_eq_getElem hkl]; exact hbt _ (List.getElem_mem hkl)
    have hlv := leV_drop hkl
    have hlt : leV (t.drop (k + 1)) < 256 ^ 6 := by
      have h1 := leV_lt (hbt.drop (k + 1))
      refine Nat.lt_of_lt_of_le h1 (Nat.pow_le_pow_right (by decide) ?_)
      rw [List.length_drop]; omega
    have hlt : leV (t.drop (k + 1)) < 281474976710656 := hlt
    have hat := at_str (s := t) (k := .i64) (n := (k : Int)) (by omega) (by omega)
    rw [Int.toNat_natCast] at hat
    rw [hk]
    have e1 : (t.length : Int) - 1 - p = k := by omega
    rw [e1]
    have wi : IntKind.i64.wrap (Int.ofNat (t.getD k 0)) = ((t.getD k 0 : Nat) : Int) := StepK.wrap64 (by show (-9223372036854775808 : Int) ≤ ((t.getD k 0 : Nat) : Int); omega) (by show ((t.getD k 0 : Nat) : Int) < 9223372036854775808; omega)
    generalize t.getD k 0 = c at *
    refine WC.seq (WC.block (WC.ops ?_))
    refine omv rfl <| obn rfl rfl (bin_mul (by omega)) <| omv rfl <| omv rfl <| WO.ops (StepK.atStr rfl rfl hat) <| WO.ops (StepK.toInt rfl wi) <| oad rfl rfl (by omega) <| omv rfl (WO.nil (WC.ops ?_))
    refine omv rfl <| osb rfl rfl (by omega) <| omv rfl ?_
    refine WO.nil ⟨p + 1, Cov.cons rfl (Cov.cons ?_ (Cov.cons ?_ (Cov.nil _))), ⟨rfl, by omega⟩, by omega⟩
    · rw [show t.length - (p + 1) = k by omega, hlv]
      refine (show some (iv (256 * (leV (t.drop (k + 1)) : Int) + (c : Int))) = some (iv ((c + 256 * leV (t.drop (k + 1)) : Nat) : Int)) from ?_)
      congr 2; omega
    · refine (show some (iv ((k : Int) - 1)) = some (iv ((t.length : Int) - 1 - ((p + 1 : Nat) : Int))) from ?_)
      congr 2; omega
  · have hc3 := of_decide_eq_false hc3
    obtain rfl : p = t.length := by omega
    rw [Nat.sub_self, List.drop_zero]
    refine WC.seqO ?_
    refine omv rfl <| omv rfl ?_
    exact WO.nil (WC.ret ⟨trivial, _, rfl, fun k => ⟨rfl, q2, (Chg.of_same q3 hsz hge).low k⟩⟩)

theorem rrtext_ans (h : Heap) (hw : Wf h) (b : Nat) (s : List Nat) (e w : Int) (a : RdAt h b s e) (hs : Byt s) :
    Ans C 42 [.ptr (some (b, 0)), iv w] h fun v h' => v = .str (rtextF s e w).1 ∧ RdAt h' b (rtextF s e w).2.1 (rtextF s e w).2.2 ∧ Chg [b] h h' := by
  have hF : C.F 42 = some a42 := S.f rfl
  unfold a42 at hF
  have hbl := Cl.lt a hw
  refine Ans.loc S.hm (S.s _ _ _ rfl) hF rfl rfl hw (fun h2 g hsz hge => ?_) ?_
  rotate_left
  · exact fun v h1 hg q hv => ⟨q.1, rdAt_loc hbl hg q.2.1, Chg.refl hw⟩
  clear hF
  have a2 : RdAt h2 b s e := Cl.grow a g
  refine WC.seqO (omv rfl (WO.nil (WC.seqO ?_)))
  refine omv rfl <| omv rfl ?_
  refine WO.call rfl rfl (rnumber_ans S h2 g.wf b s e w a2 hs) ?_
  rintro v h3 ⟨rfl, q2, q3⟩
  refine omv rfl (WO.nil (WC.seqO ?_))
  refine omv rfl <| omv rfl ?_
  refine WO.call rfl rfl (rbytes_ans S h3 q3.wf b _ _ _ q2) ?_
  rintro v h4 ⟨rfl, q4, q5⟩
  refine omv rfl ?_
  exact WO.nil (WC.ret ⟨trivial, _, rfl, fun k => ⟨rfl, q4, ((Chg.of_same (q3.trans q5 g.wf (Comes.refl _ _)) hsz hge)).low k⟩⟩)

theorem rend_ans (h : Heap) (hw : Wf h) (b : Nat) (s : List Nat) (e : Int) (a : RdAt h b s e) : Ans C 44 [.ptr (some (b, 0))] h fun v h' => v = iv (endF s e) ∧ Grow h h' := by
  have hF : C.F 44 = some a44 := S.f rfl
  unfold a44 at hF
  refine Ans.val (fun _ _ => S.s _ _ _ rfl) hF rfl rfl hw fun h2 g => ?_
  clear hF
  have a2 : Cl h2 b [.str s, iv e] := Cl.grow a g
  have l0 : h2.rd b (0 + 0) = some (.str s) := a2.rd rfl
  have l1 : h2.rd b (0 + 1) = some (iv e) := a2.rd rfl
  have tail : ∀ (e' : List (Nat × V)) (Q : Ex → List (Nat × V) → Heap → Prop), Cov [(0, .ptr (some (b, 0)))] e' → ¬ (e = 0 ∧ s ≠ []) → (∀ e', (Fin .ret ∧ Grow h h2 ∧ retE e' h2 [.tmp 2] = some (iv (endF s e))) → Q .ret e' h2) → WC C (.seq (.ops [⟨(some 15), none, .mv (.t 0)⟩,
    ⟨(some 16), none, .nilck (.t 15)⟩,
    ⟨(some 17), none, .fieldAddr 1 (.t 16)⟩,
    ⟨(some 18), none, .load none (.t 17)⟩,
    ⟨(some 2), none, .mv (.t 18)⟩]) .ret) e' h2 Q := by
    intro e' Q cv hne hQ
    refine WC.cov cv (WC.seqO ?_)
    refine omv rfl <| onk rfl <| ofa rfl <| old rfl l1 <| omv rfl ?_
    refine WO.nil (WC.ret (hQ _ ⟨trivial, g, ?_⟩))
    show some (iv e) = some (iv (endF s e)); rw [endF, if_neg hne]
  refine WC.seqO (omv rfl (WO.nil (WC.seq (WC.seqO ?_))))
  refine omv rfl <| onk rfl <| ofa rfl <| old rfl l1 <| obn rfl rfl rfl <| omv rfl ?_
  refine WO.splitG rfl (fun hc => ?_) (fun hc => ?_)
  · have hc : e = 0 := by simpa using hc
    refine WO.run rfl <| omv rfl <| WO.run rfl <| onk rfl <| WO.run rfl <| ofa rfl <| WO.run rfl <| old rfl l0 <| WO.run rfl <| obn rfl rfl rfl <| opt rfl rfl (WO.nil ?_)
    refine WC.cond rfl (fun hc2 => WC.seqO ?_) (fun hc2 => WC.skip ?_)
    · have hc2 : s ≠ [] := by intro q; subst q; simp [beqL] at hc2
      refine omv rfl (WO.nil (WC.ret ⟨trivial, g, ?_⟩))
      show some (iv 3) = some (iv (endF s e)); rw [endF, if_pos ⟨hc, hc2⟩]
    · exact tail _ _ (Cov.cons rfl (Cov.nil _)) (fun q => by rw [nbeqL q.2] at hc2; cases hc2) (fun _ q => q)
  · have hc : e ≠ 0 := by simpa using hc
    refine WO.skip rfl rfl <| WO.skip rfl rfl <| WO.skip rfl rfl <| WO.skip rfl rfl <| WO.skip rfl rfl <| opf rfl rfl ?_
    refine WO.nil (WC.condF rfl (WC.skip ?_))
    exact tail _ _ (Cov.cons rfl (Cov.nil _)) (fun q => hc q.1) (fun _ q => q)
end
end Abs
end Go.Proofs.YthdgjjggndfbhaaDoor
