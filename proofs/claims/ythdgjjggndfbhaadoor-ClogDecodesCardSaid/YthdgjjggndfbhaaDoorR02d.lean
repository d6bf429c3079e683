/- The document's digest: H behind 64 bytes more. -/
import Derived.Test.YthdgjjggndfbhaaDoorR02c
namespace Go.Proofs.YthdgjjggndfbhaaDoor
namespace Abs
set_option linter.unusedVariables false
set_option linter.unusedSimpArgs false
open Go.RowKit
attribute [local irreducible] WO WC WD StepK Ans Does Runs DoesD

theorem take_getD {l : List Nat} {i t : Nat} (h : i < t) : (l.take t).getD i 0 = l.getD i 0 := by
  rw [List.getD_eq_getElem?_getD, List.getD_eq_getElem?_getD, List.getElem?_take_of_lt h]
theorem getD_lt {l : List Nat} {B : Nat} (hB : 0 < B) (h : ∀ x ∈ l, x < B) (i : Nat) : l.getD i 0 < B := by
  rw [List.getD_eq_getElem?_getD]
  cases hq : l[i]? with
  | none => exact hB
  | some x => exact h x (List.mem_of_getElem? hq)
theorem lt_shl {b k : Nat} (hb : b < 256) (hk : k ≤ 24) : Nat.shiftLeft b k < 4294967296 := by
  show b <<< k < _
  rw [Nat.shiftLeft_eq]
  have h1 : 2 ^ k ≤ 2 ^ 24 := Nat.pow_le_pow_right (by decide) hk
  have h2 : (2 : Nat) ^ 24 = 16777216 := rfl
  have := Nat.mul_le_mul (Nat.le_of_lt_succ hb) h1
  omega
theorem at_byte {s : List Nat} {n : Int} {k : Nat} (h : n = k) (hk : k < s.length) : atStrA (.str s) (iv n) = some (.int .u8 (Int.ofNat (s.getD k 0))) := by
  subst h
  have := at_str (s := s) (k := .i64) (n := (k : Int)) (by omega) (by omega)
  rwa [Int.toNat_natCast] at this
theorem byte64 {c : Nat} (h : c < 256) : IntKind.i64.wrap (Int.ofNat c) = ((c : Nat) : Int) :=
  StepK.wrap64 (by show (-9223372036854775808 : Int) ≤ ((c : Nat) : Int); omega) (by show ((c : Nat) : Int) < 9223372036854775808; omega)
theorem NatS.atI {h : Heap} {x : V} {l : List Nat} (s : NatS h x l) {i : Nat} {n : Int} {y : Nat} (hn : n = i) (hi : i < l.length) (hy : l.getD i 0 = y) : ∃ b o, idxSlA 1 x (iv n) = some (.ptr (some (b, o))) ∧ h.rd b o = some (iv y) := by
  subst hn; subst hy; exact s.at hi
theorem nat_big {x : Nat} (h : x < 4294967296) : x < 9223372036854775808 := Nat.lt_trans h (by decide)

section
variable {C : Cfg} (S : StdM C)
include S

theorem rone_ans (h : Heap) (hw : Wf h) (hv kv : V) (H K s : List Nat) (sH : NatS h hv H) (wH : Words H) (hs : s.length = 64) (hby : Byt s) (sK : NatS h kv K) (hK : K.length = 64) (lK : ∀ x ∈ K, x < 4294967296) :
    Ans C 35 [hv, .str s, kv] h fun v h' => NatG h' h.size v (behindN K H s) ∧ Grow h h' := by
  have hF : C.F 35 = some a35 := S.f rfl
  unfold a35 at hF
  refine Ans.loc S.hm (S.s _ _ _ rfl) hF rfl rfl hw (fun h2 g hsz hge => ?_) ?_
  rotate_left
  · exact fun v h1 hg q hv => ⟨q.1.scopd hv h, Grow.refl hw⟩
  clear hF
  obtain ⟨_, hWl, hWb⟩ := schedN_eq s hs
  have hsv := fun {i} (hi : i < 64) => sch_val hs hi
  generalize hW : schedN s = W at *
  have hWd : ∀ i, W.getD i 0 < 4294967296 := fun i => getD_lt (by decide) hWb i
  have hKd : ∀ i, K.getD i 0 < 4294967296 := fun i => getD_lt (by decide) lK i
  refine WC.seqO (omv rfl (WO.nil (WC.seqO (omv rfl (WO.nil (WC.seq (WC.seqO (omv rfl (WO.nil (WC.block ?_)))))))))) 
  refine WC.loop (σ := Nat × V) (fun p => [(0, hv), (1, .str s), (2, kv), (7, p.2), (8, iv p.1)]) (fun p h' => Grow h h' ∧ p.1 ≤ 64 ∧ NatG h' h.size p.2 (W.take p.1)) (fun p => 64 - p.1) (0, .slice none 0 0) (Cov.cons rfl (Cov.cons rfl (Cov.cons rfl (Cov.cons rfl (Cov.cons rfl (Cov.nil _)))))) ⟨g, by omega, by rw [List.take_zero]; exact NatG.nil _ _⟩ ?_
  rintro ⟨t, w⟩ h3 ⟨g3, ht, gw⟩
  simp only at ht gw ⊢
  refine WC.seq (WC.seqO ?_)
  refine omv rfl <| obn rfl rfl rfl ?_
  refine WO.nil (WC.cond rfl (fun hc => WC.skip ?_) (fun hc => WC.exit ?_))
  · have hc := of_decide_eq_true hc
    have ht : t < 64 := by omega
    have hlt : (W.take t).length = t := by rw [List.length_take]; omega
    have htk : W.take (t + 1) = W.take t ++ [W.getD t 0] := take_at (by omega)
    obtain ⟨hlow, hext⟩ := hsv ht
    have sw := gw.s
    refine WC.seq (WC.block (WC.seq (WC.seqO ?_)))
    refine omv rfl <| obn rfl rfl rfl ?_
    refine WO.nil (WC.cond rfl (fun hc2 => ?_) (fun hc2 => WC.skip ?_))
    · have hc2 := of_decide_eq_true hc2
      have ht16 : t < 16 := by omega
      have hlow := hlow ht16
      have a0 := at_byte (s := s) (n := (4 : Int) * (t : Int)) (k := 4 * t) (by omega) (by omega)
      have a1 := at_byte (s := s) (n := (4 : Int) * (t : Int) + 1) (k := 4 * t + 1) (by omega) (by omega)
      have a2 := at_byte (s := s) (n := (4 : Int) * (t : Int) + 2) (k := 4 * t + 2) (by omega) (by omega)
      have a3 := at_byte (s := s) (n := (4 : Int) * (t : Int) + 3) (k := 4 * t + 3) (by omega) (by omega)
      have b0 : s.getD (4 * t) 0 < 256 := getD_lt (by decide) hby _
      have b1 : s.getD (4 * t + 1) 0 < 256 := getD_lt (by decide) hby _
      have b2 : s.getD (4 * t + 2) 0 < 256 := getD_lt (by decide) hby _
      have b3 : s.getD (4 * t + 3) 0 < 256 := getD_lt (by decide) hby _
      generalize s.getD (4 * t) 0 = c0 at *
      generalize s.getD (4 * t + 1) 0 = c1 at *
      generalize s.getD (4 * t + 2) 0 = c2 at *
      generalize s.getD (4 * t + 3) 0 = c3 at *
      rw [← word_lor b0 b1 b2 b3] at hlow
      have s0 := shl64 c0 24 (by decide) (by omega) .u64
      have s1 := shl64 c1 16 (by decide) (by omega) .u64
      have s2 := shl64 c2 8 (by decide) (by omega) .u64
      have l0 := lt_shl b0 (k := 24) (by decide)
      have l1 := lt_shl b1 (k := 16) (by decide)
      have l2 := lt_shl b2 (k := 8) (by decide)
      generalize Nat.shiftLeft c0 24 = d0 at *
      generalize Nat.shiftLeft c1 16 = d1 at *
      generalize Nat.shiftLeft c2 8 = d2 at *
      have o1 := or64 (nat_big l0) (nat_big l1)
      have m1 := lt_lor l0 l1
      generalize Nat.lor d0 d1 = e1 at *
      have o2 := or64 (nat_big m1) (nat_big l2)
      have m2 := lt_lor m1 l2
      generalize Nat.lor e1 d2 = e2 at *
      have o3 := or64 (nat_big m2) (show c3 < 9223372036854775808 by omega)
      rw [← hlow] at o3
      have hx := hWd t
      generalize W.getD t 0 = x at *
      refine WC.seqD ?_
      refine dmv rfl <| dmv rfl <| dmv rfl <| dbn rfl rfl (bin_mul (by omega)) <| WD.pure (StepK.atStr rfl rfl a0) rfl ?_
      refine WD.pure (StepK.toInt rfl (byte64 b0)) rfl <| dbn rfl rfl s0 <| dmv rfl <| dmv rfl <| dbn rfl rfl (bin_mul (by omega)) <| dad rfl rfl (by omega) <| WD.pure (StepK.atStr rfl rfl a1) rfl ?_
      refine WD.pure (StepK.toInt rfl (byte64 b1)) rfl <| dbn rfl rfl s1 <| dbn rfl rfl o1 <| dmv rfl <| dmv rfl <| dbn rfl rfl (bin_mul (by omega)) <| dad rfl rfl (by omega) <| WD.pure (StepK.atStr rfl rfl a2) rfl ?_
      refine WD.pure (StepK.toInt rfl (byte64 b2)) rfl <| dbn rfl rfl s2 <| dbn rfl rfl o2 <| dmv rfl <| dmv rfl <| dbn rfl rfl (bin_mul (by omega)) <| dad rfl rfl (by omega) <| WD.pure (StepK.atStr rfl rfl a3) rfl ?_
      refine WD.pure (StepK.toInt rfl (byte64 b3)) rfl <| dbn rfl rfl o3 ?_
      refine WD.alloc rfl (StepK.buildSl rfl rfl) ?_
      have gp := (Grow.refl g3.wf).push (.cells [iv x] (.tip [] 0 none))
      have hnew : (h3.push (.cells [iv x] (.tip [] 0 none))).get h3.size = some (.cells [iv x] (.tip [] 0 none)) := get_push_self _ _
      have g4 := g3.trans gp
      have gw : NatG _ h.size w _ := Grown.grow gw gp
      change WD C _ _ _ _ (h3.push (.cells [iv x] (.tip [] 0 none))) _
      generalize h3.push (.cells [iv x] (.tip [] 0 none)) = h4 at *
      obtain ⟨v, h5, u1, u2, u3, u4, u5⟩ := NatG.push hw g4 gw hnew (by omega)
      refine WD.opC ⟨hnew, trivial⟩ rfl (StepK.append rfl rfl u1) ?_
      refine dmv rfl ?_
      refine WD.nil (by repeat (first | exact trivial | refine ⟨by with_reducible assumption, ?_⟩)) (WC.exit (WC.ops ?_))
      refine omv rfl <| oad rfl rfl (by omega) <| omv rfl ?_
      exact WO.nil ⟨(t + 1, v), Cov.cons rfl (Cov.cons rfl (Cov.cons rfl (Cov.cons rfl (Cov.cons rfl (Cov.nil _))))), ⟨u3, by simp only; omega, by simp only; rw [htk]; exact u2⟩, by simp only; omega⟩
    · have hc2 := of_decide_eq_false hc2
      have ht16 : 16 ≤ t := by omega
      have hext := hext ht16
      obtain ⟨p15, q15, x15, r15⟩ := sw.atI (n := (t : Int) - 15) (i := t - 15) (by omega) (by omega) (take_getD (by omega))
      obtain ⟨p2, q2, x2, r2⟩ := sw.atI (n := (t : Int) - 2) (i := t - 2) (by omega) (by omega) (take_getD (by omega))
      obtain ⟨p7, q7, x7, r7⟩ := sw.atI (n := (t : Int) - 7) (i := t - 7) (by omega) (by omega) (take_getD (by omega))
      obtain ⟨p16, q16, x16, r16⟩ := sw.atI (n := (t : Int) - 16) (i := t - 16) (by omega) (by omega) (take_getD (by omega))
      have lx := hWd (t - 15)
      have ly := hWd (t - 2)
      have l7 := hWd (t - 7)
      have l16 := hWd (t - 16)
      generalize W.getD (t - 15) 0 = x at *
      generalize W.getD (t - 2) 0 = y at *
      generalize W.getD (t - 7) 0 = w7 at *
      generalize W.getD (t - 16) 0 = w16 at *
      have lA := lt_s1 ly
      have lB := lt_s0 lx
      have y17 : rotN y 17 < 4294967296 := lt_rot ly
      have y19 : rotN y 19 < 4294967296 := lt_rot ly
      have x7' : rotN x 7 < 4294967296 := lt_rot lx
      have x18 : rotN x 18 < 4294967296 := lt_rot lx
      have sy := shr64 y 10 (by decide) .u64
      have sx := shr64 x 3 (by decide) .u64
      have k1 := xor64 (nat_big y17) (nat_big y19)
      have k2 : binA .xor (iv ((Nat.xor (rotN y 17) (rotN y 19) : Nat) : Int)) (iv ((Nat.shiftRight y 10 : Nat) : Int)) = some (iv ((s1N y : Nat) : Int)) := xor64 (nat_big (lt_xor y17 y19)) (nat_big (lt_shr ly 10))
      have k3 := xor64 (nat_big x7') (nat_big x18)
      have k4 : binA .xor (iv ((Nat.xor (rotN x 7) (rotN x 18) : Nat) : Int)) (iv ((Nat.shiftRight x 3 : Nat) : Int)) = some (iv ((s0N x : Nat) : Int)) := xor64 (nat_big (lt_xor x7' x18)) (nat_big (lt_shr lx 3))
      have hsum := ext_sum w16 x w7 y
      rw [← hext] at hsum
      generalize Nat.xor (rotN y 17) (rotN y 19) = z1 at *
      generalize Nat.xor (rotN x 7) (rotN x 18) = z2 at *
      generalize Nat.shiftRight y 10 = z3 at *
      generalize Nat.shiftRight x 3 = z4 at *
      generalize s1N y = A at *
      generalize s0N x = B at *
      have hxx := hWd t
      generalize W.getD t 0 = xx at *
      have ee : ((A : Int) + (w7 : Int) + (B : Int) + (w16 : Int)) = ((A + w7 + B + w16 : Nat) : Int) := by omega
      refine WC.seqO ?_
      refine omv rfl <| omv rfl <| osb rfl rfl (by omega) <| WO.ops (StepK.idxSl rfl rfl x15) <| old rfl r15 <| omv rfl (WO.nil (WC.seqO ?_))
      refine omv rfl <| omv rfl <| osb rfl rfl (by omega) <| WO.ops (StepK.idxSl rfl rfl x2) <| old rfl r2 <| omv rfl (WO.nil (WC.draw ?_))
      refine dmv rfl <| dmv rfl <| dmv rfl <| dmv rfl <| dbn rfl rfl sy <| dmv rfl <| dmv rfl <| dsb rfl rfl (by omega) <| WD.pure (StepK.idxSl rfl rfl x7) rfl ?_
      refine WD.load1 rfl r7 ?_
      refine dmv rfl <| dmv rfl <| dmv rfl <| dbn rfl rfl sx <| dmv rfl <| dmv rfl <| dsb rfl rfl (by omega) <| WD.pure (StepK.idxSl rfl rfl x16) rfl ?_
      refine WD.load1 rfl r16 ?_
      refine WD.call (by repeat (first | exact trivial | refine ⟨by with_reducible assumption, ?_⟩)) rfl rfl (rturn_ans S h3 g3.wf y 17 ly (by decide) (by decide)) ?_
      rintro _ h4 ⟨rfl, g4⟩
      have r7 := g4.rd r7
      have r16 := g4.rd r16
      refine WD.call (by repeat (first | exact trivial | refine ⟨by with_reducible assumption, ?_⟩)) rfl rfl (rturn_ans S h4 g4.wf y 19 ly (by decide) (by decide)) ?_
      rintro _ h5 ⟨rfl, g5⟩
      have r7 := g5.rd r7
      have r16 := g5.rd r16
      have g5 := g4.trans g5
      refine dbn rfl rfl k1 <| dbn rfl rfl k2 <| dad rfl rfl (by omega) ?_
      refine WD.call (by repeat (first | exact trivial | refine ⟨by with_reducible assumption, ?_⟩)) rfl rfl (rturn_ans S h5 g5.wf x 7 lx (by decide) (by decide)) ?_
      rintro _ h6 ⟨rfl, g6⟩
      have r7 := g6.rd r7
      have r16 := g6.rd r16
      have g6 := g5.trans g6
      refine WD.call (by repeat (first | exact trivial | refine ⟨by with_reducible assumption, ?_⟩)) rfl rfl (rturn_ans S h6 g6.wf x 18 lx (by decide) (by decide)) ?_
      rintro _ h7 ⟨rfl, g7⟩
      have r7 := g7.rd r7
      have r16 := g7.rd r16
      have g7 := g6.trans g7
      refine dbn rfl rfl k3 <| dbn rfl rfl k4 <| dad rfl rfl (by omega) <| dad rfl rfl (by omega) ?_
      rw [ee]
      refine WD.call (by repeat (first | exact trivial | refine ⟨by with_reducible assumption, ?_⟩)) rfl rfl (rword_ans S h7 g7.wf (A + w7 + B + w16)) ?_
      rw [hsum]
      rintro _ h8 ⟨rfl, g8⟩
      have g8 := g7.trans g8
      refine WD.alloc rfl (StepK.buildSl rfl rfl) ?_
      have gp := g8.push (.cells [iv xx] (.tip [] 0 none))
      have hnew : (h8.push (.cells [iv xx] (.tip [] 0 none))).get h8.size = some (.cells [iv xx] (.tip [] 0 none)) := get_push_self _ _
      have g9 := g3.trans gp
      have gw : NatG _ h.size w _ := Grown.grow gw gp
      change WD C _ _ _ _ (h8.push (.cells [iv xx] (.tip [] 0 none))) _
      generalize h8.push (.cells [iv xx] (.tip [] 0 none)) = h9 at *
      obtain ⟨v, h10, u1, u2, u3, u4, u5⟩ := NatG.push hw g9 gw hnew (by omega)
      refine WD.opC ⟨hnew, trivial⟩ rfl (StepK.append rfl rfl u1) ?_
      refine dmv rfl ?_
      refine WD.nil (by repeat (first | exact trivial | refine ⟨by with_reducible assumption, ?_⟩)) (WC.ops ?_)
      refine omv rfl <| oad rfl rfl (by omega) <| omv rfl ?_
      exact WO.nil ⟨(t + 1, v), Cov.cons rfl (Cov.cons rfl (Cov.cons rfl (Cov.cons rfl (Cov.cons rfl (Cov.nil _))))), ⟨u3, by simp only; omega, by simp only; rw [htk]; exact u2⟩, by simp only; omega⟩
  · have hc := of_decide_eq_false hc
    obtain rfl : t = 64 := by omega
    rw [List.take_of_length_le (by omega)] at gw
    obtain ⟨v0, h4, u1, u2, u3, u4, u5⟩ := Grown.append2 (h0 := h) (bytes := 8) (tyK := none) hw g3 (Grown.nil h3 h.size 1) (sH.grow g3) (by decide) (by decide) (roomy8 (by rw [nl_len, wH.1]; decide)) (nl_one H)
    rw [List.nil_append] at u2
    have sv0 : NatS h4 v0 H := Grown.sl u2
    have gw : NatG h4 h.size w W := Grown.frame gw (fun b o hb _ _ _ _ _ => u4 b o hb (Off.nil b))
    clear u4 u5
    refine WC.seqO (omv rfl (WO.nil (WC.seqO ?_)))
    refine omv rfl <| omv rfl <| WO.ops (StepK.append rfl rfl u1) <| omv rfl (WO.nil (WC.seq (WC.seqO (omv rfl (WO.nil (WC.block ?_)))))) 
    obtain ⟨H0, H1, H2, H3, H4, H5, H6, H7, hHe, z0, z1, z2, z3, z4, z5, z6, z7⟩ := words8 wH
    refine WC.loop (σ := Nat × V) (fun p => [(0, hv), (2, kv), (7, w), (11, p.2), (12, iv p.1)]) (fun p h' => Grow h h' ∧ p.1 ≤ 64 ∧ NatS h' w W ∧ ∃ a b c d e f g i, NatS h' p.2 [a, b, c, d, e, f, g, i] ∧ (a < 4294967296 ∧ b < 4294967296 ∧ c < 4294967296 ∧ d < 4294967296 ∧ e < 4294967296 ∧ f < 4294967296 ∧ g < 4294967296 ∧ i < 4294967296) ∧ rndN K W H0 H1 H2 H3 H4 H5 H6 H7 = rndN (K.drop p.1) (W.drop p.1) a b c d e f g i) (fun p => 64 - p.1) (0, v0) (Cov.cons rfl (Cov.cons rfl (Cov.cons rfl (Cov.cons rfl (Cov.cons rfl (Cov.nil _)))))) ⟨u3, by omega, gw.s, H0, H1, H2, H3, H4, H5, H6, H7, by rw [← hHe]; exact sv0, ⟨z0, z1, z2, z3, z4, z5, z6, z7⟩, rfl⟩ ?_
    clear sv0 u2 u3 gw g3
    rintro ⟨t, v⟩ h5 ⟨g5, ht, sw, a, b, c, d, e, f, g', i, sv, ⟨la, lb, lc, ld, le, lf, lg, li⟩, hrn⟩
    simp only at ht sv hrn ⊢
    refine WC.seq (WC.seqO ?_)
    refine omv rfl <| obn rfl rfl rfl ?_
    refine WO.nil (WC.cond rfl (fun hc2 => WC.skip ?_) (fun hc2 => WC.exit ?_))
    · have hc2 := of_decide_eq_true hc2
      have ht : t < 64 := by omega
      rw [rnd_step (by omega) (by omega)] at hrn
      obtain ⟨pa, qa, xa, ra⟩ := sv.atI (n := 0) (i := 0) rfl (by simp) (show _ = a from rfl)
      obtain ⟨pb, qb, xb, rb⟩ := sv.atI (n := 1) (i := 1) rfl (by simp) (show _ = b from rfl)
      obtain ⟨pc, qc, xc, rc⟩ := sv.atI (n := 2) (i := 2) rfl (by simp) (show _ = c from rfl)
      obtain ⟨pd, qd, xd, rd⟩ := sv.atI (n := 3) (i := 3) rfl (by simp) (show _ = d from rfl)
      obtain ⟨pe, qe, xe, re⟩ := sv.atI (n := 4) (i := 4) rfl (by simp) (show _ = e from rfl)
      obtain ⟨pf, qf, xf, rf⟩ := sv.atI (n := 5) (i := 5) rfl (by simp) (show _ = f from rfl)
      obtain ⟨pg, qg, xg, rg⟩ := sv.atI (n := 6) (i := 6) rfl (by simp) (show _ = g' from rfl)
      obtain ⟨pi, qi, xi, ri⟩ := sv.atI (n := 7) (i := 7) rfl (by simp) (show _ = i from rfl)
      obtain ⟨pk, qk, xk, rk⟩ := (sK.grow g5).atI (n := (t : Int)) (i := t) rfl (by omega) rfl
      obtain ⟨pw, qw, xw, rw'⟩ := sw.atI (n := (t : Int)) (i := t) rfl (by omega) rfl
      have lk := hKd t
      have lw := hWd t
      generalize K.getD t 0 = k at *
      generalize W.getD t 0 = x at *
      have einv : ((4294967295 : Int) - (e : Int)) = ((4294967295 - e : Nat) : Int) := by omega
      have c1 := and64 (nat_big le) (nat_big lf)
      have c2 := and64 (a := 4294967295 - e) (b := g') (by omega) (nat_big lg)
      have c3 : binA .or (iv ((Nat.land e f : Nat) : Int)) (iv ((Nat.land (4294967295 - e) g' : Nat) : Int)) = some (iv ((Nat.xor (Nat.land e f) (Nat.land (Nat.xor 4294967295 e) g') : Nat) : Int)) := by
        rw [or64 (nat_big (lt_land lf)) (nat_big (lt_land lg)), ch_eq le]
      have lch : Nat.xor (Nat.land e f) (Nat.land (Nat.xor 4294967295 e) g') < 4294967296 := lt_xor (lt_land lf) (lt_land lg)
      have j1 := and64 (nat_big la) (nat_big lb)
      have j2 := and64 (nat_big la) (nat_big lc)
      have j3 := and64 (nat_big lb) (nat_big lc)
      have j4 := or64 (nat_big (lt_land (x := a) lb)) (nat_big (lt_land (x := a) lc))
      have j5 : binA .or (iv ((Nat.lor (Nat.land a b) (Nat.land a c) : Nat) : Int)) (iv ((Nat.land b c : Nat) : Int)) = some (iv ((Nat.xor (Nat.xor (Nat.land a b) (Nat.land a c)) (Nat.land b c) : Nat) : Int)) := by
        rw [or64 (nat_big (lt_lor (lt_land lb) (lt_land lc))) (nat_big (lt_land lc)), maj_eq]
      have lmj : Nat.xor (Nat.xor (Nat.land a b) (Nat.land a c)) (Nat.land b c) < 4294967296 := lt_xor (lt_xor (lt_land lb) (lt_land lc)) (lt_land lc)
      have e6 : rotN e 6 < 4294967296 := lt_rot le
      have e11 : rotN e 11 < 4294967296 := lt_rot le
      have e25 : rotN e 25 < 4294967296 := lt_rot le
      have k1 := xor64 (nat_big e6) (nat_big e11)
      have k2 := xor64 (nat_big (lt_xor e6 e11)) (nat_big e25)
      have ls1 := lt_xor (lt_xor e6 e11) e25
      have a2 : rotN a 2 < 4294967296 := lt_rot la
      have a13 : rotN a 13 < 4294967296 := lt_rot la
      have a22 : rotN a 22 < 4294967296 := lt_rot la
      have k3 := xor64 (nat_big a2) (nat_big a13)
      have k4 := xor64 (nat_big (lt_xor a2 a13)) (nat_big a22)
      have ls0 := lt_xor (lt_xor a2 a13) a22
      have ht1 := t1_sum e f g' i k x
      have ht2 : (Nat.xor (Nat.xor (rotN a 2) (rotN a 13)) (rotN a 22) + Nat.xor (Nat.xor (Nat.land a b) (Nat.land a c)) (Nat.land b c)) % 4294967296 = t2N a b c := rfl
      have lt1 := lt_t1 e f g' i k x
      have lt2 := lt_t2 a b c
      generalize Nat.xor (Nat.land e f) (Nat.land (Nat.xor 4294967295 e) g') = CH at *
      generalize Nat.xor (Nat.xor (Nat.land a b) (Nat.land a c)) (Nat.land b c) = MJ at *
      generalize Nat.xor (Nat.xor (rotN e 6) (rotN e 11)) (rotN e 25) = S1 at *
      generalize Nat.xor (Nat.xor (rotN a 2) (rotN a 13)) (rotN a 22) = S0 at *
      generalize Nat.xor (rotN e 6) (rotN e 11) = y1 at *
      generalize Nat.xor (rotN a 2) (rotN a 13) = y2 at *
      generalize Nat.lor (Nat.land a b) (Nat.land a c) = y3 at *
      generalize Nat.land a b = y4 at *
      generalize Nat.land a c = y5 at *
      generalize Nat.land b c = y6 at *
      generalize Nat.land e f = y7 at *
      generalize Nat.land (4294967295 - e) g' = y8 at *
      generalize t1N e f g' i k x = T1 at *
      generalize t2N a b c = T2 at *
      have es1 : ((i : Int) + (S1 : Int) + (CH : Int) + (k : Int) + (x : Int)) = ((i + S1 + CH + k + x : Nat) : Int) := by omega
      have es2 : ((S0 : Int) + (MJ : Int)) = ((S0 + MJ : Nat) : Int) := by omega
      have es3 : ((T1 : Int) + (T2 : Int)) = ((T1 + T2 : Nat) : Int) := by omega
      have es4 : ((d : Int) + (T1 : Int)) = ((d + T1 : Nat) : Int) := by omega
      refine WC.seq (WC.block (WC.seqD ?_))
      refine dmv rfl <| WD.pure (StepK.idxSl rfl rfl xa) rfl ?_
      refine WD.load1 rfl ra ?_
      refine dmv rfl <| WD.pure (StepK.idxSl rfl rfl xe) rfl ?_
      refine WD.load1 rfl re ?_
      refine dmv rfl <| dmv rfl ?_
      refine WD.nil (by repeat (first | exact trivial | refine ⟨by with_reducible assumption, ?_⟩)) (WC.seqD ?_)
      refine dmv rfl <| dmv rfl <| WD.pure (StepK.idxSl rfl rfl xf) rfl ?_
      refine WD.load1 rfl rf ?_
      refine dbn rfl rfl c1 <| dmv rfl <| dsb rfl rfl (by omega) ?_
      rw [einv]
      refine dmv rfl <| WD.pure (StepK.idxSl rfl rfl xg) rfl ?_
      refine WD.load1 rfl rg ?_
      refine dbn rfl rfl c2 <| dbn rfl rfl c3 <| dmv rfl ?_
      refine WD.nil (by repeat (first | exact trivial | refine ⟨by with_reducible assumption, ?_⟩)) (WC.seqD ?_)
      refine dmv rfl <| dmv rfl <| WD.pure (StepK.idxSl rfl rfl xb) rfl ?_
      refine WD.load1 rfl rb ?_
      refine dbn rfl rfl j1 <| dmv rfl <| dmv rfl <| WD.pure (StepK.idxSl rfl rfl xc) rfl ?_
      refine WD.load1 rfl rc ?_
      refine dbn rfl rfl j2 <| dbn rfl rfl j4 <| dmv rfl <| WD.pure (StepK.idxSl rfl rfl xb) rfl ?_
      refine WD.load1 rfl rb ?_
      refine dmv rfl <| WD.pure (StepK.idxSl rfl rfl xc) rfl ?_
      refine WD.load1 rfl rc ?_
      refine dbn rfl rfl j3 <| dbn rfl rfl j5 <| dmv rfl ?_
      refine WD.nil (by repeat (first | exact trivial | refine ⟨by with_reducible assumption, ?_⟩)) (WC.seqD ?_)
      refine dmv rfl <| WD.pure (StepK.idxSl rfl rfl xi) rfl ?_
      refine WD.load1 rfl ri ?_
      refine dmv rfl <| dmv rfl <| dmv rfl <| dmv rfl <| dmv rfl <| dmv rfl <| WD.pure (StepK.idxSl rfl rfl xk) rfl ?_
      refine WD.load1 rfl rk ?_
      refine dmv rfl <| dmv rfl <| WD.pure (StepK.idxSl rfl rfl xw) rfl ?_
      refine WD.load1 rfl rw' ?_
      refine WD.call (by repeat (first | exact trivial | refine ⟨by with_reducible assumption, ?_⟩)) rfl rfl (rturn_ans S h5 g5.wf e 6 le (by decide) (by decide)) ?_
      rintro _ h6 ⟨rfl, g6⟩
      have ri6 := g6.rd ri
      have rk6 := g6.rd rk
      have rw6 := g6.rd rw'
      refine WD.call (by repeat (first | exact trivial | refine ⟨by with_reducible assumption, ?_⟩)) rfl rfl (rturn_ans S h6 g6.wf e 11 le (by decide) (by decide)) ?_
      rintro _ h7 ⟨rfl, g7⟩
      have g7 := g6.trans g7
      have ri7 := g7.rd ri
      have rk7 := g7.rd rk
      have rw7 := g7.rd rw'
      refine dbn rfl rfl k1 ?_
      refine WD.call (by repeat (first | exact trivial | refine ⟨by with_reducible assumption, ?_⟩)) rfl rfl (rturn_ans S h7 g7.wf e 25 le (by decide) (by decide)) ?_
      rintro _ h8 ⟨rfl, g8⟩
      have g8 := g7.trans g8
      have ri8 := g8.rd ri
      have rk8 := g8.rd rk
      have rw8 := g8.rd rw'
      refine dbn rfl rfl k2 <| dad rfl rfl (by omega) <| dad rfl rfl (by omega) <| dad rfl rfl (by omega) <| dad rfl rfl (by omega) ?_
      rw [es1]
      refine WD.call (by repeat (first | exact trivial | refine ⟨by with_reducible assumption, ?_⟩)) rfl rfl (rword_ans S h8 g8.wf (i + S1 + CH + k + x)) ?_
      rw [ht1]
      rintro _ h9 ⟨rfl, g9⟩
      have g9 := g8.trans g9
      refine dmv rfl ?_
      refine WD.nil (by repeat (first | exact trivial | refine ⟨by with_reducible assumption, ?_⟩)) (WC.seqO ?_)
      refine omv rfl ?_
      refine WO.call rfl rfl (rturn_ans S h9 g9.wf a 2 la (by decide) (by decide)) ?_
      rintro _ h10 ⟨rfl, g10⟩
      have g10 := g9.trans g10
      refine omv rfl ?_
      refine WO.call rfl rfl (rturn_ans S h10 g10.wf a 13 la (by decide) (by decide)) ?_
      rintro _ h11 ⟨rfl, g11⟩
      have g11 := g10.trans g11
      refine obn rfl rfl k3 <| omv rfl ?_
      refine WO.call rfl rfl (rturn_ans S h11 g11.wf a 22 la (by decide) (by decide)) ?_
      rintro _ h12 ⟨rfl, g12⟩
      have g12 := g11.trans g12
      refine obn rfl rfl k4 <| omv rfl <| oad rfl rfl (by omega) ?_
      rw [es2]
      refine WO.call rfl rfl (rword_ans S h12 g12.wf (S0 + MJ)) ?_
      rw [ht2]
      rintro _ h13 ⟨rfl, g13⟩
      have g13 := g12.trans g13
      have rb13 := g13.rd rb
      have rc13 := g13.rd rc
      have rd13 := g13.rd rd
      have rf13 := g13.rd rf
      have rg13 := g13.rd rg
      refine omv rfl (WO.nil (WC.draw ?_))
      refine dmv rfl <| dmv rfl <| dad rfl rfl (by omega) ?_
      rw [es3]
      refine dmv rfl <| dmv rfl <| WD.pure (StepK.idxSl rfl rfl xb) rfl ?_
      refine WD.load1 rfl rb13 ?_
      refine dmv rfl <| WD.pure (StepK.idxSl rfl rfl xc) rfl ?_
      refine WD.load1 rfl rc13 ?_
      refine dmv rfl <| WD.pure (StepK.idxSl rfl rfl xd) rfl ?_
      refine WD.load1 rfl rd13 ?_
      refine dmv rfl <| dad rfl rfl (by omega) ?_
      rw [es4]
      refine dmv rfl <| dmv rfl <| WD.pure (StepK.idxSl rfl rfl xf) rfl ?_
      refine WD.load1 rfl rf13 ?_
      refine dmv rfl <| WD.pure (StepK.idxSl rfl rfl xg) rfl ?_
      refine WD.load1 rfl rg13 ?_
      refine WD.call (by repeat (first | exact trivial | refine ⟨by with_reducible assumption, ?_⟩)) rfl rfl (rword_ans S h13 g13.wf (T1 + T2)) ?_
      rintro _ h14 ⟨rfl, g14⟩
      have g14 := g13.trans g14
      have rb14 := g14.rd rb
      have rc14 := g14.rd rc
      have rd14 := g14.rd rd
      have rf14 := g14.rd rf
      have rg14 := g14.rd rg
      refine WD.call (by repeat (first | exact trivial | refine ⟨by with_reducible assumption, ?_⟩)) rfl rfl (rword_ans S h14 g14.wf (d + T1)) ?_
      rintro _ h15 ⟨rfl, g15⟩
      have g15 := g14.trans g15
      have rb15 := g15.rd rb
      have rc15 := g15.rd rc
      have rd15 := g15.rd rd
      have rf15 := g15.rd rf
      have rg15 := g15.rd rg
      have eA : (T1 + T2) % 4294967296 = addN T1 T2 := rfl
      have eE : (d + T1) % 4294967296 = addN d T1 := rfl
      have lA := lt_add T1 T2
      have lE := lt_add d T1
      rw [eA, eE]
      generalize addN T1 T2 = A at *
      generalize addN d T1 = E at *
      refine WD.alloc rfl (StepK.buildSl rfl rfl) ?_
      have a16 := Cl.new h15 (nv [A, a, b, c, E, e, f, g']) none
      have g16 := g15.push (.cells (nv [A, a, b, c, E, e, f, g']) (.tip [] 0 none))
      have hnew : (h15.push (.cells (nv [A, a, b, c, E, e, f, g']) (.tip [] 0 none))).get h15.size = some (.cells (nv [A, a, b, c, E, e, f, g']) (.tip [] 0 none)) := get_push_self _ _
      change WD C _ _ _ _ (h15.push (.cells (nv [A, a, b, c, E, e, f, g']) (.tip [] 0 none))) _
      generalize h15.push (.cells (nv [A, a, b, c, E, e, f, g']) (.tip [] 0 none)) = h16 at *
      have s16 := cl_nats a16
      refine dmv rfl ?_
      have rb16 := g16.rd rb
      have rc16 := g16.rd rc
      have rd16 := g16.rd rd
      have rf16 := g16.rd rf
      have rg16 := g16.rd rg
      refine WD.nil ⟨hnew, rg16, rf16, rc16, rb16, trivial⟩ (WC.ops ?_)
      refine omv rfl <| oad rfl rfl (by omega) <| omv rfl ?_
      exact WO.nil ⟨(t + 1, .slice (some (h15.size, 0)) 8 8), Cov.cons rfl (Cov.cons rfl (Cov.cons rfl (Cov.cons rfl (Cov.cons rfl (Cov.nil _))))), ⟨g5.trans g16, by simp only; omega, sw.grow g16, A, a, b, c, E, e, f, g', s16, ⟨lA, la, lb, lc, lE, le, lf, lg⟩, hrn⟩, by simp only; omega⟩
    · have hc2 := of_decide_eq_false hc2
      obtain rfl : t = 64 := by omega
      rw [List.drop_eq_nil_of_le (by omega), List.drop_eq_nil_of_le (by omega)] at hrn
      have hrn : rndN K W H0 H1 H2 H3 H4 H5 H6 H7 = [a, b, c, d, e, f, g', i] := hrn
      have hbn : behindN K H s = upN H [a, b, c, d, e, f, g', i] := by
        rw [hHe]; unfold behindN; simp only; rw [hW, hrn]
      rw [hbn]
      have hul : (upN H [a, b, c, d, e, f, g', i]).length = 8 := by rw [up_len _ _ (by rw [wH.1]; rfl)]; exact wH.1
      have hug : ∀ j, j < 8 → (upN H [a, b, c, d, e, f, g', i]).getD j 0 = (H.getD j 0 + [a, b, c, d, e, f, g', i].getD j 0) % 4294967296 := fun j hj => up_get _ _ j (by rw [wH.1]; exact hj) hj
      have lH : ∀ j, H.getD j 0 < 4294967296 := fun j => getD_lt (by decide) wH.2 j
      have lv : ∀ j, [a, b, c, d, e, f, g', i].getD j 0 < 4294967296 := fun j => getD_lt (by decide) (by simp [la, lb, lc, ld, le, lf, lg, li]) j
      have hvl : [a, b, c, d, e, f, g', i].length = 8 := rfl
      generalize upN H [a, b, c, d, e, f, g', i] = U at *
      generalize [a, b, c, d, e, f, g', i] = VL at *
      refine WC.seqO (omv rfl (WO.nil (WC.seq (WC.seqO (omv rfl (WO.nil (WC.block ?_))))))) 
      refine WC.loop (σ := Nat × V) (fun p => [(0, hv), (11, v), (19, p.2), (20, iv p.1)]) (fun p h' => Grow h5 h' ∧ p.1 ≤ 8 ∧ NatG h' h5.size p.2 (U.take p.1)) (fun p => 8 - p.1) (0, .slice none 0 0) (Cov.cons rfl (Cov.cons rfl (Cov.cons rfl (Cov.cons rfl (Cov.nil _))))) ⟨Grow.refl g5.wf, by omega, by rw [List.take_zero]; exact NatG.nil _ _⟩ ?_
      rintro ⟨j, o⟩ h6 ⟨g56, hj, go⟩
      have g6 := g5.trans g56
      simp only at hj go ⊢
      refine WC.seq (WC.seqO ?_)
      refine omv rfl <| obn rfl rfl rfl ?_
      refine WO.nil (WC.cond rfl (fun hc3 => WC.skip ?_) (fun hc3 => WC.exit ?_))
      · have hc3 := of_decide_eq_true hc3
        have hj : j < 8 := by omega
        have hlt : (U.take j).length = j := by rw [List.length_take]; omega
        have htk : U.take (j + 1) = U.take j ++ [U.getD j 0] := take_at (by omega)
        have hug := hug j hj
        obtain ⟨ph, qh, xh, rh⟩ := (sH.grow g6).atI (n := (j : Int)) (i := j) rfl (by rw [wH.1]; exact hj) rfl
        obtain ⟨pv, qv, xv, rv⟩ := (sv.grow g56).atI (n := (j : Int)) (i := j) rfl (by omega) rfl
        have q1 := lH j
        have q2 := lv j
        generalize H.getD j 0 = hh at *
        generalize VL.getD j 0 = vv at *
        have es : ((hh : Int) + (vv : Int)) = ((hh + vv : Nat) : Int) := by omega
        generalize U.getD j 0 = uu at *
        refine WC.seq (WC.block (WC.draw ?_))
        refine dmv rfl <| dmv rfl <| dmv rfl <| WD.pure (StepK.idxSl rfl rfl xh) rfl ?_
        refine WD.load1 rfl rh ?_
        refine dmv rfl <| dmv rfl <| WD.pure (StepK.idxSl rfl rfl xv) rfl ?_
        refine WD.load1 rfl rv ?_
        refine dad rfl rfl (by omega) ?_
        rw [es]
        refine WD.call (by repeat (first | exact trivial | refine ⟨by with_reducible assumption, ?_⟩)) rfl rfl (rword_ans S h6 g6.wf (hh + vv)) ?_
        rw [← hug]
        rintro _ h7 ⟨rfl, g7⟩
        refine WD.alloc rfl (StepK.buildSl rfl rfl) ?_
        have gp := g7.push (.cells [iv uu] (.tip [] 0 none))
        have hnew : (h7.push (.cells [iv uu] (.tip [] 0 none))).get h7.size = some (.cells [iv uu] (.tip [] 0 none)) := get_push_self _ _
        have g8 := g56.trans gp
        have go : NatG _ h5.size o _ := Grown.grow go gp
        change WD C _ _ _ _ (h7.push (.cells [iv uu] (.tip [] 0 none))) _
        generalize h7.push (.cells [iv uu] (.tip [] 0 none)) = h8 at *
        obtain ⟨o', h9, u1, u2, u3, u4, u5⟩ := NatG.push g5.wf g8 go hnew (by omega)
        refine WD.opC ⟨hnew, trivial⟩ rfl (StepK.append rfl rfl u1) ?_
        refine dmv rfl ?_
        refine WD.nil (by repeat (first | exact trivial | refine ⟨by with_reducible assumption, ?_⟩)) (WC.ops ?_)
        refine omv rfl <| oad rfl rfl (by omega) <| omv rfl ?_
        exact WO.nil ⟨(j + 1, o'), Cov.cons rfl (Cov.cons rfl (Cov.cons rfl (Cov.cons rfl (Cov.nil _)))), ⟨u3, by simp only; omega, by simp only; rw [htk]; exact u2⟩, by simp only; omega⟩
      · have hc3 := of_decide_eq_false hc3
        obtain rfl : j = 8 := by omega
        rw [List.take_of_length_le (by omega)] at go
        have go : NatG h6 h.size o U := Grown.up go g5.size
        refine WC.seqO ?_
        refine omv rfl <| omv rfl ?_
        exact WO.nil (WC.ret ⟨trivial, _, rfl, fun n => ⟨Grown.same go (fun _ => rfl), g6.low1 n⟩⟩)
end
end Abs
end Go.Proofs.YthdgjjggndfbhaaDoor
