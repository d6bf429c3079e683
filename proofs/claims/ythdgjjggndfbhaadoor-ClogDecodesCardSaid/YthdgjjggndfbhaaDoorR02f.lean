/- The document's digest: Of. -/
import Derived.Test.YthdgjjggndfbhaaDoorR02d
import Derived.Test.YthdgjjggndfbhaaDoorR02e
namespace Go.Proofs.YthdgjjggndfbhaaDoor
namespace Abs
set_option linter.unusedVariables false
set_option linter.unusedSimpArgs false
open Go.RowKit
attribute [local irreducible] WO WC WD StepK Ans Does Runs DoesD

/-! ### Two lists that grow side by side -/
def Apt (u v : V) : Prop := ∀ b o l k z, v = .oslice b o l k z → Off u b
theorem Apt.symm {u v : V} (a : Apt u v) : Apt v u := fun b o l k z e b' o' l' k' z' e' q => a b' o' l' k' z' e' b o l k z e q.symm
theorem Apt.nil (u : V) : Apt u (.slice none 0 0) := fun b o l k z e => by cases e
theorem grown_lt {h : Heap} (hw : Wf h) {low sz : Nat} {x : V} {es : List (List V)} (g : Grown h low sz x es) : ∀ b o l k z, x = .oslice b o l k z → b < h.size := by
  intro b o l k z e
  obtain ⟨_, ⟨rfl, _⟩ | ⟨b', S, ty, rfl, _, _, q⟩⟩ := g
  · cases e
  · cases e; exact hw.lt q
theorem NatG.push2 {h0 h : Heap} {x y : V} {l m : List Nat} (hw0 : Wf h0) (g : Grow h0 h) (s : NatG h h0.size x l) (r : NatG h h0.size y m) (ap : Apt x y) {u n : Nat} {st : St} (hu : h.get u = some (.cells [iv n] st)) (hn : l.length ≤ 1000000) :
    ∃ v h', appendA h 1 8 none x (.slice (some (u, 0)) 1 1) = some (v, h') ∧ NatG h' h0.size v (l ++ [n]) ∧ NatG h' h0.size y m ∧ Apt v y ∧ Grow h0 h' := by
  obtain ⟨v, h', u1, u2, u3, u4, u5⟩ := NatG.push hw0 g s hu hn
  refine ⟨v, h', u1, u2, ?_, ?_, u3⟩
  · exact Grown.frame r fun b o hb o2 l' k z e => u4 b o hb (ap b o2 l' k z e)
  · exact fun b o l' k z e => u5 b (grown_lt g.wf r b o l' k z e) (ap b o l' k z e)

/-! ### Bytes -/
def bl (l : List Nat) : List (List V) := l.map fun (n : Nat) => [bv n]
theorem bl_len (l : List Nat) : (bl l).length = l.length := List.length_map _
theorem bl_app (a b : List Nat) : bl (a ++ b) = bl a ++ bl b := List.map_append
theorem flat_bl (l : List Nat) : (bl l).flatten = l.map bv := by
  induction l with
  | nil => rfl
  | cons a r ih =>
    have : bl (a :: r) = [bv a] :: bl r := rfl
    rw [this, List.flatten_cons, ih]; rfl
theorem bl_one (l : List Nat) : ∀ c ∈ bl l, ∀ v ∈ c, V.one v = true := by
  intro c hc v hv
  obtain ⟨n, _, rfl⟩ := List.mem_map.1 hc
  obtain rfl := List.mem_singleton.1 hv; rfl
theorem cl_bytes {h : Heap} {b : Nat} {l : List Nat} (a : Cl h b (l.map bv)) : Sl h 1 (.slice (some (b, 0)) l.length l.length) (bl l) := by
  refine ⟨fun c hc => by obtain ⟨n, _, rfl⟩ := List.mem_map.1 hc; rfl, by rw [bl_len], Nat.le_refl _, fun _ => ?_⟩
  rw [flat_bl, bl_len, Nat.mul_one]
  exact a.rds (List.length_map _)
theorem toStr_sl {h : Heap} {x : V} {l : List Nat} (s : Sl h 1 x (bl l)) (hb : ∀ x ∈ l, x < 256) : toStrA h x = some (.str l) := by
  have h1 := s.len
  have h2 := s.cells
  simp only [toStrA, h1, h2, flat_bl, u8s_bv l hb]

theorem roots_lt : ∀ x ∈ rootsN, x < 4294967296 := by decide

section
variable {C : Cfg} (S : StdM C)
include S

theorem rof_ans (ho : ∀ args h, C.S 15 args h = none) (h : Heap) (hw : Wf h) (s : List Nat) (hs : s.length ≤ 1000000) (hby : Byt s) : Ans C 15 [.str s] h fun v h' => v = .str (ofF s) ∧ Grow h h' := by
  have hF : C.F 15 = some a15 := S.f rfl
  unfold a15 at hF
  refine Ans.val (fun _ _ => ho _ _) hF rfl rfl hw fun h2 g => ?_
  clear hF
  refine WC.seqO (omv rfl (WO.nil (WC.seqO ?_)))
  refine WO.call rfl rfl (rprimes_ans S h2 g.wf) ?_
  rintro pv h3 ⟨gp3, g3⟩
  have sp := gp3.s
  have g3 := g.trans g3
  refine omv rfl (WO.nil (WC.seqO (omv rfl (WO.nil (WC.seqO (omv rfl (WO.nil (WC.seq (WC.seqO (omv rfl (WO.nil (WC.block ?_))))))))))))
  have hPl := prF_310
  have hPd : ∀ i, (prF 310).getD i 0 < 4294967296 := fun i => getD_lt (by decide) pr_lt i
  have hK3 := roots3
  have hH2 := roots2
  clear gp3
  generalize prF 310 = P at *
  refine WC.loop (σ := Nat × V × V) (fun p => [(0, .str s), (3, pv), (4, p.2.1), (5, p.2.2), (6, iv p.1)]) (fun p h' => Grow h3 h' ∧ p.1 ≤ 64 ∧ NatG h' h3.size p.2.1 ((P.take p.1).map (fun p => rootF p 3)) ∧ NatG h' h3.size p.2.2 (((P.take 8).take p.1).map (fun p => rootF p 2)) ∧ Apt p.2.1 p.2.2) (fun p => 64 - p.1) (0, .slice none 0 0, .slice none 0 0) (Cov.cons rfl (Cov.cons rfl (Cov.cons rfl (Cov.cons rfl (Cov.cons rfl (Cov.nil _)))))) ⟨Grow.refl g3.wf, by omega, by rw [List.take_zero]; exact NatG.nil _ _, by rw [List.take_zero]; exact NatG.nil _ _, Apt.nil _⟩ ?_
  rintro ⟨i, kv, hv⟩ h4 ⟨g4, hi, gk, gh, ap⟩
  simp only at hi gk gh ap ⊢
  refine WC.seq (WC.seqO ?_)
  refine omv rfl <| obn rfl rfl rfl ?_
  refine WO.nil (WC.cond rfl (fun hc => WC.skip ?_) (fun hc => WC.exit ?_))
  · have hc := of_decide_eq_true hc
    have hi : i < 64 := by omega
    have hl1 : ((P.take i).map (fun p => rootF p 3)).length ≤ 64 := by rw [List.length_map, List.length_take]; omega
    have hl2 : (((P.take 8).take i).map (fun p => rootF p 2)).length ≤ 8 := by rw [List.length_map, List.length_take, List.length_take]; omega
    have ht3 : (P.take (i + 1)).map (fun p => rootF p 3) = (P.take i).map (fun p => rootF p 3) ++ [rootF (P.getD i 0) 3] := by
      rw [take_at (by omega), List.map_append]; rfl
    have ht2 : i < 8 → ((P.take 8).take (i + 1)).map (fun p => rootF p 2) = ((P.take 8).take i).map (fun p => rootF p 2) ++ [rootF (P.getD i 0) 2] := fun h8 => by
      rw [take_at (by rw [List.length_take]; omega), List.map_append, take_getD h8]; rfl
    have ht2' : ¬ i < 8 → ((P.take 8).take (i + 1)).map (fun p => rootF p 2) = ((P.take 8).take i).map (fun p => rootF p 2) := fun h8 => by
      have e1 : (P.take 8).take (i + 1) = P.take 8 := List.take_of_length_le (by rw [List.length_take]; omega)
      have e2 : (P.take 8).take i = P.take 8 := List.take_of_length_le (by rw [List.length_take]; omega)
      rw [e1, e2]
    obtain ⟨pp, qp, xp, rp⟩ := sp.atI (n := (i : Int)) (i := i) rfl (by omega) rfl
    have hpl := hPd i
    generalize P.getD i 0 = pr at *
    refine WC.seq (WC.block (WC.seqO ?_))
    refine omv rfl <| omv rfl <| omv rfl <| WO.ops (StepK.idxSl rfl rfl xp) <| old rfl (g4.rd rp) ?_
    refine WO.call rfl rfl (rroot_ans S h4 g4.wf pr 3 hpl (.inr rfl)) ?_
    rintro _ h5 ⟨rfl, g5⟩
    generalize rootF pr 3 = r3 at *
    refine WO.ops (StepK.buildSl rfl rfl) ?_
    have gp := g5.push (.cells [iv r3] (.tip [] 0 none))
    have hnew : (h5.push (.cells [iv r3] (.tip [] 0 none))).get h5.size = some (.cells [iv r3] (.tip [] 0 none)) := get_push_self _ _
    have g6 := g4.trans gp
    have gk : NatG _ h3.size kv _ := Grown.grow gk gp
    have gh : NatG _ h3.size hv _ := Grown.grow gh gp
    change WO C _ _ (h5.push (.cells [iv r3] (.tip [] 0 none))) _
    generalize h5.push (.cells [iv r3] (.tip [] 0 none)) = h6 at *
    obtain ⟨kv', h7, u1, u2, u3, u4, u5⟩ := NatG.push2 g3.wf g6 gk gh ap hnew (by omega)
    rw [← ht3] at u2
    refine WO.ops (StepK.append rfl rfl u1) <| omv rfl (WO.nil (WC.seqO ?_))
    refine omv rfl <| obn rfl rfl rfl ?_
    refine WO.nil (WC.cond rfl (fun hc2 => WC.ops ?_) (fun hc2 => WC.skip (WC.ops ?_)))
    · have hc2 := of_decide_eq_true hc2
      have h8 : i < 8 := by omega
      have rp2 := u5.rd rp
      refine omv rfl <| omv rfl <| omv rfl <| WO.ops (StepK.idxSl rfl rfl xp) <| old rfl rp2 ?_
      refine WO.call rfl rfl (rroot_ans S h7 u5.wf pr 2 hpl (.inl rfl)) ?_
      rintro _ h8' ⟨rfl, g8⟩
      have ht2 := ht2 h8
      generalize rootF pr 2 = r2 at *
      refine WO.ops (StepK.buildSl rfl rfl) ?_
      have gp := g8.push (.cells [iv r2] (.tip [] 0 none))
      have hnew : (h8'.push (.cells [iv r2] (.tip [] 0 none))).get h8'.size = some (.cells [iv r2] (.tip [] 0 none)) := get_push_self _ _
      have g9 := u5.trans gp
      have gk : NatG _ h3.size kv' _ := Grown.grow u2 gp
      have gh : NatG _ h3.size hv _ := Grown.grow u3 gp
      change WO C _ _ (h8'.push (.cells [iv r2] (.tip [] 0 none))) _
      generalize h8'.push (.cells [iv r2] (.tip [] 0 none)) = h9 at *
      obtain ⟨hv', h10, w1, w2, w3, w4, w5⟩ := NatG.push2 g3.wf g9 gh gk u4.symm hnew (by omega)
      rw [← ht2] at w2
      refine WO.ops (StepK.append rfl rfl w1) <| omv rfl (WO.nil (WC.ops ?_))
      refine omv rfl <| oad rfl rfl (by omega) <| omv rfl ?_
      exact WO.nil ⟨(i + 1, kv', hv'), Cov.cons rfl (Cov.cons rfl (Cov.cons rfl (Cov.cons rfl (Cov.cons rfl (Cov.nil _))))), ⟨w5, by simp only; omega, w3, w2, w4.symm⟩, by simp only; omega⟩
    · have hc2 := of_decide_eq_false hc2
      refine omv rfl <| oad rfl rfl (by omega) <| omv rfl ?_
      exact WO.nil ⟨(i + 1, kv', hv), Cov.cons rfl (Cov.cons rfl (Cov.cons rfl (Cov.cons rfl (Cov.cons rfl (Cov.nil _))))), ⟨u5, by simp only; omega, u2, by simp only; rw [ht2' (by omega)]; exact u3, u4⟩, by simp only; omega⟩
  · have hc := of_decide_eq_false hc
    obtain rfl : i = 64 := by omega
    rw [List.take_of_length_le (by omega), hK3] at gk
    rw [List.take_of_length_le (by rw [List.length_take]; omega), hH2] at gh
    have sk := gk.s
    have sh := gh.s
    have g4 := g3.trans g4
    refine WC.seqO (omv rfl ?_)
    refine WO.call rfl rfl (rpad_ans S h4 g4.wf s (by omega)) ?_
    rintro _ h5 ⟨rfl, g5⟩
    have sk := sk.grow g5
    have sh := sh.grow g5
    have g5 := g4.trans g5
    have hop := ofF_pad s
    have htb : Byt (padF s) := hby.app (tailF_byt _ _)
    obtain ⟨n, hn⟩ : ∃ n, (padF s).length = 64 * n := by
      have := tailF_len (k := s.length % 64) (Nat.mod_lt _ (by decide)) s.length
      obtain ⟨m, hm⟩ := this
      refine ⟨s.length / 64 + m, ?_⟩
      unfold padF
      rw [List.length_append]; omega
    have hn2 : n ≤ 100000 := by
      have : (padF s).length ≤ s.length + 73 := by
        unfold padF tailF; simp [repL_len, be8]; omega
      omega
    have hnn : (padF s).length / 64 = n := by omega
    rw [hnn] at hop
    rw [hop]
    generalize padF s = T at *
    refine omv rfl (WO.nil (WC.seq (WC.seqO (omv rfl (WO.nil (WC.block ?_))))))
    refine WC.loop (σ := Nat × V) (fun p => [(0, .str T), (4, kv), (5, p.2), (7, iv ((64 * p.1 : Nat) : Int))]) (fun p h' => Grow h5 h' ∧ p.1 ≤ n ∧ NatS h' p.2 (absF p.1 begN T).1) (fun p => n - p.1) (0, hv) (Cov.cons rfl (Cov.cons rfl (Cov.cons rfl (Cov.cons rfl (Cov.nil _))))) ⟨Grow.refl g5.wf, by omega, sh⟩ ?_
    clear sh gh gk ap
    rintro ⟨j, xv⟩ h6 ⟨g6, hj, sx⟩
    simp only at hj sx ⊢
    refine WC.seq (WC.seqO ?_)
    refine omv rfl <| omv rfl <| olt rfl <| obn rfl rfl rfl ?_
    refine WO.nil (WC.cond rfl (fun hc2 => WC.skip ?_) (fun hc2 => WC.exit ?_))
    · have hc2 := of_decide_eq_true hc2
      have hj : j < n := by omega
      have wj := absF_words j (t := T) begN_words
      have hsn := absF_snoc j begN T
      have hre := absF_rest j begN T
      have e64 : ((64 * j : Nat) : Int) + 64 = ((64 * j + 64 : Nat) : Int) := by omega
      have hmid : sliceStrA (.str T) (some (iv ((64 * j : Nat) : Int))) (some (iv ((64 * j + 64 : Nat) : Int))) = some (.str ((absF j begN T).2.take 64)) := by
        have := str_mid (s := T) (m := ((64 * j : Nat) : Int)) (n := ((64 * j + 64 : Nat) : Int)) (by omega) (by omega) (by omega)
        rw [Int.toNat_natCast, Int.toNat_natCast, Nat.add_sub_cancel_left, ← hre] at this
        exact this
      have hpl : ((absF j begN T).2.take 64).length = 64 := by rw [hre, List.length_take, List.length_drop]; omega
      have hpb : Byt ((absF j begN T).2.take 64) := fun b hb => htb b (by rw [hre] at hb; exact List.mem_of_mem_drop (List.mem_of_mem_take hb))
      have h1 : (absF (j + 1) begN T).1 = behindN rootsN (absF j begN T).1 ((absF j begN T).2.take 64) := by rw [hsn]
      generalize (absF j begN T).2.take 64 = pc at *
      generalize (absF j begN T).1 = HH at *
      refine WC.seq (WC.block (WC.ops ?_))
      refine omv rfl <| omv rfl <| omv rfl <| omv rfl <| oad rfl rfl (by omega) ?_
      rw [e64]
      refine WO.ops (StepK.sliceStr rfl rfl rfl hmid) <| omv rfl ?_
      refine WO.call rfl rfl (rone_ans S h6 g6.wf xv kv HH rootsN pc sx wj hpl hpb (sk.grow g6) rfl roots_lt) ?_
      rintro xv' h7 ⟨gx, g7⟩
      rw [← h1] at gx
      refine omv rfl (WO.nil (WC.ops ?_))
      refine omv rfl <| oad rfl rfl (by omega) <| omv rfl ?_
      rw [e64]
      exact WO.nil ⟨(j + 1, xv'), Cov.cons rfl (Cov.cons rfl (Cov.cons rfl (Cov.cons rfl (Cov.nil _)))), ⟨g6.trans g7, by simp only; omega, gx.s⟩, by simp only; omega⟩
    · have hc2 := of_decide_eq_false hc2
      obtain rfl : j = n := by omega
      have g6 := g5.trans g6
      have wj := absF_words j (t := T) begN_words
      generalize (absF j begN T).1 = HH at *
      have hHd : ∀ i, HH.getD i 0 < 4294967296 := fun i => getD_lt (by decide) wj.2 i
      have hHl := wj.1
      refine WC.seqO (omv rfl (WO.nil (WC.seq (WC.seqO (omv rfl (WO.nil (WC.block ?_)))))))
      refine WC.loop (σ := Nat × V) (fun p => [(5, xv), (8, p.2), (9, iv p.1)]) (fun p h' => Grow h6 h' ∧ p.1 ≤ 8 ∧ Grown h' h6.size 1 p.2 (bl (((HH.take p.1).map be4).flatten))) (fun p => 8 - p.1) (0, .slice none 0 0) (Cov.cons rfl (Cov.cons rfl (Cov.cons rfl (Cov.nil _)))) ⟨Grow.refl g6.wf, by omega, Grown.nil _ _ _⟩ ?_
      rintro ⟨m, ov⟩ h7 ⟨g7, hm, go⟩
      simp only at hm go ⊢
      have hob : (((HH.take m).map be4).flatten).length ≤ 32 := by rw [flat4_len, List.length_take]; omega
      refine WC.seq (WC.seqO ?_)
      refine omv rfl <| obn rfl rfl rfl ?_
      refine WO.nil (WC.cond rfl (fun hc3 => WC.skip ?_) (fun hc3 => WC.exit ?_))
      · have hc3 := of_decide_eq_true hc3
        have hm : m < 8 := by omega
        have htk : ((HH.take (m + 1)).map be4).flatten = ((HH.take m).map be4).flatten ++ be4 (HH.getD m 0) := by
          rw [take_at (by omega), List.map_append, List.flatten_append]; simp
        obtain ⟨ph, qh, xh, rh⟩ := (sx.grow g7).atI (n := (m : Int)) (i := m) rfl (by omega) rfl
        have q1 := hHd m
        generalize HH.getD m 0 = x at *
        refine WC.seq (WC.block (WC.draw ?_))
        refine dmv rfl <| dmv rfl <| dmv rfl <| WD.pure (StepK.idxSl rfl rfl xh) rfl ?_
        refine WD.load1 rfl rh ?_
        refine dbn rfl rfl (bin_shr (by omega)) <| WD.pure (StepK.toInt rfl (byte_shr x 24 16777216 (by decide) rfl)) rfl <| dmv rfl <| dmv rfl <| WD.pure (StepK.idxSl rfl rfl xh) rfl ?_
        refine WD.load1 rfl rh ?_
        refine dbn rfl rfl (bin_shr (by omega)) <| WD.pure (StepK.toInt rfl (byte_shr x 16 65536 (by decide) rfl)) rfl <| dmv rfl <| dmv rfl <| WD.pure (StepK.idxSl rfl rfl xh) rfl ?_
        refine WD.load1 rfl rh ?_
        refine dbn rfl rfl (bin_shr (by omega)) <| WD.pure (StepK.toInt rfl (byte_shr x 8 256 (by decide) rfl)) rfl <| dmv rfl <| dmv rfl <| WD.pure (StepK.idxSl rfl rfl xh) rfl ?_
        refine WD.load1 rfl rh ?_
        refine WD.pure (StepK.toInt (m := Int.ofNat (x % 256)) rfl (by show ((x : Int) % 256) = ((x % 256 : Nat) : Int); omega)) rfl ?_
        refine WD.alloc rfl (StepK.buildSl rfl rfl) ?_
        have ab := Cl.new h7 ((be4 x).map bv) (some 5)
        have gp := (Grow.refl g7.wf).push (.cells ((be4 x).map bv) (.tip [] 0 (some 5)))
        have hnew : (h7.push (.cells ((be4 x).map bv) (.tip [] 0 (some 5)))).get h7.size = some (.cells ((be4 x).map bv) (.tip [] 0 (some 5))) := get_push_self _ _
        have g8 := g7.trans gp
        have go := Grown.grow go gp
        have rh8 := gp.rd rh
        change WD C _ _ _ _ (h7.push (.cells ((be4 x).map bv) (.tip [] 0 (some 5)))) _
        generalize h7.push (.cells ((be4 x).map bv) (.tip [] 0 (some 5))) = h8 at *
        have s4 := cl_bytes ab
        obtain ⟨ov', h9, u1, u2, u3⟩ := Grown.append (bytes := 1) (tyK := some 5) g6.wf g8 go s4 (by decide) (by decide) (by unfold roomy; rw [bl_len, bl_len]; exact decide_eq_true (by have : (be4 x).length = 4 := rfl; omega)) (bl_one _)
        rw [← bl_app, ← htk] at u2
        refine WD.opC ⟨hnew, rh8, rh8, rh8, rh8, trivial⟩ rfl (StepK.append rfl rfl u1) ?_
        refine dmv rfl ?_
        refine WD.nil (by repeat (first | exact trivial | refine ⟨by with_reducible assumption, ?_⟩)) (WC.ops ?_)
        refine omv rfl <| oad rfl rfl (by omega) <| omv rfl ?_
        exact WO.nil ⟨(m + 1, ov'), Cov.cons rfl (Cov.cons rfl (Cov.cons rfl (Cov.nil _))), ⟨u3, by simp only; omega, u2⟩, by simp only; omega⟩
      · have hc3 := of_decide_eq_false hc3
        obtain rfl : m = 8 := by omega
        rw [List.take_of_length_le (by omega)] at go
        refine WC.seqO ?_
        refine omv rfl <| WO.ops (StepK.toStr rfl (toStr_sl go.sl (flat4_byt HH))) <| omv rfl ?_
        exact WO.nil (WC.ret ⟨trivial, g6.trans g7, rfl⟩)
end
end Abs
end Go.Proofs.YthdgjjggndfbhaaDoor
