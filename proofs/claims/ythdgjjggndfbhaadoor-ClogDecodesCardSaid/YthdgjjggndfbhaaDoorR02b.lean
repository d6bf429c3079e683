/- The document's digest: products of digits, comparing, roots, padding. -/
import Derived.Test.YthdgjjggndfbhaaDoorR02a
namespace Go.Proofs.YthdgjjggndfbhaaDoor
namespace Abs
set_option linter.unusedVariables false
set_option linter.unusedSimpArgs false
open Go.RowKit
attribute [local irreducible] WO WC WD StepK Ans Does Runs DoesD

/-- An array of numbers in a call's own block. -/
def nv (l : List Nat) : List V := l.map fun (n : Nat) => iv n
theorem nv_len (l : List Nat) : (nv l).length = l.length := List.length_map _
theorem flat_nl (l : List Nat) : (nl l).flatten = nv l := by
  induction l with
  | nil => rfl
  | cons a r ih =>
    have : nl (a :: r) = [iv a] :: nl r := rfl
    rw [this, List.flatten_cons, ih]; rfl
theorem cl_nats {h : Heap} {b : Nat} {l : List Nat} (a : Cl h b (nv l)) : NatS h (.slice (some (b, 0)) l.length l.length) l := by
  refine ⟨fun c hc => by obtain ⟨n, _, rfl⟩ := List.mem_map.1 hc; rfl, by rw [nl_len], Nat.le_refl _, fun _ => ?_⟩
  rw [flat_nl, nl_len, Nat.mul_one]
  exact a.rds (nv_len l)
theorem nv_set (l : List Nat) (p n : Nat) : (nv l).set p (iv n) = nv (l.set p n) := by unfold nv; rw [List.map_set]
theorem nv_get {l : List Nat} {p : Nat} (hp : p < l.length) : (nv l)[p]? = some (iv (l.getD p 0)) := by
  unfold nv; rw [List.getElem?_map, List.getD_eq_getElem?_getD, List.getElem?_eq_getElem hp]; rfl
theorem idx_cl {b n : Nat} {i : Int} {j : Nat} (h : i = j) (hj : j < n) : idxSlA 1 (.slice (some (b, 0)) n n) (iv i) = some (.ptr (some (b, j))) := by
  subst h
  simp only [idxSlA, intV]; rw [if_pos ⟨by omega, by omega⟩]; simp
theorem reps_nv (n : Nat) : reps n [iv 0] = nv (List.replicate n 0) := by
  induction n with
  | zero => rfl
  | succ n ih => simp only [reps, ih, List.replicate_succ]; rfl
theorem make_nv (h : Heap) (n : Nat) (hn : n ≤ 1000) : makeSlA h 1 8 [iv 0] (iv n) (iv n) = some (.slice (some (h.size, 0)) n n, h.push (.cells (nv (List.replicate n 0)) (.tip [] 0 none))) := by
  simp only [makeSlA]
  rw [if_pos ⟨by omega, by omega, by omega, by omega⟩, Int.toNat_natCast, reps_nv]

theorem rtF_ind (power : Nat) (goal : List Nat) : ∀ k, k ≤ 41 → rtF power goal k + 2 ^ (41 - k) ≤ 2199023255552
  | 0, _ => by
    show 0 + 2 ^ 41 ≤ 2199023255552
    decide
  | k + 1, hk => by
    have ih := rtF_ind power goal k (by omega)
    have e : 2 ^ (41 - k) = 2 ^ (40 - k) + 2 ^ (40 - k) := by
      rw [show 41 - k = (40 - k) + 1 by omega, Nat.pow_succ]; omega
    have hs : rtF power goal (k + 1) ≤ rtF power goal k + 2 ^ (40 - k) := by
      show rtStep power goal (40 - k) (rtF power goal k) ≤ _
      unfold rtStep
      simp only
      generalize aboveF _ goal = t
      cases t
      · simp
      · simp
    rw [show 41 - (k + 1) = 40 - k by omega]
    generalize 2 ^ (41 - k) = u at *
    generalize 2 ^ (40 - k) = w at *
    generalize rtF power goal (k + 1) = r at *
    omega
theorem rtF_lt (power : Nat) (goal : List Nat) (k : Nat) (hk : k ≤ 41) : rtF power goal k < 2199023255552 := by
  have h1 := rtF_ind power goal k hk
  have h2 : 0 < 2 ^ (41 - k) := Nat.pow_pos (by decide)
  generalize 2 ^ (41 - k) = u at *
  omega
theorem repL_snoc (n : Nat) : repL [0] n ++ [0] = repL [0] (n + 1) := by
  induction n with
  | zero => rfl
  | succ n ih =>
    show [0] ++ repL [0] n ++ [0] = [0] ++ repL [0] (n + 1)
    rw [List.append_assoc, ih]
/-- The text, padded. -/
def padF (s : List Nat) : List Nat := s ++ tailF (s.length % 64) s.length

section
variable {C : Cfg} (S : StdM C)
include S

theorem rtimes_ans (h : Heap) (hw : Wf h) (x y : V) (a b : List Nat) (M K : Nat) (sx : NatS h x a) (sy : NatS h y b) (hb : b.length ≤ 10) (bd : Bnd a b M K) (hM : M ≤ 16777216) (hK : K ≤ 67108864) :
    Ans C 56 [x, y] h fun v h' => (∃ c n, v = .slice (some (c, 0)) n n ∧ h.size ≤ c) ∧ NatS h' v (timesF a b) ∧ Grow h h' := by
  have hF : C.F 56 = some a56 := S.f rfl
  unfold a56 at hF
  refine Ans.loc S.hm (S.s _ _ _ rfl) hF rfl rfl hw (fun h2 g hsz hge => ?_) ?_
  rotate_left
  · rintro v h1 hg ⟨⟨c, n, rfl, hc⟩, _⟩ hv
    simp [V.scopd] at hv; omega
  clear hF
  have ha := bd.la
  have sx2 := sx.grow g
  have sy2 := sy.grow g
  refine WC.seqO (omv rfl (WO.nil (WC.seqO ?_)))
  have emk : ((a.length : Int) + b.length) = ((a.length + b.length : Nat) : Int) := by omega
  refine omv rfl <| ols rfl sx2.len <| omv rfl <| ols rfl sy2.len <| oad rfl rfl (by omega) ?_
  rw [emk]
  refine WO.ops (StepK.makeSl rfl rfl (make_nv h2 _ (by omega))) <| omv rfl ?_
  have a0 := Cl.new h2 (nv (List.replicate (a.length + b.length) 0)) none
  have g3 := g.push (.cells (nv (List.replicate (a.length + b.length) 0)) (.tip [] 0 none))
  have hc0 := g.size
  generalize h2.push (.cells (nv (List.replicate (a.length + b.length) 0)) (.tip [] 0 none)) = h3 at *
  generalize h2.size = c at *
  refine WO.nil (WC.seq (WC.seqO (omv rfl (WO.nil (WC.block ?_)))))
  generalize hN : a.length + b.length = N at *
  refine WC.loop (σ := Nat) (fun i => [(0, x), (1, y), (5, .slice (some (c, 0)) N N), (6, iv i)]) (fun i h' => Grow h h' ∧ i ≤ a.length ∧ Cl h' c (nv (tOut a b i))) (fun i => a.length - i) 0 (Cov.cons rfl (Cov.cons rfl (Cov.cons rfl (Cov.cons rfl (Cov.nil _))))) ⟨g3, by omega, by unfold tOut; rw [hN]; exact a0⟩ ?_
  rintro i h4 ⟨g4, hi, a4⟩
  refine WC.seq (WC.seqO ?_)
  refine omv rfl <| omv rfl <| ols rfl (sx.grow g4).len <| obn rfl rfl rfl ?_
  refine WO.nil (WC.cond rfl (fun hc => WC.skip ?_) (fun hc => WC.exit ?_))
  · have hc := of_decide_eq_true hc
    have hi : i < a.length := by omega
    have hob := tOut_bd bd i (by omega)
    have hol : (tOut a b i).length = N := by rw [tOut_len, hN]
    have hstep : tOut a b (i + 1) = (tIn (a.getD i 0) b i b.length (tOut a b i)).1.set (i + b.length) ((tIn (a.getD i 0) b i b.length (tOut a b i)).1.getD (i + b.length) 0 + (tIn (a.getD i 0) b i b.length (tOut a b i)).2) := rfl
    have hiK : i * K ≤ 10 * K := Nat.mul_le_mul_right K (by omega)
    have hbdj : ∀ j, (∀ z ∈ (tIn (a.getD i 0) b i j (tOut a b i)).1, z ≤ 65535 + i * K) ∧ (tIn (a.getD i 0) b i j (tOut a b i)).2 ≤ K := fun j => tIn_bd bd i (by omega) (by omega) j _ hob
    have hlen : ∀ j, (tIn (a.getD i 0) b i j (tOut a b i)).1.length = N := fun j => by rw [tIn_len, hol]
    have hai : a.getD i 0 ≤ M := getD_le bd.ha i
    generalize hO : tOut a b i = O at *
    refine WC.seq (WC.block (WC.seqO (omv rfl (WO.nil (WC.seq (WC.seqO (omv rfl (WO.nil (WC.block ?_))))))))) 
    refine WC.loop (σ := Nat) (fun j => [(0, x), (1, y), (5, .slice (some (c, 0)) N N), (6, iv i), (7, iv (tIn (a.getD i 0) b i j O).2), (8, iv j)]) (fun j h' => Grow h h' ∧ j ≤ b.length ∧ Cl h' c (nv (tIn (a.getD i 0) b i j O).1)) (fun j => b.length - j) 0 (Cov.cons rfl (Cov.cons rfl (Cov.cons rfl (Cov.cons rfl (Cov.cons rfl (Cov.cons rfl (Cov.nil _))))))) ⟨g4, by omega, a4⟩ ?_
    clear a4 g4
    rintro j h5 ⟨g5, hj, a5⟩
    have hb1 := hbdj j
    have hl1 := hlen j
    have hnext : tIn (a.getD i 0) b i (j + 1) O = tStep (a.getD i 0) (b.getD j 0) (i + j) (tIn (a.getD i 0) b i j O) := rfl
    refine WC.seq (WC.seqO ?_)
    refine omv rfl <| omv rfl <| ols rfl (sy.grow g5).len <| obn rfl rfl rfl ?_
    refine WO.nil (WC.cond rfl (fun hc2 => WC.skip ?_) (fun hc2 => WC.exit ?_))
    · have hc2 := of_decide_eq_true hc2
      have hj : j < b.length := by omega
      obtain ⟨bx, ox, x1, x2⟩ := (sx.grow g5).at hi
      obtain ⟨by', oy, y1, y2⟩ := (sy.grow g5).at hj
      have hbj : b.getD j 0 ≤ 65535 := getD_le bd.hb j
      generalize tIn (a.getD i 0) b i j O = st at *
      obtain ⟨out, car⟩ := st
      simp only at hb1 hl1 a5 ⊢
      have hop : out.getD (i + j) 0 ≤ 65535 + i * K := getD_le hb1.1 _
      have hmul : a.getD i 0 * b.getD j 0 ≤ 16777216 * 65535 := Nat.mul_le_mul (by omega) hbj
      have r1 : h5.rd c (i + j) = some (iv (out.getD (i + j) 0)) := a5.rd (nv_get (by omega))
      have hm : binA .mul (iv (a.getD i 0)) (iv (b.getD j 0)) = some (iv ((a.getD i 0 * b.getD j 0 : Nat) : Int)) := by
        have e : (a.getD i 0 : Int) * (b.getD j 0 : Int) = ((a.getD i 0 * b.getD j 0 : Nat) : Int) := by push_cast; rfl
        generalize a.getD i 0 * b.getD j 0 = q at *
        simp only [binA, if_true]
        rw [e, StepK.wrap64 (by omega) (by omega)]
      have hts : tStep (a.getD i 0) (b.getD j 0) (i + j) (out, car) = (out.set (i + j) ((out.getD (i + j) 0 + a.getD i 0 * b.getD j 0 + car) % 65536), (out.getD (i + j) 0 + a.getD i 0 * b.getD j 0 + car) / 65536) := rfl
      rw [hts] at hnext
      have hcar := hb1.2
      generalize a.getD i 0 = ai at *
      generalize b.getD j 0 = bj at *
      generalize ai * bj = q at *
      generalize out.getD (i + j) 0 = oij at *
      obtain ⟨n, hn⟩ : ∃ n, oij + q + car = n := ⟨_, rfl⟩
      rw [hn] at hnext
      have en : ((oij : Int) + q + car) = (n : Int) := by omega
      have eij : ((i : Int) + j) = ((i + j : Nat) : Int) := by omega
      refine WC.seq (WC.block (WC.seqD ?_))
      refine dmv rfl <| dmv rfl <| dmv rfl <| dad rfl rfl (by omega) <| WD.pure (StepK.idxSl rfl rfl (idx_cl eij (by omega))) rfl ?_
      refine WD.load1 rfl r1 ?_
      refine dmv rfl <| dmv rfl <| WD.pure (StepK.idxSl rfl rfl x1) rfl ?_
      refine WD.load1 rfl x2 ?_
      refine dmv rfl <| dmv rfl <| WD.pure (StepK.idxSl rfl rfl y1) rfl ?_
      refine WD.load1 rfl y2 ?_
      refine dbn rfl rfl hm <| dad rfl rfl (by omega) <| dmv rfl <| dad rfl rfl (by omega) ?_
      rw [en]
      refine dmv rfl ?_
      refine WD.nil (by repeat (first | exact trivial | refine ⟨by with_reducible assumption, ?_⟩)) (WC.seqO ?_)
      obtain ⟨h6, w1, w2, w3, w4⟩ := a5.set g5.wf (i := i + j) (v := iv ((n % 65536 : Nat) : Int)) (by rw [nv_len]; omega) rfl
      rw [nv_set] at w2
      refine omv rfl <| omv rfl <| omv rfl <| oad rfl rfl (by omega) <| omv rfl <| obn rfl rfl (rem_nn n 65536 (by decide)) <| WO.ops (StepK.idxSl rfl rfl (idx_cl eij (by omega))) ?_
      refine WO.op (StepK.store rfl rfl rfl w1) (WO.nil (WC.ops ?_))
      refine omv rfl <| obn rfl rfl (quo_nn n 65536 (by decide) (by omega)) <| omv rfl (WO.nil (WC.ops ?_))
      refine omv rfl <| oad rfl rfl (by omega) <| omv rfl ?_
      refine WO.nil ⟨j + 1, ?_, ⟨Chg.newGrow g5 w3 hw (by simpa using hc0), by omega, by rw [hnext]; exact w2⟩, by omega⟩
      rw [hnext]
      exact Cov.cons rfl (Cov.cons rfl (Cov.cons rfl (Cov.cons rfl (Cov.cons rfl (Cov.cons rfl (Cov.nil _))))))
    · have hc2 := of_decide_eq_false hc2
      obtain rfl : j = b.length := by omega
      generalize tIn (a.getD i 0) b i b.length O = st at *
      obtain ⟨out, car⟩ := st
      simp only at hb1 hl1 a5 hstep ⊢
      have hop : out.getD (i + b.length) 0 ≤ 65535 + i * K := getD_le hb1.1 _
      have r1 : h5.rd c (i + b.length) = some (iv (out.getD (i + b.length) 0)) := a5.rd (nv_get (by omega))
      have hcar := hb1.2
      have eij : ((i : Int) + b.length) = ((i + b.length : Nat) : Int) := by omega
      generalize out.getD (i + b.length) 0 = oij at *
      obtain ⟨h6, w1, w2, w3, w4⟩ := a5.set g5.wf (i := i + b.length) (v := iv ((oij + car : Nat) : Int)) (by rw [nv_len]; omega) rfl
      rw [nv_set] at w2
      have es : ((oij : Int) + car) = ((oij + car : Nat) : Int) := by omega
      refine WC.ops ?_
      refine omv rfl <| omv rfl <| omv rfl <| ols rfl (sy.grow g5).len <| oad rfl rfl (by omega) <| omv rfl <| omv rfl <| omv rfl <| ols rfl (sy.grow g5).len <| oad rfl rfl (by omega) <| WO.ops (StepK.idxSl rfl rfl (idx_cl eij (by omega))) <| old rfl r1 <| omv rfl <| oad rfl rfl (by omega) <| WO.ops (StepK.idxSl rfl rfl (idx_cl eij (by omega))) ?_
      rw [es]
      refine WO.op (StepK.store rfl rfl rfl w1) (WO.nil (WC.ops ?_))
      refine omv rfl <| oad rfl rfl (by omega) <| omv rfl ?_
      exact WO.nil ⟨i + 1, Cov.cons rfl (Cov.cons rfl (Cov.cons rfl (Cov.cons rfl (Cov.nil _)))), ⟨Chg.newGrow g5 w3 hw (by simpa using hc0), by omega, by rw [hstep]; exact w2⟩, by omega⟩
  · have hc := of_decide_eq_false hc
    obtain rfl : i = a.length := by omega
    refine WC.seqO ?_
    refine omv rfl <| omv rfl ?_
    have hol : (timesF a b).length = N := by rw [timesF_len, hN]
    refine WO.nil (WC.ret ⟨trivial, _, rfl, fun n => ⟨⟨c, N, rfl, hc0⟩, ?_, g4.low1 n⟩⟩)
    have := cl_nats (l := timesF a b) (h := { h4 with low := n }) (b := c) a4
    rw [hol] at this; exact this

theorem rabove_ans (h : Heap) (hw : Wf h) (x y : V) (a b : List Nat) (sx : NatS h x a) (sy : NatS h y b) (ha : a.length ≤ 1000) (hb : b.length ≤ 1000) : Ans C 57 [x, y] h fun v h' => v = .bool (aboveF a b) ∧ Grow h h' := by
  have hF : C.F 57 = some a57 := S.f rfl
  unfold a57 at hF
  refine Ans.val (fun _ _ => S.s _ _ _ rfl) hF rfl rfl hw fun h2 g => ?_
  clear hF
  have sx := sx.grow g
  have sy := sy.grow g
  have fin : ∀ (e' : List (Nat × V)) (c : Bool), Env.get e' 4 = some (.bool c) → aboveF a b = c → Fin .ret ∧ Grow h h2 ∧ retE e' h2 [.tmp 4] = some (.bool (aboveF a b)) := by
    intro e' c he hc
    refine ⟨trivial, g, ?_⟩
    simp only [retE, ressE, resE, he, oneOf, hc]
  refine WC.seqO (omv rfl (WO.nil (WC.seq (WC.seqO ?_))))
  refine omv rfl <| ols rfl sx.len <| omv rfl <| ols rfl sy.len <| omx rfl rfl ?_
  have em : (if (b.length : Int) > (a.length : Int) then (b.length : Int) else (a.length : Int)) = ((max a.length b.length : Nat) : Int) := by
    split <;> omega
  rw [em]
  refine osb rfl rfl (by omega) <| omv rfl (WO.nil (WC.block ?_))
  refine WC.loop (σ := Nat) (fun k => [(0, x), (1, y), (5, iv ((k : Int) - 1))]) (fun k h' => h' = h2 ∧ k ≤ max a.length b.length ∧ aboveF a b = abF a b k) (fun k => k) (max a.length b.length) (Cov.cons rfl (Cov.cons rfl (Cov.cons rfl (Cov.nil _)))) ⟨rfl, Nat.le_refl _, rfl⟩ ?_
  rintro k h3 ⟨rfl, hk, hab⟩
  refine WC.seq (WC.seqO ?_)
  refine omv rfl <| obn rfl rfl rfl ?_
  refine WO.nil (WC.cond rfl (fun hc => WC.skip ?_) (fun hc => WC.exit ?_))
  · have hc := of_decide_eq_true hc
    obtain ⟨i, rfl⟩ : ∃ i, k = i + 1 := ⟨k - 1, by omega⟩
    have ei : ((i + 1 : Nat) : Int) - 1 = (i : Int) := by omega
    rw [ei]
    have hstep : abF a b (i + 1) = if a.getD i 0 ≠ b.getD i 0 then decide (b.getD i 0 < a.getD i 0) else abF a b i := rfl
    rw [hstep] at hab
    have o0 : ∀ {l : List Nat}, ¬ i < l.length → l.getD i 0 = 0 := by
      intro l hl
      rw [List.getD_eq_getElem?_getD, List.getElem?_eq_none (by omega)]; rfl
    refine WC.seq (WC.block (WC.seqO (omv rfl (WO.nil (WC.seqO (omv rfl (WO.nil ?_))))))) 
    refine WC.seqM (M := fun e' h' => Cov [(0, x), (1, y), (5, iv i), (6, iv (a.getD i 0)), (7, iv 0)] e' ∧ h' = h3) (WC.seqO ?_) ?_
    · refine omv rfl <| omv rfl <| ols rfl sx.len <| obn rfl rfl rfl (WO.nil ?_)
      refine WC.cond rfl (fun hl => WC.ops ?_) (fun hl => WC.skip ?_)
      · have hl := of_decide_eq_true hl
        obtain ⟨bx, ox, x1, x2⟩ := sx.at (i := i) (by omega)
        refine omv rfl <| omv rfl <| WO.ops (StepK.idxSl rfl rfl x1) <| old rfl x2 <| omv rfl ?_
        exact WO.nil ⟨Cov.cons rfl (Cov.cons rfl (Cov.cons rfl (Cov.cons rfl (Cov.cons rfl (Cov.nil _))))), rfl⟩
      · have hl := of_decide_eq_false hl
        rw [o0 (l := a) (by omega)]
        exact ⟨Cov.cons rfl (Cov.cons rfl (Cov.cons rfl (Cov.cons rfl (Cov.cons rfl (Cov.nil _))))), rfl⟩
    rintro e' h4 ⟨cv, rfl⟩
    refine WC.cov cv ?_
    refine WC.seqM (M := fun e' h' => Cov [(0, x), (1, y), (5, iv i), (6, iv (a.getD i 0)), (7, iv (b.getD i 0))] e' ∧ h' = h4) (WC.seqO ?_) ?_
    · refine omv rfl <| omv rfl <| ols rfl sy.len <| obn rfl rfl rfl (WO.nil ?_)
      refine WC.cond rfl (fun hl => WC.ops ?_) (fun hl => WC.skip ?_)
      · have hl := of_decide_eq_true hl
        obtain ⟨bx, ox, x1, x2⟩ := sy.at (i := i) (by omega)
        refine omv rfl <| omv rfl <| WO.ops (StepK.idxSl rfl rfl x1) <| old rfl x2 <| omv rfl ?_
        exact WO.nil ⟨Cov.cons rfl (Cov.cons rfl (Cov.cons rfl (Cov.cons rfl (Cov.cons rfl (Cov.nil _))))), rfl⟩
      · have hl := of_decide_eq_false hl
        rw [o0 (l := b) (by omega)]
        exact ⟨Cov.cons rfl (Cov.cons rfl (Cov.cons rfl (Cov.cons rfl (Cov.cons rfl (Cov.nil _))))), rfl⟩
    rintro e' h5 ⟨cv, rfl⟩
    refine WC.cov cv (WC.seqO ?_)
    refine omv rfl <| omv rfl <| obn rfl rfl rfl (WO.nil ?_)
    refine WC.cond rfl (fun hq => WC.seqO ?_) (fun hq => WC.skip (WC.ops ?_))
    · have hq : a.getD i 0 ≠ b.getD i 0 := by
        intro e; rw [e] at hq; simp at hq
      rw [if_pos hq] at hab
      refine omv rfl <| omv rfl <| obn rfl rfl rfl <| omv rfl ?_
      refine WO.nil (WC.ret (fin _ _ rfl ?_))
      rw [hab]
      exact decide_eq_decide.2 ⟨fun q => by omega, fun q => by omega⟩
    · have hq : a.getD i 0 = b.getD i 0 := by
        have : ((a.getD i 0 : Nat) : Int) = (b.getD i 0 : Nat) := by simpa using hq
        omega
      rw [if_neg (by simpa using hq)] at hab
      refine omv rfl <| osb rfl rfl (by omega) <| omv rfl ?_
      exact WO.nil ⟨i, Cov.cons rfl (Cov.cons rfl (Cov.cons rfl (Cov.nil _))), ⟨rfl, by omega, hab⟩, by omega⟩
  · have hc := of_decide_eq_false hc
    obtain rfl : k = 0 := by omega
    refine WC.seqO (omv rfl (WO.nil (WC.ret (fin _ _ rfl hab))))

theorem rroot_ans (h : Heap) (hw : Wf h) (p power : Nat) (hp : p < 4294967296) (hpw : power = 2 ∨ power = 3) : Ans C 33 [iv p, iv power] h fun v h' => v = iv (rootF p power) ∧ Grow h h' := by
  have hF : C.F 33 = some a33 := S.f rfl
  unfold a33 at hF
  refine Ans.val (fun _ _ => S.s _ _ _ rfl) hF rfl rfl hw fun h2 g => ?_
  clear hF
  refine WC.seqO (omv rfl (WO.nil (WC.seqO ?_)))
  have e2p : (2 : Int) * (power : Int) = ((2 * power : Nat) : Int) := by omega
  refine omv rfl <| obn rfl rfl (bin_mul (by omega)) ?_
  rw [e2p]
  refine WO.ops (StepK.makeSl rfl rfl (make_nv h2 _ (by omega))) <| omv rfl ?_
  have a0 := Cl.new h2 (nv (List.replicate (2 * power) 0)) none
  have g3 := g.push (.cells (nv (List.replicate (2 * power) 0)) (.tip [] 0 none))
  generalize h2.push (.cells (nv (List.replicate (2 * power) 0)) (.tip [] 0 none)) = h3 at *
  generalize h2.size = c at *
  refine WO.nil (WC.seqO ?_)
  refine omv rfl <| omv rfl ?_
  refine WO.call rfl rfl (rdigits_ans S h3 g3.wf p 2 (by omega) (by omega)) ?_
  rintro d h4 ⟨gd, g4⟩
  have a4 := a0.grow g4
  have g4 := g3.trans g4
  have hap : ∃ v h5, appendA h4 1 8 none (.slice (some (c, 0)) (2 * power) (2 * power)) d = some (v, h5) ∧ NatS h5 v (goalF p power) ∧ Grow h4 h5 := by
    have hs := Sl.cells gd.s
    have hl := gd.s.len
    have hd2 := dgtF_len 2 p
    rw [nl_len, dgtF_len, flat_nl] at hs
    rw [dgtF_len] at hl
    have hold : slCells h4 1 (2 * power) (.slice (some (c, 0)) (2 * power) (2 * power)) = some (nv (List.replicate (2 * power) 0)) := by
      simp only [slCells]
      rw [if_neg (by omega), Nat.mul_one]
      exact a4.rds (by rw [nv_len, List.length_replicate])
    have gp := (Grow.refl g4.wf).push (.cells (nv (goalF p power)) (.tip [] 0 none))
    refine ⟨.oslice h4.size 0 (2 * power + 2) (2 * power + 2) 1, h4.push (.cells (nv (goalF p power)) (.tip [] 0 none)), ?_, ?_, gp⟩
    · simp only [appendA, hl, hs]
      rw [if_pos ⟨by decide, by decide, by rw [nv_len, hd2], by
        rw [List.all_eq_true]; intro v hv; obtain ⟨n, _, rfl⟩ := List.mem_map.1 hv; rfl⟩]
      simp only [appendCore]
      rw [if_neg (by omega), if_pos (roomy8 (by omega)), hold]
      unfold goalF nv
      rw [List.map_append]
    · refine ⟨fun c hc => by obtain ⟨n, _, rfl⟩ := List.mem_map.1 hc; rfl, ?_, Nat.le_refl _, .inl rfl, fun _ => ?_⟩
      · rw [nl_len]; unfold goalF; rw [List.length_append, List.length_replicate, hd2]
      · rw [flat_nl, nl_len, Nat.mul_one]; exact rds_all (get_push_self _ _) (nv_len _)
  obtain ⟨v5, h5, ap1, ap2, ap3⟩ := hap
  refine WO.ops (StepK.append rfl rfl ap1) <| omv rfl (WO.nil (WC.seqO (omv rfl (WO.nil (WC.seq (WC.seqO (omv rfl (WO.nil (WC.block ?_)))))))))
  have g5 := g4.trans ap3
  have hgl : (goalF p power).length ≤ 1000 := by unfold goalF; rw [List.length_append, List.length_replicate, dgtF_len]; omega
  refine WC.loop (σ := Nat) (fun k => [(1, iv power), (5, v5), (6, iv (rtF power (goalF p power) k)), (7, iv ((40 : Int) - k))]) (fun k h' => Grow h h' ∧ Grow h5 h' ∧ k ≤ 41) (fun k => 41 - k) 0 (Cov.cons rfl (Cov.cons rfl (Cov.cons rfl (Cov.cons rfl (Cov.nil _))))) ⟨g5, Grow.refl g5.wf, by omega⟩ ?_
  rintro k h6 ⟨g6, g56, hk⟩
  refine WC.seq (WC.seqO ?_)
  refine omv rfl <| obn rfl rfl rfl ?_
  refine WO.nil (WC.cond rfl (fun hc => WC.skip ?_) (fun hc => WC.exit ?_))
  · have hc := of_decide_eq_true hc
    have hk : k ≤ 40 := by omega
    have hx := rtF_lt power (goalF p power) k (by omega)
    have hstep : rtF power (goalF p power) (k + 1) = rtStep power (goalF p power) (40 - k) (rtF power (goalF p power) k) := rfl
    generalize rtF power (goalF p power) k = x at *
    have ek : (40 : Int) - (k : Int) = ((40 - k : Nat) : Int) := by omega
    rw [ek]
    have hpow : 2 ^ (40 - k) ≤ 2 ^ 40 := Nat.pow_le_pow_right (by decide) (by omega)
    have h40 : (2 : Nat) ^ 40 = 1099511627776 := rfl
    have hsh := shl64 1 (40 - k) (by omega) (by omega) .u64
    have e1 : Nat.shiftLeft 1 (40 - k) = 2 ^ (40 - k) := by rw [show Nat.shiftLeft 1 (40 - k) = 1 * 2 ^ (40 - k) from Nat.shiftLeft_eq 1 (40 - k), Nat.one_mul]
    rw [e1] at hsh
    refine WC.seq (WC.block (WC.seqO ?_))
    refine omv rfl <| omv rfl <| WO.ops (StepK.toInt rfl (toU64 (40 - k) (by omega))) <| obn rfl rfl hsh <| oad rfl rfl (by omega) ?_
    unfold rtStep at hstep
    obtain ⟨y, hy⟩ : ∃ y, x + 2 ^ (40 - k) = y := ⟨_, rfl⟩
    have ey : ((x : Int) + ((2 ^ (40 - k) : Nat) : Int)) = (y : Int) := by omega
    rw [ey]
    rw [hy] at hstep
    simp only at hstep
    refine omv rfl (WO.nil (WC.seqO ?_))
    refine omv rfl ?_
    refine WO.call rfl rfl (rdigits_ans S h6 g6.wf y 3 (by omega) (by omega)) ?_
    rintro dv h7 ⟨gd7, g7⟩
    have sd := gd7.s
    have g57 := g56.trans g7
    have g7 := g6.trans g7
    have hd3 := dgtF_len 3 y
    have hdl := dgtF_lt 3 y
    generalize dgtF 3 y = dl at *
    have bd1 : Bnd dl dl 65535 131072 := ⟨fun x hx => by have := hdl x hx; omega, fun x hx => by have := hdl x hx; omega, by omega, by decide⟩
    refine omv rfl (WO.nil (WC.seqO ?_))
    refine omv rfl <| omv rfl ?_
    refine WO.call rfl rfl (rtimes_ans S h7 g7.wf dv dv dl dl 65535 131072 sd sd (by omega) bd1 (by omega) (by omega)) ?_
    rintro nv1 h8 ⟨_, sn, g8⟩
    have sd := sd.grow g8
    have g58 := g57.trans g8
    have g8 := g7.trans g8
    have hnl := timesF_len dl dl
    have hnb : ∀ z ∈ timesF dl dl, z ≤ 16777216 := fun z hz => by
      have := tOut_bd bd1 dl.length (by omega) z hz
      have : dl.length * 131072 ≤ 10 * 131072 := Nat.mul_le_mul_right _ (by omega)
      omega
    generalize timesF dl dl = nl1 at *
    have bd2 : Bnd nl1 dl 16777216 67108864 := ⟨hnb, fun x hx => by have := hdl x hx; omega, by omega, by decide⟩
    refine omv rfl (WO.nil ?_)
    refine WC.seqM (M := fun e' h' => ∃ nv2, Cov [(1, iv power), (5, v5), (6, iv x), (7, iv ((40 - k : Nat) : Int)), (8, iv y), (10, nv2)] e' ∧ NatS h' nv2 (if power = 3 then timesF nl1 dl else nl1) ∧ Grow h h' ∧ Grow h5 h') (WC.seqO ?_) ?_
    · refine omv rfl <| obn rfl rfl rfl (WO.nil ?_)
      refine WC.cond rfl (fun hq => WC.ops ?_) (fun hq => WC.skip ?_)
      · have hq : (power : Int) = 3 := by simpa using hq
        rw [if_pos (by omega)]
        refine omv rfl <| omv rfl ?_
        refine WO.call rfl rfl (rtimes_ans S h8 g8.wf nv1 dv nl1 dl 16777216 67108864 sn sd (by omega) bd2 (by omega) (by omega)) ?_
        rintro nv2 h9 ⟨_, sn2, g9⟩
        refine omv rfl ?_
        exact WO.nil ⟨nv2, Cov.cons rfl (Cov.cons rfl (Cov.cons rfl (Cov.cons rfl (Cov.cons rfl (Cov.cons rfl (Cov.nil _)))))), sn2, g8.trans g9, g58.trans g9⟩
      · have hq : (power : Int) ≠ 3 := by simpa using hq
        rw [if_neg (by omega)]
        exact ⟨nv1, Cov.cons rfl (Cov.cons rfl (Cov.cons rfl (Cov.cons rfl (Cov.cons rfl (Cov.cons rfl (Cov.nil _)))))), sn, g8, g58⟩
    rintro e' h9 ⟨nv2, cv, sn2, g9, g59⟩
    have hml : (if power = 3 then timesF nl1 dl else nl1).length ≤ 1000 := by
      split
      · rw [timesF_len]; omega
      · omega
    generalize (if power = 3 then timesF nl1 dl else nl1) = nl2 at *
    refine WC.cov cv (WC.seqO ?_)
    refine omv rfl <| omv rfl ?_
    refine WO.call rfl rfl (rabove_ans S h9 g9.wf nv2 v5 nl2 (goalF p power) sn2 (ap2.grow g59) hml hgl) ?_
    rintro bv' h10 ⟨rfl, g10⟩
    have g510 := g59.trans g10
    have g10 := g9.trans g10
    refine ont rfl (WO.nil ?_)
    have ek2 : ((40 - k : Nat) : Int) - 1 = (40 : Int) - ((k + 1 : Nat) : Int) := by omega
    refine WC.cond rfl (fun hq => WC.ops ?_) (fun hq => WC.skip (WC.ops ?_))
    · have hq : aboveF nl2 (goalF p power) = false := by simpa using hq
      rw [hq] at hstep
      refine omv rfl <| omv rfl (WO.nil (WC.ops ?_))
      refine omv rfl <| osb rfl rfl (by omega) <| omv rfl ?_
      rw [ek2]
      refine WO.nil ⟨k + 1, ?_, ⟨g10, g510, by omega⟩, by omega⟩
      rw [hstep]
      exact Cov.cons rfl (Cov.cons rfl (Cov.cons rfl (Cov.cons rfl (Cov.nil _))))
    · have hq : aboveF nl2 (goalF p power) = true := by simpa using hq
      rw [hq] at hstep
      refine omv rfl <| osb rfl rfl (by omega) <| omv rfl ?_
      rw [ek2]
      refine WO.nil ⟨k + 1, ?_, ⟨g10, g510, by omega⟩, by omega⟩
      rw [hstep]
      exact Cov.cons rfl (Cov.cons rfl (Cov.cons rfl (Cov.cons rfl (Cov.nil _))))
  · have hc := of_decide_eq_false hc
    obtain rfl : k = 41 := by omega
    refine WC.seqO ?_
    refine omv rfl <| obn rfl rfl (rem_nn _ 4294967296 (by decide)) <| omv rfl ?_
    exact WO.nil (WC.ret ⟨trivial, g6, rfl⟩)

theorem rpad_ans (h : Heap) (hw : Wf h) (s : List Nat) (hs : s.length ≤ 1000000000) : Ans C 34 [.str s] h fun v h' => v = .str (padF s) ∧ Grow h h' := by
  have hF : C.F 34 = some a34 := S.f rfl
  unfold a34 at hF
  refine Ans.val (fun _ _ => S.s _ _ _ rfl) hF rfl rfl hw fun h2 g => ?_
  clear hF
  have hmul : binA .mul (iv 8) (iv s.length) = some (iv ((8 * s.length : Nat) : Int)) := by
    rw [bin_mul (by omega)]; rfl
  refine WC.seqO (omv rfl (WO.nil (WC.seqO ?_)))
  refine omv rfl <| olt rfl <| obn rfl rfl hmul <| omv rfl (WO.nil (WC.seqO ?_))
  refine omv rfl <| obn rfl rfl (add_str (by simp; omega)) <| omv rfl (WO.nil (WC.seq (WC.block ?_)))
  obtain ⟨z, hz⟩ : ∃ z, (119 - s.length % 64) % 64 = z := ⟨_, rfl⟩
  refine WC.loop (σ := Nat) (fun j => [(0, .str (s ++ 128 :: repL [0] j)), (3, iv ((8 * s.length : Nat) : Int))]) (fun j h' => h' = h2 ∧ j ≤ z) (fun j => z - j) 0 (Cov.cons rfl (Cov.cons rfl (Cov.nil _))) ⟨rfl, by omega⟩ ?_
  rintro j h3 ⟨rfl, hj⟩
  have hlen : (s ++ 128 :: repL [0] j).length = s.length + 1 + j := by rw [List.length_append, List.length_cons, repL_len]; omega
  refine WC.seq (WC.seqO ?_)
  refine omv rfl <| olt rfl ?_
  rw [hlen]
  refine obn rfl rfl (rem_nn _ 64 (by decide)) <| obn rfl rfl rfl ?_
  refine WO.nil (WC.cond rfl (fun hc => WC.skip ?_) (fun hc => WC.exit ?_))
  · have hc : ((s.length + 1 + j) % 64 : Nat) ≠ 56 := by
      intro q; rw [q] at hc; cases hc
    refine WC.block (WC.ops ?_)
    refine omv rfl <| obn rfl rfl (add_str (by simp only [hlen, List.length_cons, List.length_nil]; omega)) <| omv rfl ?_
    refine WO.nil ⟨j + 1, Cov.cons ?_ (Cov.cons rfl (Cov.nil _)), ⟨rfl, by omega⟩, by omega⟩
    refine (show some (V.str (s ++ 128 :: repL [0] j ++ [0])) = some (V.str (s ++ 128 :: repL [0] (j + 1))) from ?_)
    rw [List.append_assoc, List.cons_append, repL_snoc]
  · have hc : ((s.length + 1 + j) % 64 : Nat) = 56 := by
      have : ((((s.length + 1 + j) % 64 : Nat)) : Int) = 56 := by simpa using hc
      omega
    obtain rfl : j = z := by omega
    refine WC.seq (WC.seqO (omv rfl (WO.nil (WC.block ?_))))
    have htu : ∀ m, (tailUp (8 * s.length) m).length = m := by
      intro m
      induction m with
      | zero => rfl
      | succ m ih => simp [tailUp, ih]
    refine WC.loop (σ := Nat) (fun k => [(0, .str (s ++ 128 :: repL [0] j ++ tailUp (8 * s.length) k)), (3, iv ((8 * s.length : Nat) : Int)), (4, iv ((7 : Int) - k))]) (fun k h' => Grow h h' ∧ k ≤ 8) (fun k => 8 - k) 0 (Cov.cons (by show some (V.str (s ++ 128 :: repL [0] j)) = some (V.str (s ++ 128 :: repL [0] j ++ tailUp (8 * s.length) 0)); rw [show tailUp (8 * s.length) 0 = [] from rfl, List.append_nil]) (Cov.cons rfl (Cov.cons rfl (Cov.nil _)))) ⟨g, by omega⟩ ?_
    rintro k h4 ⟨g4, hk⟩
    refine WC.seq (WC.seqO ?_)
    refine omv rfl <| obn rfl rfl rfl ?_
    refine WO.nil (WC.cond rfl (fun hc2 => WC.skip ?_) (fun hc2 => WC.exit ?_))
    · have hc2 := of_decide_eq_true hc2
      have hk7 : k ≤ 7 := by omega
      have e8 : (8 : Int) * ((7 : Int) - k) = ((56 - 8 * k : Nat) : Int) := by omega
      refine WC.seq (WC.block (WC.ops ?_))
      refine omv rfl <| omv rfl <| omv rfl <| obn rfl rfl (bin_mul (by omega)) ?_
      rw [e8]
      have hby : IntKind.u8.wrap ((Nat.shiftRight (8 * s.length) (56 - 8 * k) : Nat) : Int) = Int.ofNat (8 * s.length / 2 ^ (56 - 8 * k) % 256) := by
        have e : Nat.shiftRight (8 * s.length) (56 - 8 * k) = 8 * s.length / 2 ^ (56 - 8 * k) := Nat.shiftRight_eq_div_pow _ _
        rw [e]
        generalize 8 * s.length / 2 ^ (56 - 8 * k) = q
        show ((q : Int) % 256) = ((q % 256 : Nat) : Int)
        omega
      refine WO.ops (StepK.toInt rfl (toU64 (56 - 8 * k) (by omega))) <| obn rfl rfl (shr64 _ (56 - 8 * k) (by omega) _) <| WO.ops (StepK.toInt rfl hby) <| WO.ops (StepK.buildSl rfl rfl) ?_
      have ab := Cl.new h4 ([8 * s.length / 2 ^ (56 - 8 * k) % 256].map bv) (some 5)
      have g5 := (Grow.refl g4.wf).push (.cells ([8 * s.length / 2 ^ (56 - 8 * k) % 256].map bv) (.tip [] 0 (some 5)))
      have hts := toStr_cl (n := 1) (c := 1) ab rfl (fun x hx => by simp at hx; omega)
      change WO C _ _ (h4.push (.cells ([8 * s.length / 2 ^ (56 - 8 * k) % 256].map bv) (.tip [] 0 (some 5)))) _
      generalize h4.push (.cells ([8 * s.length / 2 ^ (56 - 8 * k) % 256].map bv) (.tip [] 0 (some 5))) = h5 at *
      refine WO.ops (StepK.toStr rfl hts) ?_
      refine obn rfl rfl (add_str (by simp [htu, repL_len]; omega)) <| omv rfl (WO.nil (WC.ops ?_))
      refine omv rfl <| osb rfl rfl (by omega) <| omv rfl ?_
      refine WO.nil ⟨k + 1, Cov.cons ?_ (Cov.cons rfl (Cov.cons ?_ (Cov.nil _))), ⟨g4.trans g5, by omega⟩, by omega⟩
      · refine (show some (V.str (s ++ 128 :: repL [0] j ++ tailUp (8 * s.length) k ++ [8 * s.length / 2 ^ (56 - 8 * k) % 256])) = some (V.str (s ++ 128 :: repL [0] j ++ tailUp (8 * s.length) (k + 1))) from ?_)
        simp only [tailUp, List.append_assoc]
      · refine (show some (iv ((7 : Int) - k - 1)) = some (iv ((7 : Int) - ((k + 1 : Nat) : Int))) from ?_)
        congr 2; omega
    · have hc2 := of_decide_eq_false hc2
      obtain rfl : k = 8 := by omega
      have hpad : s ++ 128 :: repL [0] j ++ tailUp (8 * s.length) 8 = padF s := by
        unfold padF tailF; rw [hz]; simp [tailUp, be8]
      rw [hpad]
      refine WC.seqO ?_
      refine omv rfl <| omv rfl ?_
      exact WO.nil (WC.ret ⟨trivial, g4, rfl⟩)
end
end Abs
end Go.Proofs.YthdgjjggndfbhaaDoor
