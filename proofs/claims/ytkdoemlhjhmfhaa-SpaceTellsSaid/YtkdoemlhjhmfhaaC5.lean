/- Layer 7: the runs of places. -/
import Derived.Test.YtkdoemlhjhmfhaaC1
namespace Go.Proofs.Ytkdoemlhjhmfhaa
namespace Abs
set_option linter.unusedVariables false
set_option linter.unusedSimpArgs false
set_option maxHeartbeats 1600000
open Go.RowKit
attribute [local irreducible] WO WC WD StepK Ans Does Runs DoesD
variable {C : Cfg} (hS : ∀ f args h, f ≠ 8 → C.S f args h = none)

/-- A place more, behind all runs. -/
def addF (R : List (Int × Int)) (i : Int) : List (Int × Int) :=
  match R.getLast? with
  | some r => if r.1 + r.2 = i then R.set (R.length - 1) (r.1, r.2 + 1) else R ++ [(i, 1)]
  | none => R ++ [(i, 1)]
def ofF : Int → List (Int × Int) → List Bool → List (Int × Int)
  | _, R, [] => R
  | i, R, u :: l => ofF (i + 1) (if u then R else addF R i) l
/-- What is so of the runs of the places below i. -/
def JF (R : List (Int × Int)) (i : Nat) : Prop := R.length ≤ i ∧ ∀ r ∈ R, 0 ≤ r.1 ∧ 1 ≤ r.2 ∧ r.1 + r.2 ≤ i
theorem JF.up {R : List (Int × Int)} {i : Nat} (h : JF R i) : JF R (i + 1) := ⟨by have := h.1; omega, fun r hr => by have := h.2 r hr; omega⟩
theorem JF.app {R : List (Int × Int)} {i : Nat} (h : JF R i) : JF (R ++ [((i : Int), 1)]) (i + 1) := by
  refine ⟨by have := h.1; simp; omega, fun r hr => ?_⟩
  rcases List.mem_append.1 hr with q | q
  · have := h.2 r q; omega
  · simp at q; subst q; simp
theorem JF.set {R : List (Int × Int)} {i : Nat} (h : JF R i) {r : Int × Int} (hr : r ∈ R) (he : r.1 + r.2 = i) : JF (R.set (R.length - 1) (r.1, r.2 + 1)) (i + 1) := by
  refine ⟨by have := h.1; simp; omega, fun s hs => ?_⟩
  have hrr := h.2 r hr
  rcases List.mem_or_eq_of_mem_set hs with q | q
  · have := h.2 s q; omega
  · subst q; simp; omega

theorem grow_one {h0 h : Heap} {u : V} {R : List (Int × Int)} (hw0 : Wf h0) (g : Grow h0 h) (s : Grown h h0.size 2 u (R.map rn)) (hl : R.length ≤ 1000) (r : Int × Int) :
    ∃ v h4, appendA (h.push (.cells (rn r) (.tip [] 0))) 2 16 u (.slice (some (h.size, 0)) 1 1) = some (v, h4) ∧ Grown h4 h0.size 2 v ((R ++ [r]).map rn) ∧ Grow h0 h4 := by
  have hnew : Sl (h.push (.cells (rn r) (.tip [] 0))) 2 (.slice (some (h.size, 0)) 1 1) [rn r] :=
    ⟨by simp, rfl, Nat.le_refl _, fun _ => rds_all (st := .tip [] 0) (by rw [get_push, if_pos rfl]; rfl) rfl⟩
  have gp : Grow h (h.push (.cells (rn r) (.tip [] 0))) := (Grow.refl g.wf).push _
  obtain ⟨v, h4, p1, p2, p3⟩ := (s.grow gp).append hw0 (g.trans gp) hnew (sz := 2) (bytes := 16) (by decide) (by decide) (by
    simp only [List.length_map, roomy, List.length_singleton, decide_eq_true_eq]; omega) (by intro c hc v hv; simp at hc; subst hc; simp at hv; rcases hv with e | e <;> subst e <;> rfl)
  exact ⟨v, h4, p1, by rw [List.map_append]; exact p2, p3⟩
/-- The last run is longer by one. -/
theorem grow_last {h0 h : Heap} {u : V} {R : List (Int × Int)} (hw0 : Wf h0) (g : Grow h0 h) (s : Grown h h0.size 2 u (R.map rn)) (hl : 0 < R.length) {r : Int × Int} (hr : R.getLast? = some r) :
    ∃ b o h4, idxSlA 2 u (iv ((R.length : Int) - 1)) = some (.ptr (some (b, o))) ∧ h.rds b o 2 = some (rn r) ∧ h.wr b (o + 1) [iv (r.2 + 1)] = some h4 ∧ Grown h4 h0.size 2 u ((R.set (R.length - 1) (r.1, r.2 + 1)).map rn) ∧ Grow h0 h4 := by
  have hi : R.length - 1 < (R.map rn).length := by rw [List.length_map]; omega
  obtain ⟨b, o, h4, p1, p2, p3, p4, p5⟩ := Grown.store hw0 g s hi (j := 1) (by decide) (v := iv (r.2 + 1)) rfl
  have hrr : R[R.length - 1]'(by omega) = r := by
    rw [List.getLast?_eq_getElem?, List.getElem?_eq_getElem (by omega)] at hr; cases hr; rfl
  rw [List.getElem_map, hrr] at p2 p4
  refine ⟨b, o, h4, ?_, p2, p3, ?_, p5⟩
  · rw [← p1]; congr 2; omega
  · rw [List.map_set]; exact p4

include hS
theorem of_ans (hF : C.F 18 = some a18) (hF24 : C.F 24 = some a24) (h : Heap) (hw : Wf h) (x : V) (U : List Bool) (hx : Sl h 1 x (U.map fun u => [.bool u])) (hl : U.length ≤ 900) : Ans C 18 [x] h fun v h' => Grown h' h.size 2 v ((ofF 0 [] U).map rn) ∧ Grow h h' := by
  unfold a18 at hF
  refine Ans.fn (fun _ _ => hS _ _ _ (by decide)) hF rfl rfl hw fun h2 g => ?_
  clear hF
  have hsx : slLen x = some U.length := by rw [hx.len, List.length_map]
  refine WC.seqO ?_
  (repeat (first | refine WO.ops (StepK.mv rfl) ?_ | refine WO.ops (StepK.lenSl rfl (by first | with_reducible assumption | rfl)) ?_ | refine WO.ops (StepK.fieldAddr rfl) ?_ | refine WO.ops (StepK.add rfl rfl (by omega)) ?_ | refine WO.ops (StepK.sub rfl rfl (by omega)) ?_ | refine WO.ops (StepK.bin rfl rfl rfl) ?_ | refine WO.ops (StepK.pickT rfl rfl) ?_ | refine WO.ops (StepK.pickF rfl rfl) ?_ | refine WO.ops (StepK.not rfl) ?_ | refine WO.ops (StepK.eq rfl rfl rfl) ?_ | refine WO.ops (StepK.extract rfl rfl) ?_ | refine WO.ops (StepK.build rfl rfl) ?_ | refine WO.ops (StepK.mkFn rfl rfl) ?_ | refine WO.ops (StepK.field rfl rfl) ?_ | refine WO.ops (StepK.lenStr rfl) ?_ | refine WO.ops (StepK.min2 rfl rfl) ?_ | refine WO.ops (StepK.max2 rfl rfl) ?_ | refine WO.ops (StepK.load1 rfl (by first | with_reducible assumption | rfl)) ?_ | refine WO.run rfl ?_ | refine WO.skip rfl rfl ?_ | refine WO.skipu rfl ?_))
  refine WO.nil (WC.seqO ?_)
  (repeat (first | refine WO.ops (StepK.mv rfl) ?_ | refine WO.ops (StepK.lenSl rfl (by first | with_reducible assumption | rfl)) ?_ | refine WO.ops (StepK.fieldAddr rfl) ?_ | refine WO.ops (StepK.add rfl rfl (by omega)) ?_ | refine WO.ops (StepK.sub rfl rfl (by omega)) ?_ | refine WO.ops (StepK.bin rfl rfl rfl) ?_ | refine WO.ops (StepK.pickT rfl rfl) ?_ | refine WO.ops (StepK.pickF rfl rfl) ?_ | refine WO.ops (StepK.not rfl) ?_ | refine WO.ops (StepK.eq rfl rfl rfl) ?_ | refine WO.ops (StepK.extract rfl rfl) ?_ | refine WO.ops (StepK.build rfl rfl) ?_ | refine WO.ops (StepK.mkFn rfl rfl) ?_ | refine WO.ops (StepK.field rfl rfl) ?_ | refine WO.ops (StepK.lenStr rfl) ?_ | refine WO.ops (StepK.min2 rfl rfl) ?_ | refine WO.ops (StepK.max2 rfl rfl) ?_ | refine WO.ops (StepK.load1 rfl (by first | with_reducible assumption | rfl)) ?_ | refine WO.run rfl ?_ | refine WO.skip rfl rfl ?_ | refine WO.skipu rfl ?_))
  refine WO.nil (WC.seq (WC.seqO ?_))
  refine WO.ops (StepK.mv rfl) ?_
  refine WO.ops (StepK.lenSl rfl hsx) ?_
  (repeat (first | refine WO.ops (StepK.mv rfl) ?_ | refine WO.ops (StepK.lenSl rfl (by first | with_reducible assumption | rfl)) ?_ | refine WO.ops (StepK.fieldAddr rfl) ?_ | refine WO.ops (StepK.add rfl rfl (by omega)) ?_ | refine WO.ops (StepK.sub rfl rfl (by omega)) ?_ | refine WO.ops (StepK.bin rfl rfl rfl) ?_ | refine WO.ops (StepK.pickT rfl rfl) ?_ | refine WO.ops (StepK.pickF rfl rfl) ?_ | refine WO.ops (StepK.not rfl) ?_ | refine WO.ops (StepK.eq rfl rfl rfl) ?_ | refine WO.ops (StepK.extract rfl rfl) ?_ | refine WO.ops (StepK.build rfl rfl) ?_ | refine WO.ops (StepK.mkFn rfl rfl) ?_ | refine WO.ops (StepK.field rfl rfl) ?_ | refine WO.ops (StepK.lenStr rfl) ?_ | refine WO.ops (StepK.min2 rfl rfl) ?_ | refine WO.ops (StepK.max2 rfl rfl) ?_ | refine WO.ops (StepK.load1 rfl (by first | with_reducible assumption | rfl)) ?_ | refine WO.run rfl ?_ | refine WO.skip rfl rfl ?_ | refine WO.skipu rfl ?_))
  refine WO.nil (WC.block ?_)
  refine WC.loop (σ := Nat × V × List (Int × Int)) (fun s => [(0, x), (3, s.2.1), (7, x), (8, iv U.length), (9, iv s.1)]) (fun s h' => Grow h h' ∧ s.1 ≤ U.length ∧ Grown h' h.size 2 s.2.1 (s.2.2.map rn) ∧ ofF 0 [] U = ofF s.1 s.2.2 (U.drop s.1) ∧ JF s.2.2 s.1) (fun s => U.length - s.1) (0, .slice none 0 0, []) ?_ ⟨g, by omega, Grown.nil _ _ _, rfl, by simp [JF]⟩ ?_
  · exact Cov.cons rfl (Cov.cons rfl (Cov.cons rfl (Cov.cons rfl (Cov.cons rfl (Cov.nil _)))))
  rintro ⟨i, u, R⟩ h3 ⟨g3, hi, hg, hm, hj⟩
  simp only at hi hg hm hj
  have hsu : slLen u = some R.length := by rw [hg.sl.len, List.length_map]
  refine WC.seqO ?_
  (repeat (first | refine WO.ops (StepK.mv rfl) ?_ | refine WO.ops (StepK.lenSl rfl (by first | with_reducible assumption | rfl)) ?_ | refine WO.ops (StepK.fieldAddr rfl) ?_ | refine WO.ops (StepK.add rfl rfl (by omega)) ?_ | refine WO.ops (StepK.sub rfl rfl (by omega)) ?_ | refine WO.ops (StepK.bin rfl rfl rfl) ?_ | refine WO.ops (StepK.pickT rfl rfl) ?_ | refine WO.ops (StepK.pickF rfl rfl) ?_ | refine WO.ops (StepK.not rfl) ?_ | refine WO.ops (StepK.eq rfl rfl rfl) ?_ | refine WO.ops (StepK.extract rfl rfl) ?_ | refine WO.ops (StepK.build rfl rfl) ?_ | refine WO.ops (StepK.mkFn rfl rfl) ?_ | refine WO.ops (StepK.field rfl rfl) ?_ | refine WO.ops (StepK.lenStr rfl) ?_ | refine WO.ops (StepK.min2 rfl rfl) ?_ | refine WO.ops (StepK.max2 rfl rfl) ?_ | refine WO.ops (StepK.load1 rfl (by first | with_reducible assumption | rfl)) ?_ | refine WO.run rfl ?_ | refine WO.skip rfl rfl ?_ | refine WO.skipu rfl ?_))
  refine WO.nil (WC.seq ?_)
  refine WC.cond rfl (fun hc => WC.skip ?_) (fun hc => WC.exit ?_)
  rotate_left
  · have hc := of_decide_eq_false hc
    have : i = U.length := by omega
    subst this
    refine WC.seqO ?_
    (repeat (first | refine WO.ops (StepK.mv rfl) ?_ | refine WO.ops (StepK.lenSl rfl (by first | with_reducible assumption | rfl)) ?_ | refine WO.ops (StepK.fieldAddr rfl) ?_ | refine WO.ops (StepK.add rfl rfl (by omega)) ?_ | refine WO.ops (StepK.sub rfl rfl (by omega)) ?_ | refine WO.ops (StepK.bin rfl rfl rfl) ?_ | refine WO.ops (StepK.pickT rfl rfl) ?_ | refine WO.ops (StepK.pickF rfl rfl) ?_ | refine WO.ops (StepK.not rfl) ?_ | refine WO.ops (StepK.eq rfl rfl rfl) ?_ | refine WO.ops (StepK.extract rfl rfl) ?_ | refine WO.ops (StepK.build rfl rfl) ?_ | refine WO.ops (StepK.mkFn rfl rfl) ?_ | refine WO.ops (StepK.field rfl rfl) ?_ | refine WO.ops (StepK.lenStr rfl) ?_ | refine WO.ops (StepK.min2 rfl rfl) ?_ | refine WO.ops (StepK.max2 rfl rfl) ?_ | refine WO.ops (StepK.load1 rfl (by first | with_reducible assumption | rfl)) ?_ | refine WO.run rfl ?_ | refine WO.skip rfl rfl ?_ | refine WO.skipu rfl ?_))
    rw [List.drop_length] at hm
    simp only [ofF] at hm
    refine WO.nil (WC.ret ⟨trivial, g3.wf, u, rfl, fun h5 g5 => ⟨by rw [hm]; exact hg.grow g5, g3.trans g5⟩, fun hs => ⟨by rw [hm]; exact hg.scopd hs h, Grow.refl hw⟩⟩)
  have hc := of_decide_eq_true hc
  have hi : i < U.length := by omega
  have hRl : R.length ≤ 1000 := by have := hj.1; omega
  obtain ⟨b, o, k1, k2⟩ := (hx.grow g3).at (i := i) (by rw [List.length_map]; exact hi)
  rw [List.getElem_map] at k2
  have hd : U.drop i = U[i] :: U.drop (i + 1) := List.drop_eq_getElem_cons hi
  rw [hd] at hm
  generalize U[i] = is at *
  simp only [ofF] at hm
  have r0 : h3.rd b o = some (.bool is) := by have := rds_rd k2 (j := 0) rfl; simpa using this
  refine WC.seq (WC.block (WC.seqO ?_))
  refine WO.ops (StepK.mv rfl) ?_
  refine WO.ops (StepK.idxSl rfl rfl k1) ?_
  refine WO.ops (StepK.load1 rfl r0) ?_
  (repeat (first | refine WO.ops (StepK.mv rfl) ?_ | refine WO.ops (StepK.lenSl rfl (by first | with_reducible assumption | rfl)) ?_ | refine WO.ops (StepK.fieldAddr rfl) ?_ | refine WO.ops (StepK.add rfl rfl (by omega)) ?_ | refine WO.ops (StepK.sub rfl rfl (by omega)) ?_ | refine WO.ops (StepK.bin rfl rfl rfl) ?_ | refine WO.ops (StepK.pickT rfl rfl) ?_ | refine WO.ops (StepK.pickF rfl rfl) ?_ | refine WO.ops (StepK.not rfl) ?_ | refine WO.ops (StepK.eq rfl rfl rfl) ?_ | refine WO.ops (StepK.extract rfl rfl) ?_ | refine WO.ops (StepK.build rfl rfl) ?_ | refine WO.ops (StepK.mkFn rfl rfl) ?_ | refine WO.ops (StepK.field rfl rfl) ?_ | refine WO.ops (StepK.lenStr rfl) ?_ | refine WO.ops (StepK.min2 rfl rfl) ?_ | refine WO.ops (StepK.max2 rfl rfl) ?_ | refine WO.ops (StepK.load1 rfl (by first | with_reducible assumption | rfl)) ?_ | refine WO.run rfl ?_ | refine WO.skip rfl rfl ?_ | refine WO.skipu rfl ?_))
  refine WO.nil (WC.seqO ?_)
  refine WO.ops (StepK.mv rfl) ?_
  refine WO.ops (StepK.lenSl rfl hsu) ?_
  (repeat (first | refine WO.ops (StepK.mv rfl) ?_ | refine WO.ops (StepK.lenSl rfl (by first | with_reducible assumption | rfl)) ?_ | refine WO.ops (StepK.fieldAddr rfl) ?_ | refine WO.ops (StepK.add rfl rfl (by omega)) ?_ | refine WO.ops (StepK.sub rfl rfl (by omega)) ?_ | refine WO.ops (StepK.bin rfl rfl rfl) ?_ | refine WO.ops (StepK.pickT rfl rfl) ?_ | refine WO.ops (StepK.pickF rfl rfl) ?_ | refine WO.ops (StepK.not rfl) ?_ | refine WO.ops (StepK.eq rfl rfl rfl) ?_ | refine WO.ops (StepK.extract rfl rfl) ?_ | refine WO.ops (StepK.build rfl rfl) ?_ | refine WO.ops (StepK.mkFn rfl rfl) ?_ | refine WO.ops (StepK.field rfl rfl) ?_ | refine WO.ops (StepK.lenStr rfl) ?_ | refine WO.ops (StepK.min2 rfl rfl) ?_ | refine WO.ops (StepK.max2 rfl rfl) ?_ | refine WO.ops (StepK.load1 rfl (by first | with_reducible assumption | rfl)) ?_ | refine WO.run rfl ?_ | refine WO.skip rfl rfl ?_ | refine WO.skipu rfl ?_))
  refine WO.nil (WC.block (WC.seqO ?_))
  (repeat (first | refine WO.ops (StepK.mv rfl) ?_ | refine WO.ops (StepK.lenSl rfl (by first | with_reducible assumption | rfl)) ?_ | refine WO.ops (StepK.fieldAddr rfl) ?_ | refine WO.ops (StepK.add rfl rfl (by omega)) ?_ | refine WO.ops (StepK.sub rfl rfl (by omega)) ?_ | refine WO.ops (StepK.bin rfl rfl rfl) ?_ | refine WO.ops (StepK.pickT rfl rfl) ?_ | refine WO.ops (StepK.pickF rfl rfl) ?_ | refine WO.ops (StepK.not rfl) ?_ | refine WO.ops (StepK.eq rfl rfl rfl) ?_ | refine WO.ops (StepK.extract rfl rfl) ?_ | refine WO.ops (StepK.build rfl rfl) ?_ | refine WO.ops (StepK.mkFn rfl rfl) ?_ | refine WO.ops (StepK.field rfl rfl) ?_ | refine WO.ops (StepK.lenStr rfl) ?_ | refine WO.ops (StepK.min2 rfl rfl) ?_ | refine WO.ops (StepK.max2 rfl rfl) ?_ | refine WO.ops (StepK.load1 rfl (by first | with_reducible assumption | rfl)) ?_ | refine WO.run rfl ?_ | refine WO.skip rfl rfl ?_ | refine WO.skipu rfl ?_))
  have push : ∀ (e : List (Nat × V)) (v : V) (h4 : Heap) (R' : List (Int × Int)), Cov [(0, x), (3, v), (7, x), (8, iv U.length), (9, iv i)] e → Grow h h4 → Grown h4 h.size 2 v (R'.map rn) → (if is = true then R else addF R i) = R' → JF R' (i + 1) →
      WC C (.ops [⟨(some 45), none, .bin .add (.t 9) (.c (.int .i64 (1)))⟩, ⟨(some 9), none, .mv (.t 45)⟩]) e h4 (fun x_1 e' h' => match x_1 with
        | .normal => ∃ s' : Nat × V × List (Int × Int), Cov [(0, x), (3, s'.2.1), (7, x), (8, iv U.length), (9, iv s'.1)] e' ∧ (Grow h h' ∧ s'.1 ≤ U.length ∧ Grown h' h.size 2 s'.2.1 (s'.2.2.map rn) ∧ ofF 0 [] U = ofF s'.1 s'.2.2 (U.drop s'.1) ∧ JF s'.2.2 s'.1) ∧ U.length - s'.1 < U.length - i
        | _ => False) := by
    intro e v h4 R' hcv g4 hg4 hR' hj'
    refine WC.cov hcv (WC.ops ?_)
    (repeat (first | refine WO.ops (StepK.mv rfl) ?_ | refine WO.ops (StepK.lenSl rfl (by first | with_reducible assumption | rfl)) ?_ | refine WO.ops (StepK.fieldAddr rfl) ?_ | refine WO.ops (StepK.add rfl rfl (by omega)) ?_ | refine WO.ops (StepK.sub rfl rfl (by omega)) ?_ | refine WO.ops (StepK.bin rfl rfl rfl) ?_ | refine WO.ops (StepK.pickT rfl rfl) ?_ | refine WO.ops (StepK.pickF rfl rfl) ?_ | refine WO.ops (StepK.not rfl) ?_ | refine WO.ops (StepK.eq rfl rfl rfl) ?_ | refine WO.ops (StepK.extract rfl rfl) ?_ | refine WO.ops (StepK.build rfl rfl) ?_ | refine WO.ops (StepK.mkFn rfl rfl) ?_ | refine WO.ops (StepK.field rfl rfl) ?_ | refine WO.ops (StepK.lenStr rfl) ?_ | refine WO.ops (StepK.min2 rfl rfl) ?_ | refine WO.ops (StepK.max2 rfl rfl) ?_ | refine WO.ops (StepK.load1 rfl (by first | with_reducible assumption | rfl)) ?_ | refine WO.run rfl ?_ | refine WO.skip rfl rfl ?_ | refine WO.skipu rfl ?_))
    refine WO.nil ⟨(i + 1, v, R'), ?_, ⟨g4, hi, hg4, by rw [hm, hR']; rfl, hj'⟩, by simp only; omega⟩
    exact Cov.cons rfl (Cov.cons rfl (Cov.cons rfl (Cov.cons rfl (Cov.cons rfl (Cov.nil _)))))
  refine WO.nil (WC.cond rfl (fun hc1 => WC.skip ?_) (fun hc1 => WC.seqO ?_))
  · refine (push _ u h3 R ?_ g3 hg (by rw [hc1]; rfl) hj.up).mono ?_
    · exact Cov.cons rfl (Cov.cons rfl (Cov.cons rfl (Cov.cons rfl (Cov.cons rfl (Cov.nil _)))))
    · intro x1 e1 h1 hq; cases x1 <;> first | exact hq | exact hq.elim
  refine WO.ops (StepK.mv rfl) ?_
  (repeat (first | refine WO.ops (StepK.mv rfl) ?_ | refine WO.ops (StepK.lenSl rfl (by first | with_reducible assumption | rfl)) ?_ | refine WO.ops (StepK.fieldAddr rfl) ?_ | refine WO.ops (StepK.add rfl rfl (by omega)) ?_ | refine WO.ops (StepK.sub rfl rfl (by omega)) ?_ | refine WO.ops (StepK.bin rfl rfl rfl) ?_ | refine WO.ops (StepK.pickT rfl rfl) ?_ | refine WO.ops (StepK.pickF rfl rfl) ?_ | refine WO.ops (StepK.not rfl) ?_ | refine WO.ops (StepK.eq rfl rfl rfl) ?_ | refine WO.ops (StepK.extract rfl rfl) ?_ | refine WO.ops (StepK.build rfl rfl) ?_ | refine WO.ops (StepK.mkFn rfl rfl) ?_ | refine WO.ops (StepK.field rfl rfl) ?_ | refine WO.ops (StepK.lenStr rfl) ?_ | refine WO.ops (StepK.min2 rfl rfl) ?_ | refine WO.ops (StepK.max2 rfl rfl) ?_ | refine WO.ops (StepK.load1 rfl (by first | with_reducible assumption | rfl)) ?_ | refine WO.run rfl ?_ | refine WO.skip rfl rfl ?_ | refine WO.skipu rfl ?_))
  refine WO.splitG rfl (fun hc2 => ?_) (fun hc2 => ?_)
  rotate_left
  · have hc2 := of_decide_eq_false hc2
    (repeat (first | refine WO.ops (StepK.mv rfl) ?_ | refine WO.ops (StepK.lenSl rfl (by first | with_reducible assumption | rfl)) ?_ | refine WO.ops (StepK.fieldAddr rfl) ?_ | refine WO.ops (StepK.add rfl rfl (by omega)) ?_ | refine WO.ops (StepK.sub rfl rfl (by omega)) ?_ | refine WO.ops (StepK.bin rfl rfl rfl) ?_ | refine WO.ops (StepK.pickT rfl rfl) ?_ | refine WO.ops (StepK.pickF rfl rfl) ?_ | refine WO.ops (StepK.not rfl) ?_ | refine WO.ops (StepK.eq rfl rfl rfl) ?_ | refine WO.ops (StepK.extract rfl rfl) ?_ | refine WO.ops (StepK.build rfl rfl) ?_ | refine WO.ops (StepK.mkFn rfl rfl) ?_ | refine WO.ops (StepK.field rfl rfl) ?_ | refine WO.ops (StepK.lenStr rfl) ?_ | refine WO.ops (StepK.min2 rfl rfl) ?_ | refine WO.ops (StepK.max2 rfl rfl) ?_ | refine WO.ops (StepK.load1 rfl (by first | with_reducible assumption | rfl)) ?_ | refine WO.run rfl ?_ | refine WO.skip rfl rfl ?_ | refine WO.skipu rfl ?_))
    refine WO.nil (WC.condF rfl (WC.ops ?_))
    refine WO.ops (StepK.mv rfl) ?_
    refine WO.ops (StepK.mv rfl) ?_
    refine WO.ops (StepK.build (cs := rn (i, 1)) rfl rfl) ?_
    refine WO.ops (StepK.buildSl (cs := rn (i, 1)) rfl rfl) ?_
    obtain ⟨v, h4, p1, p2, p3⟩ := grow_one hw g3 hg hRl (i, 1)
    refine WO.ops (StepK.append rfl rfl p1) ?_
    refine WO.ops (StepK.mv rfl) (WO.nil ?_)
    refine (push _ v h4 _ ?_ p3 p2 ?_ hj.app).mono ?_
    · exact Cov.cons rfl (Cov.cons rfl (Cov.cons rfl (Cov.cons rfl (Cov.cons rfl (Cov.nil _)))))
    · have : R = [] := List.length_eq_zero_iff.1 (by omega)
      subst this; rw [hc1]; rfl
    · intro x1 e1 h1 hq; cases x1 <;> first | exact hq | exact hq.elim
  have hc2 := of_decide_eq_true hc2
  have hlp : 0 < R.length := by omega
  obtain ⟨r, hr⟩ : ∃ r, R.getLast? = some r := by
    rw [List.getLast?_eq_getElem?, List.getElem?_eq_getElem (by omega)]; exact ⟨_, rfl⟩
  have hrm : r ∈ R := List.mem_of_getLast? hr
  have hrb := hj.2 r hrm
  obtain ⟨b1, o1, h4, p1, p2, p3, p4, p5⟩ := grow_last hw g3 hg hlp hr
  (repeat (first | refine WO.ops (StepK.mv rfl) ?_ | refine WO.ops (StepK.lenSl rfl (by first | with_reducible assumption | rfl)) ?_ | refine WO.ops (StepK.fieldAddr rfl) ?_ | refine WO.ops (StepK.add rfl rfl (by omega)) ?_ | refine WO.ops (StepK.sub rfl rfl (by omega)) ?_ | refine WO.ops (StepK.bin rfl rfl rfl) ?_ | refine WO.ops (StepK.pickT rfl rfl) ?_ | refine WO.ops (StepK.pickF rfl rfl) ?_ | refine WO.ops (StepK.not rfl) ?_ | refine WO.ops (StepK.eq rfl rfl rfl) ?_ | refine WO.ops (StepK.extract rfl rfl) ?_ | refine WO.ops (StepK.build rfl rfl) ?_ | refine WO.ops (StepK.mkFn rfl rfl) ?_ | refine WO.ops (StepK.field rfl rfl) ?_ | refine WO.ops (StepK.lenStr rfl) ?_ | refine WO.ops (StepK.min2 rfl rfl) ?_ | refine WO.ops (StepK.max2 rfl rfl) ?_ | refine WO.ops (StepK.load1 rfl (by first | with_reducible assumption | rfl)) ?_ | refine WO.run rfl ?_ | refine WO.skip rfl rfl ?_ | refine WO.skipu rfl ?_))
  refine WO.ops (StepK.idxSl rfl rfl p1) ?_
  refine WO.run rfl ?_
  refine WO.ops (StepK.loadN rfl p2) ?_
  refine WO.run rfl ?_
  refine WO.call rfl rfl (end_ans hS hF24 h3 g3.wf r.1 r.2) ?_
  rintro v h5 ⟨rfl, g5⟩
  rw [StepK.wrap64 (by omega) (by omega)]
  have g5' := g3.trans g5
  obtain ⟨b1, o1, h4, p1, p2, p3, p4, p5⟩ := grow_last hw g5' (hg.grow g5) hlp hr
  have p6 : h5.rd b1 (o1 + 1) = some (iv r.2) := rds_rd p2 rfl
  (repeat (first | refine WO.ops (StepK.mv rfl) ?_ | refine WO.ops (StepK.lenSl rfl (by first | with_reducible assumption | rfl)) ?_ | refine WO.ops (StepK.fieldAddr rfl) ?_ | refine WO.ops (StepK.add rfl rfl (by omega)) ?_ | refine WO.ops (StepK.sub rfl rfl (by omega)) ?_ | refine WO.ops (StepK.bin rfl rfl rfl) ?_ | refine WO.ops (StepK.pickT rfl rfl) ?_ | refine WO.ops (StepK.pickF rfl rfl) ?_ | refine WO.ops (StepK.not rfl) ?_ | refine WO.ops (StepK.eq rfl rfl rfl) ?_ | refine WO.ops (StepK.extract rfl rfl) ?_ | refine WO.ops (StepK.build rfl rfl) ?_ | refine WO.ops (StepK.mkFn rfl rfl) ?_ | refine WO.ops (StepK.field rfl rfl) ?_ | refine WO.ops (StepK.lenStr rfl) ?_ | refine WO.ops (StepK.min2 rfl rfl) ?_ | refine WO.ops (StepK.max2 rfl rfl) ?_ | refine WO.ops (StepK.load1 rfl (by first | with_reducible assumption | rfl)) ?_ | refine WO.run rfl ?_ | refine WO.skip rfl rfl ?_ | refine WO.skipu rfl ?_))
  refine WO.nil (WC.cond rfl (fun hc3 => WC.ops ?_) (fun hc3 => WC.ops ?_))
  · have hc3 : r.1 + r.2 = i := by simpa using hc3
    refine WO.ops (StepK.mv rfl) ?_
    refine WO.ops (StepK.mv rfl) ?_
    (repeat (first | refine WO.ops (StepK.mv rfl) ?_ | refine WO.ops (StepK.lenSl rfl (by first | with_reducible assumption | rfl)) ?_ | refine WO.ops (StepK.fieldAddr rfl) ?_ | refine WO.ops (StepK.add rfl rfl (by omega)) ?_ | refine WO.ops (StepK.sub rfl rfl (by omega)) ?_ | refine WO.ops (StepK.bin rfl rfl rfl) ?_ | refine WO.ops (StepK.pickT rfl rfl) ?_ | refine WO.ops (StepK.pickF rfl rfl) ?_ | refine WO.ops (StepK.not rfl) ?_ | refine WO.ops (StepK.eq rfl rfl rfl) ?_ | refine WO.ops (StepK.extract rfl rfl) ?_ | refine WO.ops (StepK.build rfl rfl) ?_ | refine WO.ops (StepK.mkFn rfl rfl) ?_ | refine WO.ops (StepK.field rfl rfl) ?_ | refine WO.ops (StepK.lenStr rfl) ?_ | refine WO.ops (StepK.min2 rfl rfl) ?_ | refine WO.ops (StepK.max2 rfl rfl) ?_ | refine WO.ops (StepK.load1 rfl (by first | with_reducible assumption | rfl)) ?_ | refine WO.run rfl ?_ | refine WO.skip rfl rfl ?_ | refine WO.skipu rfl ?_))
    refine WO.ops (StepK.idxSl rfl rfl p1) ?_
    refine WO.ops (StepK.fieldAddr rfl) ?_
    refine WO.ops (StepK.load1 rfl p6) ?_
    (repeat (first | refine WO.ops (StepK.mv rfl) ?_ | refine WO.ops (StepK.lenSl rfl (by first | with_reducible assumption | rfl)) ?_ | refine WO.ops (StepK.fieldAddr rfl) ?_ | refine WO.ops (StepK.add rfl rfl (by omega)) ?_ | refine WO.ops (StepK.sub rfl rfl (by omega)) ?_ | refine WO.ops (StepK.bin rfl rfl rfl) ?_ | refine WO.ops (StepK.pickT rfl rfl) ?_ | refine WO.ops (StepK.pickF rfl rfl) ?_ | refine WO.ops (StepK.not rfl) ?_ | refine WO.ops (StepK.eq rfl rfl rfl) ?_ | refine WO.ops (StepK.extract rfl rfl) ?_ | refine WO.ops (StepK.build rfl rfl) ?_ | refine WO.ops (StepK.mkFn rfl rfl) ?_ | refine WO.ops (StepK.field rfl rfl) ?_ | refine WO.ops (StepK.lenStr rfl) ?_ | refine WO.ops (StepK.min2 rfl rfl) ?_ | refine WO.ops (StepK.max2 rfl rfl) ?_ | refine WO.ops (StepK.load1 rfl (by first | with_reducible assumption | rfl)) ?_ | refine WO.run rfl ?_ | refine WO.skip rfl rfl ?_ | refine WO.skipu rfl ?_))
    refine WO.ops (StepK.idxSl rfl rfl p1) ?_
    refine WO.ops (StepK.fieldAddr rfl) ?_
    refine WO.op (StepK.store rfl rfl rfl p3) (WO.nil ?_)
    refine (push _ u h4 _ ?_ p5 p4 ?_ (hj.set hrm hc3)).mono ?_
    · exact Cov.cons rfl (Cov.cons rfl (Cov.cons rfl (Cov.cons rfl (Cov.cons rfl (Cov.nil _)))))
    · rw [hc1, addF, hr]; simp [hc3]
    · intro x1 e1 h1 hq; cases x1 <;> first | exact hq | exact hq.elim
  · have hc3 : r.1 + r.2 ≠ i := by simpa using hc3
    refine WO.ops (StepK.mv rfl) ?_
    refine WO.ops (StepK.mv rfl) ?_
    refine WO.ops (StepK.build (cs := rn (i, 1)) rfl rfl) ?_
    refine WO.ops (StepK.buildSl (cs := rn (i, 1)) rfl rfl) ?_
    obtain ⟨v, h6, s1, s2, s3⟩ := grow_one hw g5' (hg.grow g5) hRl (i, 1)
    refine WO.ops (StepK.append rfl rfl s1) ?_
    refine WO.ops (StepK.mv rfl) (WO.nil ?_)
    refine (push _ v h6 _ ?_ s3 s2 ?_ hj.app).mono ?_
    · exact Cov.cons rfl (Cov.cons rfl (Cov.cons rfl (Cov.cons rfl (Cov.cons rfl (Cov.nil _)))))
    · rw [hc1, addF, hr]; simp [hc3]
    · intro x1 e1 h1 hq; cases x1 <;> first | exact hq | exact hq.elim
end Abs
end Go.Proofs.Ytkdoemlhjhmfhaa
