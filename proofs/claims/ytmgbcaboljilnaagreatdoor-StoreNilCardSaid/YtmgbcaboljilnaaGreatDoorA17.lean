/- The abstract machine: a run in an empty memory serves in every memory; a law's run. -/
import Derived.Test.YtmgbcaboljilnaaGreatDoorA16
namespace Go.Proofs.YtmgbcaboljilnaaGreatDoor
namespace Abs
set_option linter.unusedVariables false
set_option linter.unusedSimpArgs false
open Go.RowKit

def noRho : Rho := fun _ => none
def rhoG : Rho := fun g => if g < GN then some ⟨g, 0, 0⟩ else none

/-- Memory that holds the package variables alone: those that are read, and dead ones. -/
noncomputable def deadT (k : Nat) : HT := Nat.rec (motive := fun _ => HT) HT.nil (fun n t => t.set n .dead) k
theorem deadT_get : ∀ (k n : Nat), (deadT k).get n = if n < k then some .dead else none
  | 0, n => by rw [if_neg (by omega)]; exact HT.get_nil n
  | k + 1, n => by
    show ((deadT k).set k .dead).get n = _
    rw [HT.get_set, deadT_get k n]
    by_cases h : n = k
    · rw [if_pos h, if_pos (by omega)]
    · rw [if_neg h]
      by_cases h2 : n < k
      · rw [if_pos h2, if_pos (by omega)]
      · rw [if_neg h2, if_neg (by omega)]

noncomputable def gObjs : List (Nat × List V) → HT
  | [] => deadT GN
  | (g, cs) :: r => (gObjs r).set g (.cells cs .ro)
noncomputable def baseH (l : List (Nat × List V)) : Heap := ⟨gObjs l, GN, GN⟩
/-- The variables, as they are listed, in a world. -/
def GW (l : List (Nat × List V)) (w : World) : Prop := ∀ p ∈ l, p.1 < w.heap.size ∧ CellFacts noRho w ⟨p.1, 0, 0⟩ p.2

theorem baseH_get : ∀ (l : List (Nat × List V)) (hl : ∀ p ∈ l, p.1 < GN) (b : Nat), (b < GN → (baseH l).get b = some .dead ∨ ∃ p ∈ l, p.1 = b ∧ (baseH l).get b = some (.cells p.2 .ro)) ∧ (GN ≤ b → (baseH l).get b = none)
  | [], hl, b => by
    have : (baseH []).get b = (deadT GN).get b := rfl
    rw [this, deadT_get]
    exact ⟨fun h => .inl (by rw [if_pos h]), fun h => by rw [if_neg (by omega)]⟩
  | (g, cs) :: r, hl, b => by
    have hg : g < GN := hl (g, cs) List.mem_cons_self
    obtain ⟨h1, h2⟩ := baseH_get r (fun p hp => hl p (List.mem_cons_of_mem _ hp)) b
    have e : (baseH ((g, cs) :: r)).get b = if b = g then some (.cells cs .ro) else (baseH r).get b := HT.get_set _ _ _ _
    rw [e]
    refine ⟨fun h => ?_, fun h => by rw [if_neg (by omega)]; exact h2 h⟩
    by_cases hb : b = g
    · rw [if_pos hb]; exact .inr ⟨(g, cs), List.mem_cons_self, hb.symm, rfl⟩
    · rw [if_neg hb]
      rcases h1 h with q | ⟨p, q1, q2, q3⟩
      · exact .inl q
      · exact .inr ⟨p, List.mem_cons_of_mem _ q1, q2, q3⟩

theorem rhoG_some {b : Nat} {e : Emb} (h : rhoG b = some e) : b < GN ∧ e = ⟨b, 0, 0⟩ := by
  unfold rhoG at h
  by_cases hb : b < GN
  · rw [if_pos hb] at h; cases h; exact ⟨hb, rfl⟩
  · rw [if_neg hb] at h; cases h
theorem noRho_le' (ρ : Rho) : RLe noRho ρ := by intro b e h; cases h

theorem rel_base {P : Program} (l : List (Nat × List V)) (hl : ∀ p ∈ l, p.1 < GN) (w : World) (hw : GW l w) : Rel P w.heap.size w rhoG (baseH l) w where
  dom := by
    intro b e h
    exact (rhoG_some h).1
  obj := by
    intro b e h
    obtain ⟨hb, rfl⟩ := rhoG_some h
    rcases (baseH_get l hl b).1 hb with q | ⟨p, q1, rfl, q3⟩
    · exact ⟨_, q, trivial⟩
    · obtain ⟨g1, g2⟩ := hw p q1
      exact ⟨_, q3, g1, g2.mono (noRho_le' _)⟩
  sep := by
    intro b b' e e' o o' S h1 h2 h3 h4 h5
    obtain ⟨hb, rfl⟩ := rhoG_some h1
    rcases (baseH_get l hl b).1 hb with q | ⟨p, q1, rfl, q3⟩
    · rw [h4] at q; cases q; cases h5
    · rw [h4] at q3; cases q3; cases h5
  live := by
    intro b e o h1 h2 h3
    obtain ⟨hb, rfl⟩ := rhoG_some h1
    rcases (baseH_get l hl b).1 hb with q | ⟨p, q1, rfl, q3⟩
    · rw [h2] at q; cases q; cases h3
    · exact (hw p q1).1
  fresh := fun b hb => (baseH_get l hl b).2 hb
  below := Below.refl _ _
  base := Nat.le_refl _
  glob := fun g hg => by unfold rhoG; rw [if_pos hg]

section
variable {P : Program} {B : Nat} {w0 : World}

/-- What lies below a world's size is as it was: the relation stays. -/
theorem Rel.below_keep {ρ : Rho} {h : Heap} {w w' : World} (r : Rel P B w0 ρ h w) (hb : Below w.heap.size w w') : Rel P B w0 ρ h w' := by
  refine ⟨r.dom, fun b e hbe => ?_, r.sep, fun b e o h1 h2 h3 => Nat.lt_of_lt_of_le (r.live b e o h1 h2 h3) hb.size, r.fresh, r.below.trans ⟨hb.os, hb.tape, hb.output, hb.size, fun k hk => hb.block k (Nat.lt_of_lt_of_le hk r.base)⟩, Nat.le_trans r.base hb.size, r.glob⟩
  obtain ⟨o, q1, q2⟩ := r.obj b e hbe
  refine ⟨o, q1, ?_⟩
  cases ha : o.alive with
  | false => cases o <;> simp_all [Obj.alive]; trivial
  | true => exact q2.heap (hb.block _ (r.live b e o hbe q1 ha))

/-- The package variables are as they are listed. -/
def Gl (l : List (Nat × List V)) (h : Heap) : Prop := ∀ g, g < GN → h.get g = (baseH l).get g

theorem gw_of {l : List (Nat × List V)} (hl : ∀ p ∈ l, p.1 < GN) (hc : ∀ p ∈ l, V.scopeds 0 p.2 = true) (hn : ∀ p ∈ l, (baseH l).get p.1 = some (.cells p.2 .ro)) {ρ : Rho} {h : Heap} {w : World} (r : Rel P B w0 ρ h w) (hg : Gl l h) : GW l w := by
  intro p hp
  have e := r.glob p.1 (hl p hp)
  obtain ⟨o, q1, q2⟩ := r.obj _ _ e
  rw [hg _ (hl p hp), hn p hp] at q1
  cases q1
  refine ⟨r.live _ _ _ e (by rw [hg _ (hl p hp), hn p hp]) rfl, fun i v hi => ?_⟩
  obtain ⟨u, g1, g2⟩ := q2.2 i v hi
  refine ⟨u, g1, g2.narrow (n := 0) (fun b e hb => absurd hb (Nat.not_lt_zero _)) ?_⟩
  have : ∀ (x : List V), V.scopeds 0 x = true → ∀ (i : Nat) (v : V), x[i]? = some v → V.scopd 0 v = true := by
    intro x
    induction x with
    | nil => intro _ i v h; simp at h
    | cons a x ih =>
      intro hx i v h
      simp only [V.scopeds, Bool.and_eq_true] at hx
      cases i with
      | zero => simp at h; subst h; exact hx.1
      | succ i => exact ih hx.2 i v (by simpa using h)
  exact this _ (hc p hp) i v hi

/-- A call that names no memory, run in a memory of the package variables alone. -/
theorem frame_call {C : Cfg} (l : List (Nat × List V)) (hl : ∀ p ∈ l, p.1 < GN) (hc : ∀ p ∈ l, V.scopeds 0 p.2 = true) (hn : ∀ p ∈ l, (baseH l).get p.1 = some (.cells p.2 .ro)) (hT : TableOk P C) (hS : ∀ B w0, SumOk P B w0 C) {n : Nat} {f : Nat} {args : List V} {v : V} {h1 : Heap} (hx : (run C n).1 (.fn f) args (baseH l) = some (v, h1)) (ha : V.scopeds 0 args = true) (hv : v.scopd 0 = true)
    {ρ : Rho} {h : Heap} {w : World} {us : Array Value} (r : Rel P B w0 ρ h w) (hg : Gl l h) (hr : VRs ρ args us.toList) : CallSnd P B w0 ρ f us w h v h := by
  have hr0 : VRs rhoG args us.toList := hr.narrow (n := 0) (fun b e hb => absurd hb (Nat.not_lt_zero _)) ha
  have snd := (run_sound hT (hS w.heap.size w) n).1.fn f args (baseH l) v h1 hx rhoG w us (rel_base l hl w (gw_of hl hc hn r hg)) hr0
  have conv : ∀ u w', Ret P w.heap.size w rhoG (baseH l).size v h1 u w' → Ret P B w0 ρ h.size v h u w' := by
    rintro u w' ⟨ρ', q1, q2, q3⟩
    exact ⟨ρ, q1.narrow (n := 0) (fun b e hb => absurd hb (Nat.not_lt_zero _)) hv, r.below_keep q2.below, New.refl _ _⟩
  rcases snd with ⟨q1, q2⟩ | ⟨u, w', q1, q2⟩
  · refine .inl ⟨q1, fun m => ?_⟩
    obtain ⟨g1, g2⟩ := q2 m
    refine ⟨g1, fun cs hcs => ?_⟩
    obtain ⟨e, w', fr, q3, q4, q5, q6⟩ := g2 cs hcs
    refine ⟨e, w', fr, ?_, q4, q5, q6⟩
    cases e with
    | returned u => exact conv u w' q3
    | panicked c => exact q3.elim
    | outgrown => exact q3.elim
  · exact .inr ⟨u, w', q1, conv u w' q2⟩

/-- A law that the abstract machine runs. -/
theorem law_calls {C : Cfg} (hT : TableOk P C) (hS : ∀ B w0, SumOk P B w0 C) {n : Nat} {f : FuncId} {fn : Func} (hf : P.funcs[f]? = some fn) (hb : fn.body.isSome = true) (hnm : (fn.name == "runtime.NumGoroutine") = false)
    {args : List V} {h h1 : Heap} (hx : (run C n).1 (.fn f) args h = some (.bool true, h1)) {ρ : Rho} {w : World} {us : Array Value} (r : Rel P w.heap.size w ρ h w) (hr : VRs ρ args us.toList) :
    Calls P f us w fun e w' => e = .returned (.bool true) ∧ Below w.heap.size w w' := by
  have snd := (run_sound hT (hS w.heap.size w) n).1.fn f args h _ h1 hx ρ w us r hr
  rcases snd with ⟨q1, q2⟩ | ⟨u, w', q1, q2⟩
  · have hc := callsIn_wide.1 (q2 0)
    refine hc.mono fun e w' he => ?_
    cases e with
    | returned u =>
      obtain ⟨ρ', g1, g2, g3⟩ := he
      cases g1
      exact ⟨rfl, g2.below⟩
    | panicked c => exact he.elim
    | outgrown => exact he.elim
  · exfalso
    simp only [callFunc, Sem.run_bind, run_program, Result.andThen_ok, hf, hnm, Bool.false_eq_true, if_false] at q1
    rw [if_neg] at q1
    · cases q1
    · cases hbb : fn.body with
      | none => rw [hbb] at hb; cases hb
      | some c => simp
end
end Abs
end Go.Proofs.YtmgbcaboljilnaaGreatDoor
