/- The abstract machine: more rounds tell the same; steps for reasoning. -/
import Derived.Test.YtmgbcaboljilnaaGreatDoorA17
namespace Go.Proofs.YtmgbcaboljilnaaGreatDoor
namespace Abs
noncomputable section
set_option linter.unusedVariables false
set_option linter.unusedSimpArgs false
open Go.RowKit

def CallLe (c c' : CallF) : Prop := ∀ f args h r, c f args h = some r → c' f args h = some r
def LoopLe (c c' : LoopF) : Prop := ∀ a tm h r, c a tm h = some r → c' a tm h = some r

section
variable {c c' : CallF} {L L' : LoopF}

theorem opA_mono (hc : CallLe c c') {k : K} {tm : TM} {h : Heap} {r : V × Heap} (hx : opA c k tm h = some r) : opA c' k tm h = some r := by
  unfold opA at hx ⊢
  split at hx
  · split at hx
    · exact hc _ _ _ _ hx
    · exact hc _ _ _ _ hx
    · cases hx
  · split at hx
    · split at hx
      · exact hc _ _ _ _ hx
      · cases hx
    · cases hx
  · exact hx

theorem stepOp_mono (hc : CallLe c c') {o : AOp} {tm : TM} {h : Heap} {r : TM × Heap} (hx : stepOp c o tm h = some r) : stepOp c' o tm h = some r := by
  unfold stepOp at hx ⊢
  split at hx
  · rename_i hw
    split at hx
    · rename_i q; rw [opA_mono hc q]; exact hx
    · cases hx
  · exact hx
  · cases hx

theorem runOps_mono (hc : CallLe c c') : ∀ (l : List AOp) {tm : TM} {h : Heap} {r : TM × Heap}, runOps c l tm h = some r → runOps c' l tm h = some r
  | [], _, _, _, hx => hx
  | o :: l, tm, h, r, hx => by
    unfold runOps at hx ⊢
    split at hx
    · rename_i q; rw [stepOp_mono hc q]; exact runOps_mono hc l hx
    · cases hx

theorem trace_mono (hc : CallLe c c') : ∀ (l : List DOp) {tm : TM} {h : Heap} {r : List (DOp × Log) × TM × Heap}, traceDraw c l tm h = some r → traceDraw c' l tm h = some r
  | [], _, _, _, hx => hx
  | o :: l, tm, h, r, hx => by
    unfold traceDraw at hx ⊢
    split at hx
    · rename_i hw
      split at hx
      · rename_i q; rw [trace_mono hc l q]; exact hx
      · cases hx
    · rename_i hw
      split at hx
      · rename_i q
        rw [opA_mono hc q]
        simp only
        split at hx
        · rename_i q2; rw [trace_mono hc l q2]; exact hx
        · cases hx
      · cases hx
    · cases hx

theorem runDraw_mono (hc : CallLe c c') {l : List DOp} {tm : TM} {h : Heap} {r : TM × Heap} (hx : runDraw c l tm h = some r) : runDraw c' l tm h = some r := by
  unfold runDraw at hx ⊢
  split at hx
  · rename_i q; rw [trace_mono hc l q]; exact hx
  · cases hx

theorem execC_mono (hc : CallLe c c') (hL : LoopLe L L') : ∀ (a : AC) {tm : TM} {h : Heap} {r : Ex × TM × Heap}, execC c L a tm h = some r → execC c' L' a tm h = some r
  | .skip, _, _, _, hx => hx
  | .ops l, tm, h, r, hx => by
    unfold execC at hx ⊢
    split at hx
    · rename_i q; rw [runOps_mono hc l q]; exact hx
    · cases hx
  | .draw l, tm, h, r, hx => by
    unfold execC at hx ⊢
    split at hx
    · rename_i q; rw [runDraw_mono hc q]; exact hx
    · cases hx
  | .seq a b, tm, h, r, hx => by
    unfold execC at hx ⊢
    split at hx
    · rename_i q; rw [execC_mono hc hL a q]; exact execC_mono hc hL b hx
    · rename_i hne
      have := execC_mono hc hL a hx
      rw [this]
      obtain ⟨e, tm', h'⟩ := r
      cases e with
      | normal => exact absurd hx (hne _ _)
      | exit id => rfl
      | ret => rfl
  | .cond x a b, tm, h, r, hx => by
    unfold execC at hx ⊢
    split at hx
    · rename_i t q
      cases t with
      | true => exact execC_mono hc hL a hx
      | false => simp only [Bool.false_eq_true, if_false] at hx ⊢; exact execC_mono hc hL b hx
    · cases hx
  | .block id a, tm, h, r, hx => by
    unfold execC at hx ⊢
    split at hx
    · rename_i q; rw [execC_mono hc hL a q]; exact hx
    · rename_i hne
      have := execC_mono hc hL a hx
      rw [this]
      obtain ⟨e, tm', h'⟩ := r
      cases e with
      | normal => rfl
      | exit id => exact absurd hx (hne _ _ _)
      | ret => rfl
  | .loop a, tm, h, r, hx => by
    unfold execC at hx ⊢
    split at hx
    · rename_i q; rw [execC_mono hc hL a q]; exact hL _ _ _ _ hx
    · rename_i hne
      have := execC_mono hc hL a hx
      rw [this]
      obtain ⟨e, tm', h'⟩ := r
      cases e with
      | normal => exact absurd hx (hne _ _)
      | exit id => rfl
      | ret => rfl
  | .exit id, _, _, _, hx => hx
  | .ret, _, _, _, hx => hx
  | .bad, _, _, _, hx => hx
  | .range nt f ps asg body, tm, h, r, hx => by
    unfold execC at hx ⊢
    split at hx
    · split at hx
      · rename_i q; rw [hc _ _ _ _ q]; exact hx
      · cases hx
    · cases hx
  | .defr f args, _, _, _, hx => by
    unfold execC at hx ⊢
    exact hx

theorem yieldBody_mono {e e' : LoopF} (he : LoopLe e e') {b : Nat} {vs : List V} {h : Heap} {r : V × Heap} (hx : yieldBody e b vs h = some r) : yieldBody e' b vs h = some r := by
  unfold yieldBody at hx ⊢
  split at hx
  · split at hx
    · split at hx
      · rename_i q2
        simp only [he _ _ _ _ q2]
        split at hx
        · split at hx
          · rename_i q4
            simp only [he _ _ _ _ q4]
            exact hx
          · cases hx
        · cases hx
      · cases hx
    · cases hx
  · cases hx

theorem runDefers_mono {C : Cfg} {e e' : LoopF} (he : LoopLe e e') : ∀ (l : List V) {h h2 : Heap}, runDefers C e l h = some h2 → runDefers C e' l h = some h2 := by
  intro l
  induction l with
  | nil => intro h h2 hx; exact hx
  | cons x r ih =>
    intro h h2 hx
    unfold runDefers at hx ⊢
    split at hx
    · rename_i q; cases q
    · rename_i q
      cases q
      split at hx
      · exact ih hx
      · cases hx
    · rename_i q
      cases q
      split at hx
      · rename_i q2; rw [if_pos q2]; exact ih hx
      · rename_i q2
        rw [if_neg q2]
        split at hx
        · rename_i q3
          split at hx
          · rename_i q4
            rw [if_pos q4]
            split at hx
            · cases hx
            · rename_i ex tm h1 hne q6
              rw [he _ _ _ _ q6]
              split at hx
              · rename_i rs d1 d2
                cases ex with
                | exit id => exact absurd rfl (hne id)
                | normal => simp only [d1, d2]; exact ih hx
                | ret => simp only [d1, d2]; exact ih hx
              · cases hx
            · cases hx
          · cases hx
        · cases hx
    · cases hx

theorem callBody_mono {C : Cfg} {e e' : LoopF} (he : LoopLe e e') {af : AFunc} {args : List V} {h : Heap} {r : V × Heap} (hx : callBody C e af args h = some r) : callBody C e' af args h = some r := by
  unfold callBody at hx ⊢
  split at hx
  · rename_i hl
    rw [if_pos hl]
    split at hx
    · cases hx
    · rename_i ex tm h1 hne q
      rw [he _ _ _ _ q]
      split at hx
      · rename_i q2
        cases ex with
        | exit id => exact absurd rfl (hne id)
        | normal => simp only [runDefers_mono he _ q2]; exact hx
        | ret => simp only [runDefers_mono he _ q2]; exact hx
      · cases hx
    · cases hx
  · cases hx
end

theorem run_mono1 (C : Cfg) : ∀ n, CallLe (run C n).1 (run C (n + 1)).1 ∧ LoopLe (run C n).2 (run C (n + 1)).2
  | 0 => by
    refine ⟨?_, ?_⟩
    · intro f args h r hx; simp [run] at hx
    · intro a tm h r hx; simp [run] at hx
  | n + 1 => by
    obtain ⟨h1, h2⟩ := run_mono1 C n
    have hL : LoopLe (run C (n + 1)).2 (run C (n + 1 + 1)).2 := by
      intro a tm h r hx
      exact execC_mono h1 h2 a hx
    refine ⟨?_, hL⟩
    intro f args h r hx
    cases f with
    | fn f =>
      simp only [run, runF] at hx ⊢
      split at hx
      · exact hx
      · split at hx
        · exact callBody_mono hL hx
        · cases hx
    | yl b =>
      simp only [run] at hx ⊢
      exact yieldBody_mono hL hx

theorem run_le (C : Cfg) {n m : Nat} (h : n ≤ m) : CallLe (run C n).1 (run C m).1 ∧ LoopLe (run C n).2 (run C m).2 := by
  induction m with
  | zero =>
    have : n = 0 := by omega
    subst this
    exact ⟨fun _ _ _ _ h => h, fun _ _ _ _ h => h⟩
  | succ m ih =>
    by_cases e : n = m + 1
    · subst e; exact ⟨fun _ _ _ _ h => h, fun _ _ _ _ h => h⟩
    · obtain ⟨h1, h2⟩ := ih (by omega)
      obtain ⟨g1, g2⟩ := run_mono1 C m
      exact ⟨fun f a h r hx => g1 _ _ _ _ (h1 _ _ _ _ hx), fun a t h r hx => g2 _ _ _ _ (h2 _ _ _ _ hx)⟩

/-! ### Steps for reasoning: 'in some number of rounds' -/
section
variable (C : Cfg)

/-- A call hands v back and leaves h'. -/
def Gives (f : Nat) (args : List V) (h : Heap) (v : V) (h' : Heap) : Prop := ∃ n, (run C n).1 (.fn f) args h = some (v, h')
/-- A piece of code ends so. -/
def Runs (a : AC) (tm : TM) (h : Heap) (Q : Ex → TM → Heap → Prop) : Prop := ∃ n ex tm' h', execC (run C n).1 (run C n).2 a tm h = some (ex, tm', h') ∧ Q ex tm' h'
/-- Operations end so. -/
def Does (l : List AOp) (tm : TM) (h : Heap) (Q : TM → Heap → Prop) : Prop := ∃ n tm' h', runOps (run C n).1 l tm h = some (tm', h') ∧ Q tm' h'
end

section
variable {C : Cfg} {tm : TM} {h : Heap}

theorem Runs.mono {a : AC} {Q Q' : Ex → TM → Heap → Prop} (hx : Runs C a tm h Q) (hq : ∀ e t h, Q e t h → Q' e t h) : Runs C a tm h Q' :=
  let ⟨n, e, t, h', q1, q2⟩ := hx; ⟨n, e, t, h', q1, hq _ _ _ q2⟩

theorem nc_of {k : K} {tm : TM} {h h' : Heap} {v : V} (hk : opK k tm h = some (v, h')) : k.calls = false := by
  cases k <;> first | rfl | (simp [opK] at hk; done)
theorem Does.nil {Q : TM → Heap → Prop} (hq : Q tm h) : Does C [] tm h Q := ⟨0, tm, h, rfl, hq⟩
/-- An operation that calls nothing. -/
theorem Does.op {o : AOp} {l : List AOp} {Q : TM → Heap → Prop} {v : V} {h' : Heap} (hw : wantedA tm o.guard = some true) (hk : opK o.k tm h = some (v, h')) (hq : Does C l (TM.put tm o.dst v) h' Q) : Does C (o :: l) tm h Q := by
  obtain ⟨n, tm2, h2, q1, q2⟩ := hq
  refine ⟨n, tm2, h2, ?_, q2⟩
  have hnc : o.k.calls = false := nc_of hk
  unfold runOps stepOp
  rw [hw]
  simp only [opA_nc hnc, hk]
  exact q1
theorem Does.skip {o : AOp} {l : List AOp} {Q : TM → Heap → Prop} (hw : wantedA tm o.guard = some false) (hq : Does C l (TM.put tm o.dst undefV) h Q) : Does C (o :: l) tm h Q := by
  obtain ⟨n, tm2, h2, q1, q2⟩ := hq
  refine ⟨n, tm2, h2, ?_, q2⟩
  unfold runOps stepOp
  rw [hw]
  exact q1
theorem Does.call {dst : Option Nat} {g : Option (Nat × Bool)} {fx : Opd} {xs : List Opd} {l : List AOp} {Q : TM → Heap → Prop} {f : Nat} {first caps vs : List V} {v : V} {h' : Heap} (hw : wantedA tm g = some true)
    (hf : ev tm fx = some (.func (.func f) first caps)) (hxs : evs tm xs = some vs) (hg : Gives C f (first ++ vs ++ caps) h v h') (hq : Does C l (TM.put tm dst v) h' Q) : Does C (⟨dst, g, .call fx xs⟩ :: l) tm h Q := by
  obtain ⟨n, tm2, h2, q1, q2⟩ := hq
  obtain ⟨m, hm⟩ := hg
  refine ⟨max n m, tm2, h2, ?_, q2⟩
  unfold runOps stepOp
  rw [hw]
  simp only [opA, hf, hxs]
  rw [(run_le C (Nat.le_max_right n m)).1 _ _ _ _ hm]
  simp only
  exact runOps_mono (run_le C (Nat.le_max_left n m)).1 l q1

theorem Runs.ops {l : List AOp} {Q : Ex → TM → Heap → Prop} (hx : Does C l tm h (Q .normal)) : Runs C (.ops l) tm h Q := by
  obtain ⟨n, t, h', q1, q2⟩ := hx
  exact ⟨n, .normal, t, h', by simp only [execC, q1], q2⟩
theorem Runs.skip {Q : Ex → TM → Heap → Prop} (hq : Q .normal tm h) : Runs C .skip tm h Q := ⟨0, .normal, tm, h, rfl, hq⟩
theorem Runs.ret {Q : Ex → TM → Heap → Prop} (hq : Q .ret tm h) : Runs C .ret tm h Q := ⟨0, .ret, tm, h, rfl, hq⟩
theorem Runs.exit {id : Nat} {Q : Ex → TM → Heap → Prop} (hq : Q (.exit id) tm h) : Runs C (.exit id) tm h Q := ⟨0, .exit id, tm, h, rfl, hq⟩

theorem exec_up {n m : Nat} (hnm : n ≤ m) {a : AC} {tm : TM} {h : Heap} {r : Ex × TM × Heap} (hx : execC (run C n).1 (run C n).2 a tm h = some r) : execC (run C m).1 (run C m).2 a tm h = some r :=
  execC_mono (run_le C hnm).1 (run_le C hnm).2 a hx

/-- What follows a piece that ends normally. -/
def Then (C : Cfg) (b : AC) (Q : Ex → TM → Heap → Prop) : Ex → TM → Heap → Prop
  | .normal, t, h => Runs C b t h Q
  | e, t, h => Q e t h

theorem Runs.seq {a b : AC} {Q : Ex → TM → Heap → Prop} (hx : Runs C a tm h (Then C b Q)) : Runs C (.seq a b) tm h Q := by
  obtain ⟨n, e, t, h', q1, q2⟩ := hx
  cases e with
  | normal =>
    obtain ⟨m, e2, t2, h2, g1, g2⟩ := q2
    refine ⟨max n m, e2, t2, h2, ?_, g2⟩
    simp only [execC, exec_up (Nat.le_max_left n m) q1, exec_up (Nat.le_max_right n m) g1]
  | exit id => exact ⟨n, _, t, h', by simp only [execC, q1], q2⟩
  | ret => exact ⟨n, _, t, h', by simp only [execC, q1], q2⟩

theorem Runs.cond {x : Opd} {a b : AC} {t : Bool} {Q : Ex → TM → Heap → Prop} (hv : ev tm x = some (.bool t)) (hx : Runs C (if t then a else b) tm h Q) : Runs C (.cond x a b) tm h Q := by
  obtain ⟨n, e, t', h', q1, q2⟩ := hx
  refine ⟨n, e, t', h', ?_, q2⟩
  simp only [execC, hv]
  cases t <;> exact q1

def AtExit (id : Nat) (Q : Ex → TM → Heap → Prop) : Ex → TM → Heap → Prop
  | .exit i, t, h => if i = id then Q .normal t h else Q (.exit i) t h
  | e, t, h => Q e t h
theorem Runs.block {id : Nat} {a : AC} {Q : Ex → TM → Heap → Prop} (hx : Runs C a tm h (AtExit id Q)) : Runs C (.block id a) tm h Q := by
  obtain ⟨n, e, t, h', q1, q2⟩ := hx
  cases e with
  | normal => exact ⟨n, _, t, h', by simp only [execC, q1], q2⟩
  | ret => exact ⟨n, _, t, h', by simp only [execC, q1], q2⟩
  | exit i =>
    refine ⟨n, _, t, h', by simp only [execC, q1]; rfl, ?_⟩
    simp only [AtExit] at q2
    by_cases hi : i = id
    · rw [if_pos hi] at q2 ⊢; exact q2
    · rw [if_neg hi] at q2 ⊢; exact q2

/-- One round of a loop. -/
theorem Runs.round {a : AC} {Q : Ex → TM → Heap → Prop} (hx : Runs C a tm h (Then C (.loop a) Q)) : Runs C (.loop a) tm h Q := by
  obtain ⟨n, e, t, h', q1, q2⟩ := hx
  cases e with
  | normal =>
    obtain ⟨m, e2, t2, h2, g1, g2⟩ := q2
    refine ⟨max n m + 1, e2, t2, h2, ?_, g2⟩
    simp only [execC]
    rw [exec_up (show n ≤ max n m + 1 by omega) q1]
    show (run C (max n m + 1)).2 (.loop a) t h' = _
    simp only [run]
    exact exec_up (Nat.le_max_right n m) g1
  | exit id => exact ⟨n, _, t, h', by simp only [execC, q1], q2⟩
  | ret => exact ⟨n, _, t, h', by simp only [execC, q1], q2⟩

/-- A loop: what holds at each round's head, and a number that falls. -/
theorem Runs.loop {a : AC} {Q : Ex → TM → Heap → Prop} {σ : Type} (I : σ → TM → Heap → Prop) (μ : σ → Nat) (s0 : σ) (h0 : I s0 tm h)
    (step : ∀ s t h, I s t h → Runs C a t h (fun e t' h' => match e with | .normal => ∃ s', I s' t' h' ∧ μ s' < μ s | e => Q e t' h')) : Runs C (.loop a) tm h Q := by
  have key : ∀ m s t h, μ s = m → I s t h → Runs C (.loop a) t h Q := by
    intro m
    induction m using Nat.strongRecOn with
    | _ m ih =>
      intro s t h hm hi
      refine Runs.round ((step s t h hi).mono fun e t' h' hq => ?_)
      cases e with
      | normal =>
        obtain ⟨s', g1, g2⟩ := hq
        exact ih (μ s') (by omega) s' t' h' rfl g1
      | exit id => exact hq
      | ret => exact hq
  exact key _ s0 tm h rfl h0

/-! ### Code that defers nothing, and ranges over no function -/
def AC.plain : AC → Bool
  | .ops l => l.all fun o => !(o.dst == some DX)
  | .draw l => l.all fun o => !(o.o.dst == some DX)
  | .seq a b => a.plain && b.plain
  | .cond _ a b => a.plain && b.plain
  | .block _ c => c.plain
  | .loop c => c.plain
  | .defr _ _ => false
  | .range _ _ _ _ _ => false
  | _ => true
theorem put_keepDX {d : Option Nat} (hd : (!(d == some DX)) = true) (tm : TM) (v : V) : (TM.put tm d v).get DX = tm.get DX := by
  cases d with
  | none => rfl
  | some d =>
    simp only [TM.put]
    refine TM.get_set_ne _ _ _ _ fun e => ?_
    subst e
    simp at hd
theorem runOps_DX {c : CallF} : ∀ (l : List AOp) {tm tm' : TM} {h h' : Heap}, (l.all fun o => !(o.dst == some DX)) = true → runOps c l tm h = some (tm', h') → tm'.get DX = tm.get DX
  | [], _, _, _, _, _, hx => by cases hx; rfl
  | o :: l, tm, tm', h, h', hp, hx => by
    simp only [List.all_cons, Bool.and_eq_true] at hp
    unfold runOps at hx
    split at hx
    · rename_i tm2 h2 hst
      rw [runOps_DX l hp.2 hx]
      unfold stepOp at hst
      split at hst
      · split at hst
        · cases hst; exact put_keepDX hp.1 _ _
        · cases hst
      · cases hst; exact put_keepDX hp.1 _ _
      · cases hst
    · cases hx
theorem traceD_DX {c : CallF} : ∀ (l : List DOp) {tr : List (DOp × Log)} {tm tm' : TM} {h h' : Heap}, (l.all fun o => !(o.o.dst == some DX)) = true → traceDraw c l tm h = some (tr, tm', h') → tm'.get DX = tm.get DX
  | [], _, _, _, _, _, _, hx => by cases hx; rfl
  | o :: l, tr, tm, tm', h, h', hp, hx => by
    simp only [List.all_cons, Bool.and_eq_true] at hp
    unfold traceDraw at hx
    split at hx
    · split at hx
      · rename_i hh; cases hx; rw [traceD_DX l hp.2 hh]; exact put_keepDX hp.1 _ _
      · cases hx
    · split at hx
      · split at hx
        · rename_i hh; cases hx; rw [traceD_DX l hp.2 hh]; exact put_keepDX hp.1 _ _
        · cases hx
      · cases hx
    · cases hx
def LoopDX (L : LoopF) : Prop := ∀ a tm h e tm' h', AC.plain a = true → L a tm h = some (e, tm', h') → tm'.get DX = tm.get DX
theorem exec_DX {c : CallF} {L : LoopF} (hL : LoopDX L) : ∀ (a : AC) {tm tm' : TM} {h h' : Heap} {e : Ex}, a.plain = true → execC c L a tm h = some (e, tm', h') → tm'.get DX = tm.get DX
  | .skip, _, _, _, _, _, _, hx => by cases hx; rfl
  | .ops l, tm, tm', h, h', e, hp, hx => by
    unfold execC at hx
    split at hx
    · rename_i q; cases hx; exact runOps_DX l hp q
    · cases hx
  | .draw l, tm, tm', h, h', e, hp, hx => by
    unfold execC at hx
    split at hx
    · rename_i q; cases hx
      unfold runDraw at q
      split at q
      · rename_i q2
        split at q
        · cases q; exact traceD_DX l hp q2
        · cases q
      · cases q
    · cases hx
  | .seq a b, tm, tm', h, h', e, hp, hx => by
    simp only [AC.plain, Bool.and_eq_true] at hp
    unfold execC at hx
    split at hx
    · rename_i q; rw [exec_DX hL b hp.2 hx, exec_DX hL a hp.1 q]
    · exact exec_DX hL a hp.1 hx
  | .cond x a b, tm, tm', h, h', e, hp, hx => by
    simp only [AC.plain, Bool.and_eq_true] at hp
    unfold execC at hx
    split at hx
    · split at hx
      · exact exec_DX hL a hp.1 hx
      · exact exec_DX hL b hp.2 hx
    · cases hx
  | .block id a, tm, tm', h, h', e, hp, hx => by
    simp only [AC.plain] at hp
    unfold execC at hx
    split at hx
    · rename_i q; cases hx; exact exec_DX hL a hp q
    · exact exec_DX hL a hp hx
  | .loop a, tm, tm', h, h', e, hp, hx => by
    simp only [AC.plain] at hp
    unfold execC at hx
    split at hx
    · rename_i q; rw [hL (.loop a) _ _ _ _ _ (by simpa only [AC.plain] using hp) hx, exec_DX hL a hp q]
    · exact exec_DX hL a hp hx
  | .exit id, _, _, _, _, _, _, hx => by cases hx; rfl
  | .ret, _, _, _, _, _, _, hx => by cases hx; rfl
  | .bad, _, _, _, _, _, _, hx => by cases hx
  | .range .., _, _, _, _, _, hp, _ => by cases hp
  | .defr .., _, _, _, _, _, hp, _ => by cases hp
theorem run_DX (C : Cfg) : ∀ n, LoopDX (run C n).2
  | 0 => by intro a tm h e tm' h' _ hx; simp [run] at hx
  | n + 1 => fun a tm h e tm' h' hp hx => exec_DX (run_DX C n) a hp hx

/-- A call of a function of the table. -/
theorem Gives.body {f : Nat} {af : AFunc} {args : List V} {v : V} {h' : Heap} (hS : C.S f args h = none) (hF : C.F f = some af) (hl : args.length = af.nparams) (hpl : af.body.plain = true) (hdx : args.length ≤ DX)
    (hx : Runs C af.body (argsTM 0 args .nil) { h with low := h.size } fun e t h1 => (∀ id, e ≠ .exit id) ∧ ∃ vs, ressA t h1 af.results = some vs ∧ closeCall h (oneOf vs) h1 = (v, h')) : Gives C f args h v h' := by
  obtain ⟨n, e, t, h1, q1, q2, vs, q3, q4⟩ := hx
  refine ⟨n + 1, ?_⟩
  have hd : deferred t = [] := by
    unfold deferred
    rw [exec_DX (run_DX C n) _ hpl q1, argsTM_DX _ _ _ (by omega), TM.get_nil]
  simp only [run, runF, hS, hF]
  unfold callBody
  rw [if_pos hl]
  rw [q1]
  cases e with
  | exit id => exact absurd rfl (q2 id)
  | normal => simp only [hd, runDefers, q3, q4]
  | ret => simp only [hd, runDefers, q3, q4]

theorem Gives.of {n f : Nat} {args : List V} {v : V} {h' : Heap} (hx : (run C n).1 (.fn f) args h = some (v, h')) : Gives C f args h v h' := ⟨n, hx⟩
theorem Gives.sum {f : Nat} {args : List V} {v : V} {h' : Heap} (hS : C.S f args h = some (some (v, h'))) : Gives C f args h v h' := ⟨1, by simp only [run, runF, hS]⟩
end
end
end Abs
end Go.Proofs.YtmgbcaboljilnaaGreatDoor
