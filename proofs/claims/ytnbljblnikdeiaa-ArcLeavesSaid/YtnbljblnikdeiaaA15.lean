/- The abstract machine's code is the model's: regions in the order of the text. -/
import Derived.Test.YtnbljblnikdeiaaA14
import Derived.CallsIn
namespace Go.Proofs.Ytnbljblnikdeiaa
namespace Abs
set_option linter.unusedVariables false
set_option linter.unusedSimpArgs false
open Go.RowKit

section
variable {P : Program} {B : Nat} {w0 : World}

/-- What a call hands back and leaves. -/
def Ret (B : Nat) (w0 : World) (ρ : Rho) (n : Nat) (v : V) (h' : Heap) : Value → World → Prop := fun u w' => ∃ ρ', VR ρ' v u ∧ Rel B w0 ρ' h' w' ∧ New ρ ρ' n
def RetE (B : Nat) (w0 : World) (ρ : Rho) (n : Nat) (v : V) (h' : Heap) : Ending → World → Prop
  | .returned u, w' => Ret B w0 ρ n v h' u w'
  | _, _ => False

/-- A call of the abstract machine's is the model's. -/
def CallSnd (P : Program) (B : Nat) (w0 : World) (ρ : Rho) (f : Nat) (us : Array Value) (w : World) (h : Heap) (v : V) (h' : Heap) : Prop :=
  ((callFunc f us).run P w = .ok (.enter f us) w ∧ ∀ n, CallsIn Fence.wide n P f us w (RetE B w0 ρ h.size v h')) ∨
  (∃ u w', (callFunc f us).run P w = .ok (.value u) w' ∧ Ret B w0 ρ h.size v h' u w')

def CallOk (P : Program) (B : Nat) (w0 : World) (call : CallF) : Prop :=
  ∀ f args h v h', call f args h = some (v, h') → ∀ (ρ : Rho) (w : World) (us : Array Value), Rel B w0 ρ h w → VRs ρ args us.toList → CallSnd P B w0 ρ f us w h v h'

/-- The fence that lets all in, at a function's body or a round's. -/
def Fw (ro : Option Nat) : Fence := { Fence.wide with round := ro }
theorem calls_fw {ro : Option Nat} {n : Nat} {f : FuncId} {us : Array Value} {w : World} {R : Ending → World → Prop} (h : CallsIn Fence.wide n P f us w R) : CallsIn (Fw ro) n P f us w R := h
theorem fw_fn {ro : Option Nat} (f : FuncId) : (Fw ro).fn f := trivial
theorem fw_depth {ro : Option Nat} {n : Nat} : (Fw ro).depth.isSome = true → 1 ≤ n := fun h => absurd h (by simp [Fw, Fence.wide])

inductive ExR : Ex → Exit → Prop where
  | normal : ExR .normal .normal
  | exit (id : Nat) : ExR (.exit id) (.exit id)
  | ret : ExR .ret .ret

/-- What a piece of code leaves. -/
def Post (B : Nat) (w0 : World) (ρ : Rho) (n nt : Nat) (ds : List Deferred) (ex : Ex) (tm' : TM) (h' : Heap) : Exit → Act → World → Prop :=
  fun e a' w' => ExR ex e ∧ a'.defers = ds ∧ ∃ ρ', TMR ρ' nt tm' a'.tmps ∧ Rel B w0 ρ' h' w' ∧ New ρ ρ' n

theorem not_defer {o : Oper} {k : K} (hk : kC P o = some k) : ∀ c, o.op ≠ .defer c := by
  intro c hc
  unfold kC at hk
  rw [hc] at hk
  cases hk

theorem about_ok {ro : Option Nat} {o : Oper} {w : World} {a : Act} : ∀ f, o.about P w a.eval = some f → (Fw ro).fn f := fun f _ => trivial

theorem up_done {ro : Option Nat} {n : Nat} {o : Oper} {a : Act} {w w' : World} {u : Value} {next : Act → World → Prop} {Q : Exit → Act → World → Prop} (hnd : ∀ c, o.op ≠ .defer c) (hd : Done P o a w u w') (hn : next (a.put o.dst u) w') : o.wpIn (Fw ro) n P a w next Q := by
  refine ⟨about_ok, ?_⟩
  rw [Oper.semAt_eq _ _ _ hnd]
  rcases hd with hd | ⟨hd, rfl⟩
  · rw [hd]; exact hn
  · rw [hd]; exact hn

theorem put_defers (a : Act) (d : Option Tmp) (u : Value) : (a.put d u).defers = a.defers := by cases d <;> rfl

/-- A call, as an operation. -/
theorem call_op {call : CallF} (hc : CallOk P B w0 call) {ro : Option Nat} {n nt : Nat} {o : Oper} {f : Opd} {args : List Opd} (hk : kC P o = some (.call f args)) {ρ : Rho} {tm : TM} {a : Act} {h : Heap} {w : World} (ht : TMR ρ nt tm a.tmps) (r : Rel B w0 ρ h w)
    {v : V} {h' : Heap} (hx : opA call (.call f args) tm h = some (v, h')) {next : Act → World → Prop} {Q : Exit → Act → World → Prop}
    (hn : ∀ u w', Ret B w0 ρ h.size v h' u w' → next (a.put o.dst u) w') : o.wpIn (Fw ro) n P a w next Q := by
  refine ⟨about_ok, ?_⟩
  rw [Oper.semAt_eq _ _ _ (not_defer hk)]
  obtain ⟨dst, op, type, pos, after, guard⟩ := o
  cases op
  case call c =>
    obtain ⟨callee, as, ts⟩ := c
    cases callee
    case value g =>
      simp only [kC] at hk
      split at hk
      · rename_i g' as' hg has
        cases hk
        simp only [opA] at hx
        split at hx
        · rename_i fid first caps vs hf hvs
          have hg' := ev_sound ht hg hf
          have has' := evs_sound ht has hvs
          cases hcr : a.eval g <;> rw [hcr] at hg'
          case func fn fi cp =>
            cases hg' with
            | func _ _ _ _ _ h1 h2 =>
            have hall : VRs ρ (first ++ vs ++ caps) (fi ++ as.map a.eval ++ cp).toList := by
              simp only [Array.toList_append, Array.toList_map]
              exact (h1.append has').append h2
            have hs := hc _ _ _ _ _ hx ρ w (fi ++ as.map a.eval ++ cp) r hall
            have hrun : (execOp a.eval ⟨dst, .call ⟨.value g, as, ts⟩, type, pos, after, guard⟩).run P w = (callFunc fid (fi ++ as.map a.eval ++ cp)).run P w := by
              simp only [execOp, resolve, hcr, Deferred.ofValue, Sem.run_bind, Sem.run_pure, Result.andThen_ok, invoke]
            rw [hrun]
            rcases hs with ⟨q1, q2⟩ | ⟨u, w', q1, q2⟩
            · rw [q1, Oper.uponIn_enter]
              refine ⟨fw_depth, ?_⟩
              obtain ⟨g1, g2⟩ := calls_fw (ro := ro) (q2 (n - 1))
              refine ⟨g1, fun cs hr => ?_⟩
              obtain ⟨e, w', fr, q3, q4, q5, q6⟩ := g2 cs hr
              refine ⟨e, w', fr, ?_, q4, q5, q6⟩
              cases e with
              | returned u => exact hn u w' q3
              | panicked c => exact q3.elim
              | outgrown => exact q3.elim
            · rw [q1]
              exact hn u w' q2
          all_goals cases hg'
        · cases hx
      · cases hk
    case invoke => simp [kC] at hk
    case builtin b =>
      simp only [kC] at hk
      cases b <;> simp only [builtinC, lenC, appendC, copyC, clearC, deleteC, mmC] at hk <;> first
        | (cases hk; done)
        | ((repeat' split at hk) <;> first | (cases hk; done))
  case makeFunc fn x y =>
    cases fn <;> simp only [kC] at hk <;> first
      | (cases hk; done)
      | ((repeat' split at hk) <;> first | (cases hk; done))
  case makeMap t r => cases r <;> simp [kC] at hk
  all_goals simp only [kC, binC, sliceC, convC] at hk
  all_goals first
    | (cases hk; done)
    | ((repeat' split at hk) <;> first | (cases hk; done))

theorem opA_nc {call : CallF} {k : K} {tm : TM} {h : Heap} (hk : ∀ f args, k ≠ .call f args) : opA call k tm h = opK k tm h := by
  cases k <;> first | rfl | exact absurd rfl (hk _ _)

/-- One operation, where it stands. -/
theorem op_here {call : CallF} (hc : CallOk P B w0 call) {ro : Option Nat} {n nt : Nat} {o : Oper} {k : K} (hk : kC P o = some k) {ρ : Rho} {tm : TM} {a : Act} {h : Heap} {w : World} (ht : TMR ρ nt tm a.tmps) (r : Rel B w0 ρ h w)
    {v : V} {h' : Heap} (hx : opA call k tm h = some (v, h')) {next : Act → World → Prop} {Q : Exit → Act → World → Prop}
    (hn : ∀ u w', Ret B w0 ρ h.size v h' u w' → next (a.put o.dst u) w') : o.wpIn (Fw ro) n P a w next Q := by
  by_cases hcall : ∃ f args, k = .call f args
  · obtain ⟨f, args, rfl⟩ := hcall
    exact call_op hc hk ht r hx hn
  · have hnc : ∀ f args, k ≠ .call f args := fun f args e => hcall ⟨f, args, e⟩
    rw [opA_nc hnc] at hx
    cases ha : k.isAlloc with
    | false =>
      obtain ⟨u, w', ρ', q1, q2, q3, q4⟩ := opK_sound hk ha ht r hx
      exact up_done (not_defer hk) q1 (hn u w' ⟨ρ', q2, q3, q4⟩)
    | true =>
      obtain ⟨ob, q1, q2⟩ := alloc_sound (B := B) (w0 := w0) hk ha hx
      subst q1
      obtain ⟨u, w', em, g1, g2, g3⟩ := q2 ht (r.push ob) r.none_at (by rw [Heap.size_push]; omega) (by rw [Heap.get_push, if_pos rfl])
      exact up_done (not_defer hk) g1 (hn u w' ⟨_, g2, g3, New.with_ r.none_at (Nat.le_refl _)⟩)

theorem wanted_sound {ops : Array Oper} {nt : Nat} {g : Option (Nat × Bool)} {o : Oper} (hg : guardC ops nt o.guard = some g) {ρ : Rho} {tm : TM} {a : Array Value} (ht : TMR ρ nt tm a) {b : Bool} (hb : wantedA tm g = some b) : Region.wanted o (yielded ops a) = b := by
  unfold guardC at hg
  unfold Region.wanted
  split at hg
  · rename_i h0
    cases hg
    simp only [wantedA, Option.some.injEq] at hb
    rw [h0]; exact hb
  · rename_i j wnt h0
    rw [h0]
    split at hg
    · rename_i t hgt
      split at hg
      · cases hg
        simp only [wantedA] at hb
        unfold yielded
        simp only [hgt, Option.bind_some]
        split at hb
        · rename_i c hc
          cases hb
          obtain ⟨u, q1, q2⟩ := ht.2 _ _ hc
          cases q2
          rw [q1]
          simp only
          rw [Bool.eq_iff_iff]; simp
        · rename_i hc
          cases hb
          obtain ⟨u, q1, q2⟩ := ht.2 _ _ hc
          cases q2
          rw [q1]; simp
        · cases hb
      · cases hg
    · cases hg

theorem opC_parts {ops : Array Oper} {nt : Nat} {o : Oper} {ao : AOp} (h : opC P ops nt o = some ao) : kC P o = some ao.k ∧ guardC ops nt o.guard = some ao.guard ∧ ao.dst = o.dst ∧ dstOk nt o.dst = true := by
  unfold opC at h
  split at h
  · rename_i k g hk hg
    split at h
    · rename_i hd
      cases h
      exact ⟨hk, hg, rfl, hd⟩
    · cases h
  · cases h

theorem undef_sound (ρ : Rho) : VR ρ undefV undef := .tuple _ _ .nil

/-- A region whose order is the text's. -/
theorem ops_sound {call : CallF} (hc : CallOk P B w0 call) (hm : CallHM call) {ro : Option Nat} {n nt : Nat} {ops : Array Oper} : ∀ (l : List Oper) (i : Nat), (∀ j o, l[j]? = some o → ops[i + j]? = some o) → ∀ {al : List AOp}, opsC P ops nt l = some al →
    ∀ {ρ : Rho} {tm : TM} {a : Act} {h : Heap} {w : World}, TMR ρ nt tm a.tmps → Rel B w0 ρ h w → ∀ {tm' : TM} {h' : Heap}, runOps call al tm h = some (tm', h') →
    ∀ {Q : Exit → Act → World → Prop}, (∀ a' w' ρ', a'.defers = a.defers → TMR ρ' nt tm' a'.tmps → Rel B w0 ρ' h' w' → New ρ ρ' h.size → Q .normal a' w') →
      wpOpsIn (Fw ro) n P ops Q (List.range' i l.length) a w
  | [], i, hl, al, hal, ρ, tm, a, h, w, ht, r, tm', h', hx, Q, hq => by
    cases hal
    cases hx
    exact hq a w ρ rfl ht r (New.refl _ _)
  | o :: l, i, hl, al, hal, ρ, tm, a, h, w, ht, r, tm', h', hx, Q, hq => by
    have ho : ops[i]? = some o := by simpa using hl 0 o (by simp)
    have hl' : ∀ j o', l[j]? = some o' → ops[i + 1 + j]? = some o' := fun j o' hj => by
      have := hl (j + 1) o' (by simpa using hj)
      rwa [show i + (j + 1) = i + 1 + j by omega] at this
    unfold opsC at hal
    split at hal
    · rename_i ao al' hao hal'
      cases hal
      obtain ⟨hk, hg, hdst, hdo⟩ := opC_parts hao
      simp only [List.length_cons, List.range'_succ, wpOpsIn, ho]
      unfold runOps at hx
      split at hx
      · rename_i tm2 h2 hst
        unfold stepOp at hst
        split at hst
        · rename_i hw
          rw [wanted_sound hg ht hw, if_pos rfl]
          split at hst
          · rename_i v h3 hop
            cases hst
            have hsz := (HM.opA hm hop).size
            refine op_here hc hk ht r hop fun u w' hret => ?_
            obtain ⟨ρ', q1, q2, q3⟩ := hret
            refine ops_sound hc hm l (i + 1) hl' hal' (ρ := ρ') (by rw [hdst]; exact TMR.put (ht.mono q3.1) hdo q1) q2 hx ?_
            intro a' w'' ρ'' g1 g2 g3 g4
            exact hq a' w'' ρ'' (by rw [g1, put_defers]) g2 g3 (q3.trans g4 hsz)
          · cases hst
        · rename_i hw
          rw [wanted_sound hg ht hw]
          simp only [Bool.false_eq_true, if_false]
          cases hst
          refine ⟨about_ok, ?_⟩
          refine ops_sound hc hm l (i + 1) hl' hal' (ρ := ρ) (by rw [hdst]; exact TMR.put ht hdo (undef_sound _)) r hx ?_
          intro a' w'' ρ'' g1 g2 g3 g4
          exact hq a' w'' ρ'' (by rw [g1, put_defers]) g2 g3 g4
        · cases hst
      · cases hx
    · cases hal
end
end Abs
end Go.Proofs.Ytnbljblnikdeiaa
