/- The abstract machine's code is the model's: regions in the order of the text. -/
import Derived.Test.YtmgbcaboljilnaaGreatDoorA14
import Derived.CallsIn
namespace Go.Proofs.YtmgbcaboljilnaaGreatDoor
namespace Abs
set_option linter.unusedVariables false
set_option linter.unusedSimpArgs false
open Go.RowKit

section
variable {P : Program} {B : Nat} {w0 : World}

/-- What a call hands back and leaves. -/
def Ret (P : Program) (B : Nat) (w0 : World) (ρ : Rho) (n : Nat) (v : V) (h' : Heap) : Value → World → Prop := fun u w' => ∃ ρ', VR ρ' v u ∧ Rel P B w0 ρ' h' w' ∧ New ρ ρ' n
def RetE (P : Program) (B : Nat) (w0 : World) (ρ : Rho) (n : Nat) (v : V) (h' : Heap) : Ending → World → Prop
  | .returned u, w' => Ret P B w0 ρ n v h' u w'
  | _, _ => False

/-- A call of the abstract machine's is the model's. -/
def CallSnd (P : Program) (B : Nat) (w0 : World) (ρ : Rho) (f : Nat) (us : Array Value) (w : World) (h : Heap) (v : V) (h' : Heap) : Prop :=
  ((callFunc f us).run P w = .ok (.enter f us) w ∧ ∀ n, CallsIn Fence.wide n P f us w (RetE P B w0 ρ h.size v h')) ∨
  (∃ u w', (callFunc f us).run P w = .ok (.value u) w' ∧ Ret P B w0 ρ h.size v h' u w')

/-- A round of the abstract machine's is the model's. -/
def YieldSnd (P : Program) (B : Nat) (w0 : World) (ρ : Rho) (l : Nat) (us : Array Value) (w : World) (h : Heap) (v : V) (h' : Heap) : Prop :=
  ∃ f tmps asg body, (Instr.yield l us).run P w = .ok (.round l f tmps asg body) w ∧ ∀ n, RoundIn Fence.wide n P l f tmps asg body w (RetE P B w0 ρ h.size v h')

structure CallOk (P : Program) (B : Nat) (w0 : World) (call : CallF) : Prop where
  fn : ∀ f args h v h', call (.fn f) args h = some (v, h') → ∀ (ρ : Rho) (w : World) (us : Array Value), Rel P B w0 ρ h w → VRs ρ args us.toList → CallSnd P B w0 ρ f us w h v h'
  yl : ∀ b args h v h', call (.yl b) args h = some (v, h') → ∀ (ρ : Rho) (w : World) (us : Array Value) (e : Emb), Rel P B w0 ρ h w → ρ b = some e → VRs ρ args us.toList → YieldSnd P B w0 ρ e.blk us w h v h'

/-- The fence that lets all in, at a function's body or a round's. -/
def Fw (ro : Option Nat) : Fence := { Fence.wide with round := ro }
theorem round_fw {ro : Option Nat} {n l : Nat} {f : FuncId} {tmps : Array Value} {asg body : Code} {w : World} {R : Ending → World → Prop} (h : RoundIn Fence.wide n P l f tmps asg body w R) : RoundIn (Fw ro) n P l f tmps asg body w R := h
theorem calls_fw {ro : Option Nat} {n : Nat} {f : FuncId} {us : Array Value} {w : World} {R : Ending → World → Prop} (h : CallsIn Fence.wide n P f us w R) : CallsIn (Fw ro) n P f us w R := h
theorem fw_fn {ro : Option Nat} (f : FuncId) : (Fw ro).fn f := trivial
theorem fw_depth {ro : Option Nat} {n : Nat} : (Fw ro).depth.isSome = true → 1 ≤ n := fun h => absurd h (by simp [Fw, Fence.wide])

inductive ExR : Ex → Exit → Prop where
  | normal : ExR .normal .normal
  | exit (id : Nat) : ExR (.exit id) (.exit id)
  | ret : ExR .ret .ret

/-- What is deferred. -/
inductive DefR (ρ : Rho) : List V → List Deferred → Prop where
  | nil : DefR ρ [] []
  | mark (b : Nat) (e : Emb) (r : Nat) (x : List V) (ds : List Deferred) (h : ρ b = some e) (hr : r = e.blk) (t : DefR ρ x ds) : DefR ρ (.yld b :: x) ({ target := .collected r, args := #[] } :: ds)
  | call (f : FuncId) (vs : List V) (cap as : Array Value) (x : List V) (ds : List Deferred) (h : VRs ρ vs (as ++ cap).toList) (t : DefR ρ x ds) : DefR ρ (.tuple [.func (.func f) [] [], .tuple vs] :: x) ({ target := .fn (.func f) cap, args := as } :: ds)
theorem DefR.mono {ρ ρ' : Rho} (hρ : RLe ρ ρ') : ∀ {x : List V} {ds : List Deferred}, DefR ρ x ds → DefR ρ' x ds
  | _, _, .nil => .nil
  | _, _, .mark b e r x ds h hr t => .mark b e r x ds (hρ _ _ h) hr (t.mono hρ)
  | _, _, .call f vs cap as x ds h t => .call f vs cap as x ds (h.mono hρ) (t.mono hρ)
/-- An activation, as the abstract machine sees it. -/
def ActR (ρ : Rho) (nt : Nat) (ro : Option Nat) (tm : TM) (a : Act) : Prop := TMR ρ nt tm a.tmps ∧ (ro = none → DefR ρ (deferred tm) a.defers)
theorem deferred_eq {tm tm' : TM} (h : tm'.get DX = tm.get DX) : deferred tm' = deferred tm := by unfold deferred; rw [h]
theorem ActR.next {ρ ρ' : Rho} {nt : Nat} {ro : Option Nat} {tm tm' : TM} {a a' : Act} (h : ActR ρ nt ro tm a) (ht : TMR ρ' nt tm' a'.tmps) (hρ : RLe ρ ρ') (hd : a'.defers = a.defers) (hx : tm'.get DX = tm.get DX) : ActR ρ' nt ro tm' a' :=
  ⟨ht, fun hr => by rw [deferred_eq hx, hd]; exact (h.2 hr).mono hρ⟩

/-- What a piece of code leaves. -/
def Post (P : Program) (B : Nat) (w0 : World) (ρ : Rho) (n nt : Nat) (ro : Option Nat) (ex : Ex) (tm' : TM) (h' : Heap) : Exit → Act → World → Prop :=
  fun e a' w' => ExR ex e ∧ ∃ ρ', ActR ρ' nt ro tm' a' ∧ Rel P B w0 ρ' h' w' ∧ New ρ ρ' n

theorem not_defer {o : Oper} {k : K} (hk : kC P o = some k) : ∀ c, o.op ≠ .defer c := by
  intro c hc
  unfold kC at hk
  rw [hc] at hk
  cases hk

theorem about_ok {ro : Option Nat} {o : Oper} {w : World} {a : Act} : ∀ f, o.about P w a.eval = some f → (Fw ro).fn f := fun f _ => trivial

theorem up_done {ro : Option Nat} {n : Nat} {o : Oper} {a : Act} {w w' : World} {u : Value} {next : Act → World → Prop} {Q : Exit → Act → World → Prop} (hnd : ∀ c, o.op ≠ .defer c) (hd : Done P o a w u w') (hn : next (a.put o.dst u) w') : o.wpIn (Fw ro) n P a w next Q := by
  refine ⟨about_ok, ?_⟩
  rw [Oper.semAt_eq _ _ _ hnd]
  rcases hd with hd | ⟨hd, rfl⟩
  · rw [hd]; exact hn
  · rw [hd]; exact hn

theorem put_defers (a : Act) (d : Option Tmp) (u : Value) : (a.put d u).defers = a.defers := by cases d <;> rfl

theorem kC_call {o : Oper} {f : Opd} {args : List Opd} (hk : kC P o = some (.call f args)) : ∃ g as ts, o.op = .call ⟨.value g, as, ts⟩ ∧ opdC g = some f ∧ opdsC as.toList = some args := by
  obtain ⟨dst, op, type, pos, after, guard⟩ := o
  cases op
  case call c =>
    obtain ⟨callee, as, ts⟩ := c
    cases callee
    case value g =>
      simp only [kC] at hk
      split at hk
      · rename_i g' as' hg has
        cases hk
        exact ⟨g, as, ts, rfl, hg, has⟩
      · cases hk
    case invoke => simp only [kC] at hk; split at hk <;> cases hk
    case builtin b =>
      simp only [kC] at hk
      cases b <;> simp only [builtinC, lenC, appendC, copyC, clearC, deleteC, mmC, mmNC] at hk <;> first
        | (cases hk; done)
        | ((repeat' split at hk) <;> first | (cases hk; done))
  case makeFunc fn x y =>
    cases fn <;> simp only [kC] at hk <;> first
      | (cases hk; done)
      | ((repeat' split at hk) <;> first | (cases hk; done))
  case makeMap t r => cases r <;> simp [kC] at hk
  case typeAssert x xt at_ ok => cases ok <;> simp only [kC] at hk <;> (repeat' split at hk) <;> cases hk
  case binOp op t x y t2 =>
    simp only [kC, binC] at hk
    (repeat' split at hk) <;> first
      | (cases hk; done)
      | (rename_i hn; cases hk; obtain ⟨_, _, q, _⟩ := isNil_run (P := P) hn; cases q)
  all_goals simp only [kC, sliceC, convC] at hk
  all_goals first
    | (cases hk; done)
    | ((repeat' split at hk) <;> first | (cases hk; done))
theorem kC_invoke {o : Oper} {tbl : List (Nat × Nat)} {f : Opd} {args : List Opd} (hk : kC P o = some (.invoke tbl f args)) : ∃ g name as ts, o.op = .call ⟨.invoke g name, as, ts⟩ ∧ tbl = methsC P name ∧ opdC g = some f ∧ opdsC as.toList = some args := by
  obtain ⟨dst, op, type, pos, after, guard⟩ := o
  cases op
  case call c =>
    obtain ⟨callee, as, ts⟩ := c
    cases callee
    case value g => simp only [kC] at hk; split at hk <;> cases hk
    case invoke g name =>
      simp only [kC] at hk
      split at hk
      · rename_i g' as' hg has
        cases hk
        exact ⟨g, name, as, ts, rfl, rfl, hg, has⟩
      · cases hk
    case builtin b =>
      simp only [kC] at hk
      cases b <;> simp only [builtinC, lenC, appendC, copyC, clearC, deleteC, mmC, mmNC] at hk <;> first
        | (cases hk; done)
        | ((repeat' split at hk) <;> first | (cases hk; done))
  case makeFunc fn x y =>
    cases fn <;> simp only [kC] at hk <;> first
      | (cases hk; done)
      | ((repeat' split at hk) <;> first | (cases hk; done))
  case makeMap t r => cases r <;> simp [kC] at hk
  case typeAssert x xt at_ ok => cases ok <;> simp only [kC] at hk <;> (repeat' split at hk) <;> cases hk
  case binOp op t x y t2 =>
    simp only [kC, binC] at hk
    (repeat' split at hk) <;> first
      | (cases hk; done)
      | (rename_i hn; cases hk; obtain ⟨_, _, q, _⟩ := isNil_run (P := P) hn; cases q)
  all_goals simp only [kC, sliceC, convC] at hk
  all_goals first
    | (cases hk; done)
    | ((repeat' split at hk) <;> first | (cases hk; done))

/-- What an operation comes to that calls a function. -/
theorem call_fn {ro : Option Nat} {n : Nat} {o : Oper} {fid : Nat} {us : Array Value} {ρ : Rho} {a : Act} {h : Heap} {w : World} {v : V} {h' : Heap} (hs : CallSnd P B w0 ρ fid us w h v h') {r : Result Next} (hr : r = (callFunc fid us).run P w)
    {next : Act → World → Prop} {Q : Exit → Act → World → Prop} (hn : ∀ u w', Ret P B w0 ρ h.size v h' u w' → next (a.put o.dst u) w') : o.uponIn (Fw ro) n P a next Q r := by
  subst hr
  rcases hs with ⟨q1, q2⟩ | ⟨u, w', q1, q2⟩
  · rw [q1, Oper.uponIn_enter]
    refine ⟨fw_depth, ?_⟩
    obtain ⟨g1, g2⟩ := calls_fw (ro := ro) (q2 (n - 1))
    refine ⟨g1, fun cs hr => ?_⟩
    obtain ⟨e, w', fr, q3, q4, q5, q6⟩ := g2 cs hr
    refine ⟨e, w', fr, ?_, q4, q5, q6⟩
    cases e with
    | returned u => exact hn u w' q3
    | panicked c => exact q3.elim
    | outgrown => exact q3.elim
  · rw [q1]
    exact hn u w' q2

/-- A call, as an operation. -/
theorem call_op {call : CallF} (hc : CallOk P B w0 call) {ro : Option Nat} {n nt : Nat} {o : Oper} {f : Opd} {args : List Opd} (hk : kC P o = some (.call f args)) {ρ : Rho} {tm : TM} {a : Act} {h : Heap} {w : World} (ht : TMR ρ nt tm a.tmps) (r : Rel P B w0 ρ h w)
    {v : V} {h' : Heap} (hx : opA call (.call f args) tm h = some (v, h')) {next : Act → World → Prop} {Q : Exit → Act → World → Prop}
    (hn : ∀ u w', Ret P B w0 ρ h.size v h' u w' → next (a.put o.dst u) w') : o.wpIn (Fw ro) n P a w next Q := by
  refine ⟨about_ok, ?_⟩
  rw [Oper.semAt_eq _ _ _ (not_defer hk)]
  obtain ⟨g, as, ts, hop, hg, has⟩ := kC_call hk
  obtain ⟨dst, op, type, pos, after, guard⟩ := o
  simp only at hop
  subst hop
  simp only [opA] at hx
  split at hx
  · rename_i fid first caps vs hf hvs
    have hg' := ev_sound ht hg hf
    have has' := evs_sound ht has hvs
    cases hcr : a.eval g <;> rw [hcr] at hg'
    case func fn fi cp =>
      cases hg' with
      | func _ _ _ _ _ h1 h2 =>
      have hall : VRs ρ (first ++ vs ++ caps) (fi ++ as.map a.eval ++ cp).toList := by
        simp only [Array.toList_append, Array.toList_map]
        exact (h1.append has').append h2
      refine call_fn (hc.fn _ _ _ _ _ hx ρ w (fi ++ as.map a.eval ++ cp) r hall) ?_ hn
      simp only [execOp, resolve, hcr, Deferred.ofValue, Sem.run_bind, Sem.run_pure, Result.andThen_ok, invoke]
    all_goals cases hg'
  · rename_i b vs hf hvs
    have hg' := ev_sound ht hg hf
    have has' := evs_sound ht has hvs
    cases hcr : a.eval g <;> rw [hcr] at hg'
    case func fn fi cp =>
      cases hg' with
      | yld _ e l he hl =>
      subst hl
      obtain ⟨f, tmps, asg, body, q1, q2⟩ := hc.yl _ _ _ _ _ hx ρ w (as.map a.eval) e r he (by simpa using has')
      have hrun : (execOp a.eval ⟨dst, .call ⟨.value g, as, ts⟩, type, pos, after, guard⟩).run P w = .ok (.round e.blk f tmps asg body) w := by
        simp only [execOp, resolve, hcr, Deferred.ofValue, Sem.run_bind, Sem.run_pure, Result.andThen_ok, invoke, Array.empty_append, q1]
      rw [hrun, Oper.uponIn_round]
      refine ⟨fw_depth, (round_fw (ro := ro) (q2 (n - 1))).mono fun e' w' he' => ?_⟩
      cases e' with
      | returned u => exact hn u w' he'
      | panicked c => exact he'.elim
      | outgrown => exact he'.elim
    all_goals cases hg'
  · cases hx

theorem meth_find {name : String} {t f : Nat} : ∀ {l : List Nat}, methA t (l.filterMap fun t => match P.info? t with
    | some i => match i.methods.find? (·.name == name), P.underlying t with
      | some m, some (.pointer _) => match m.path.toList, m.func with
        | [], some (f, true) => some (t, f)
        | _, _ => none
      | _, _ => none
    | none => none) = some f → ∃ i m e, P.info? t = some i ∧ i.methods.find? (·.name == name) = some m ∧ P.underlying t = some (.pointer e) ∧ m.path.toList = [] ∧ m.func = some (f, true) := by
  intro l
  induction l with
  | nil => intro h; simp [methA] at h
  | cons u l ih =>
    intro h
    rw [List.filterMap_cons] at h
    split at h
    · exact ih h
    · rename_i p hp
      split at hp
      · rename_i i hi
        split at hp
        · rename_i m e hm he
          split at hp
          · rename_i f' hpath hf
            cases hp
            simp only [methA] at h
            split at h
            · rename_i hu
              cases h; subst hu
              exact ⟨i, m, e, hi, hm, he, hpath, hf⟩
            · exact ih h
          · cases hp
        · cases hp
      · cases hp

theorem method_run {name : String} {t f : Nat} (h : methA t (methsC P name) = some f) {v : Value} {w : World} (k : Nat) : (method (k + 1) t v name).run P w = .ok (f, v) w := by
  obtain ⟨i, m, e, h1, h2, h3, h4, h5⟩ := meth_find (P := P) h
  unfold method
  simp only [typeInfo, Sem.run_bind, run_program, Result.andThen_ok, h1, Sem.run_pure, h2, h4, follow, h5, receiverAt, run_und h3, Place.get]

/-- A method of an interface's, called. -/
theorem inv_op {call : CallF} (hc : CallOk P B w0 call) {ro : Option Nat} {n nt : Nat} {o : Oper} {tbl : List (Nat × Nat)} {f : Opd} {args : List Opd} (hk : kC P o = some (.invoke tbl f args)) {ρ : Rho} {tm : TM} {a : Act} {h : Heap} {w : World} (ht : TMR ρ nt tm a.tmps) (r : Rel P B w0 ρ h w)
    {v : V} {h' : Heap} (hx : opA call (.invoke tbl f args) tm h = some (v, h')) {next : Act → World → Prop} {Q : Exit → Act → World → Prop}
    (hn : ∀ u w', Ret P B w0 ρ h.size v h' u w' → next (a.put o.dst u) w') : o.wpIn (Fw ro) n P a w next Q := by
  refine ⟨about_ok, ?_⟩
  rw [Oper.semAt_eq _ _ _ (not_defer hk)]
  obtain ⟨g, name, as, ts, hop, rfl, hg, has⟩ := kC_invoke hk
  obtain ⟨dst, op, type, pos, after, guard⟩ := o
  simp only at hop
  subst hop
  simp only [opA] at hx
  split at hx
  · rename_i t v0 vs hf hvs
    split at hx
    · rename_i fid hm
      have hg' := ev_sound ht hg hf
      have has' := evs_sound ht has hvs
      cases hcr : a.eval g <;> rw [hcr] at hg'
      case iface t2 u2 =>
        cases hg' with
        | iface _ _ _ hv2 =>
        have hall : VRs ρ (v0 :: vs) (#[u2] ++ as.map a.eval).toList := by
          simp only [Array.toList_append, Array.toList_map]
          exact .cons _ _ _ _ hv2 has'
        refine call_fn (hc.fn _ _ _ _ _ hx ρ w (#[u2] ++ as.map a.eval) r hall) ?_ hn
        have hdep : 0 < Made.depth := by decide
        obtain ⟨k, hk2⟩ : ∃ k, P.types.size + Made.depth = k + 1 := ⟨P.types.size + Made.depth - 1, by omega⟩
        have h0 : (#[Value.iface t u2] ++ as.map a.eval)[0]? = some (.iface t u2) := by
          rw [← Array.getElem?_toList]; simp
        have h1 : (#[Value.iface t u2] ++ as.map a.eval).extract 1 (#[Value.iface t u2] ++ as.map a.eval).size = as.map a.eval := by
          apply Array.toList_inj.1
          simp [Array.toList_extract]
          rw [List.take_of_length_le (by simp)]
        simp only [execOp, resolve, hcr, Sem.run_bind, Sem.run_pure, Result.andThen_ok, invoke, h0, h1, callMethod, run_program, hk2, method_run hm]
      all_goals cases hg'
    · cases hx
  · cases hx

def K.calls : K → Bool
  | .call .. | .invoke .. => true
  | _ => false
theorem opA_nc {call : CallF} {k : K} {tm : TM} {h : Heap} (hk : k.calls = false) : opA call k tm h = opK k tm h := by
  cases k <;> first | rfl | (cases hk; done)

/-- One operation, where it stands. -/
theorem op_here {call : CallF} (hc : CallOk P B w0 call) {ro : Option Nat} {n nt : Nat} {o : Oper} {k : K} (hk : kC P o = some k) {ρ : Rho} {tm : TM} {a : Act} {h : Heap} {w : World} (ht : TMR ρ nt tm a.tmps) (r : Rel P B w0 ρ h w)
    {v : V} {h' : Heap} (hx : opA call k tm h = some (v, h')) {next : Act → World → Prop} {Q : Exit → Act → World → Prop}
    (hn : ∀ u w', Ret P B w0 ρ h.size v h' u w' → next (a.put o.dst u) w') : o.wpIn (Fw ro) n P a w next Q := by
  cases hcall : k.calls with
  | true =>
    cases k <;> first | (cases hcall; done) | skip
    · exact call_op hc hk ht r hx hn
    · exact inv_op hc hk ht r hx hn
  | false =>
    rw [opA_nc hcall] at hx
    cases ha : k.isAlloc with
    | false =>
      obtain ⟨u, w', ρ', q1, q2, q3, q4⟩ := opK_sound hk ha ht r hx
      exact up_done (not_defer hk) q1 (hn u w' ⟨ρ', q2, q3, q4⟩)
    | true =>
      obtain ⟨ob, q1, q2⟩ := alloc_sound (B := B) (w0 := w0) hk ha hx
      subst q1
      obtain ⟨u, w', em, g1, g2, g3⟩ := q2 ht (r.push ob) r.none_at (by rw [Heap.size_push]; omega) (by rw [Heap.get_push, if_pos rfl])
      exact up_done (not_defer hk) g1 (hn u w' ⟨_, g2, g3, New.with_ r.none_at (Nat.le_refl _)⟩)

theorem wanted_sound {ops : Array Oper} {nt : Nat} {g : Option (Nat × Bool)} {o : Oper} (hg : guardC ops nt o.guard = some g) {ρ : Rho} {tm : TM} {a : Array Value} (ht : TMR ρ nt tm a) {b : Bool} (hb : wantedA tm g = some b) : Region.wanted o (yielded ops a) = b := by
  unfold guardC at hg
  unfold Region.wanted
  split at hg
  · rename_i h0
    cases hg
    simp only [wantedA, Option.some.injEq] at hb
    rw [h0]; exact hb
  · rename_i j wnt h0
    rw [h0]
    split at hg
    · rename_i t hgt
      split at hg
      · rename_i hcnd
        have hne := hcnd.2
        cases hg
        simp only [wantedA] at hb
        unfold yielded
        simp only [hgt, Option.bind_some]
        split at hb
        · rename_i c hc
          cases hb
          obtain ⟨u, q1, q2⟩ := ht.2 _ _ hne hc
          cases q2
          rw [q1]
          simp only
          rw [Bool.eq_iff_iff]; simp
        · rename_i hc
          cases hb
          obtain ⟨u, q1, q2⟩ := ht.2 _ _ hne hc
          cases q2
          rw [q1]; simp
        · cases hb
      · cases hg
    · cases hg

theorem opA_bad {call : CallF} {k : K} {tm : TM} {h : Heap} {x : V × Heap} (hx : opA call k tm h = some x) : k ≠ .bad := by
  intro e
  subst e
  cases hx
theorem kX_of {o : Oper} (h : kX P o ≠ .bad) : kC P o = some (kX P o) := by
  unfold kX at h ⊢
  cases hk : kC P o with
  | some k => rfl
  | none => rw [hk] at h; exact absurd rfl h

theorem opC_parts {ops : Array Oper} {nt : Nat} {o : Oper} {ao : AOp} (h : opC P ops nt o = some ao) : (ao.k ≠ .bad → kC P o = some ao.k) ∧ guardC ops nt o.guard = some ao.guard ∧ ao.dst = o.dst ∧ dstOk nt o.dst = true := by
  unfold opC at h
  split at h
  · rename_i g hg
    split at h
    · rename_i hd
      cases h
      exact ⟨fun hb => kX_of hb, hg, rfl, hd⟩
    · cases h
  · cases h

theorem undef_sound (ρ : Rho) : VR ρ undefV undef := .tuple _ _ .nil

theorem put_DX {nt : Nat} {d : Option Nat} (hd : dstOk nt d = true) (tm : TM) (v : V) : (TM.put tm d v).get DX = tm.get DX := by
  cases d with
  | none => rfl
  | some d =>
    simp [dstOk] at hd
    simp only [TM.put]
    exact TM.get_set_ne _ _ _ _ (Ne.symm hd.2)

/-- A region whose order is the text's; or its first operations. -/
theorem ops_sound {call : CallF} (hc : CallOk P B w0 call) (hm : CallHM call) {ro : Option Nat} {n nt : Nat} {ops : Array Oper} : ∀ (l : List Oper) (i : Nat), (∀ j o, l[j]? = some o → ops[i + j]? = some o) → ∀ {al : List AOp}, opsC P ops nt l = some al →
    ∀ {ρ : Rho} {tm : TM} {a : Act} {h : Heap} {w : World}, ActR ρ nt ro tm a → Rel P B w0 ρ h w → ∀ {tm' : TM} {h' : Heap}, runOps call al tm h = some (tm', h') → ∀ {rest : List Nat}
    {Q : Exit → Act → World → Prop}, (∀ a' w' ρ', ActR ρ' nt ro tm' a' → Rel P B w0 ρ' h' w' → New ρ ρ' h.size → wpOpsIn (Fw ro) n P ops Q rest a' w') →
      wpOpsIn (Fw ro) n P ops Q (List.range' i l.length ++ rest) a w
  | [], i, hl, al, hal, ρ, tm, a, h, w, ht, r, tm', h', hx, rest, Q, hq => by
    cases hal
    cases hx
    exact hq a w ρ ht r (New.refl _ _)
  | o :: l, i, hl, al, hal, ρ, tm, a, h, w, ht, r, tm', h', hx, rest, Q, hq => by
    have ho : ops[i]? = some o := by simpa using hl 0 o (by simp)
    have hl' : ∀ j o', l[j]? = some o' → ops[i + 1 + j]? = some o' := fun j o' hj => by
      have := hl (j + 1) o' (by simpa using hj)
      rwa [show i + (j + 1) = i + 1 + j by omega] at this
    unfold opsC at hal
    split at hal
    · rename_i ao al' hao hal'
      cases hal
      obtain ⟨hk, hg, hdst, hdo⟩ := opC_parts hao
      simp only [List.length_cons, List.range'_succ, List.cons_append, wpOpsIn, ho]
      unfold runOps at hx
      split at hx
      · rename_i tm2 h2 hst
        unfold stepOp at hst
        split at hst
        · rename_i hw
          rw [wanted_sound hg ht.1 hw, if_pos rfl]
          split at hst
          · rename_i v h3 hop
            cases hst
            have hsz := (HM.opA hm hop).size
            refine op_here hc (hk (opA_bad hop)) ht.1 r hop fun u w' hret => ?_
            obtain ⟨ρ', q1, q2, q3⟩ := hret
            refine ops_sound hc hm l (i + 1) hl' hal' (ρ := ρ') (ht.next (by rw [hdst]; exact TMR.put (ht.1.mono q3.1) hdo q1) q3.1 (put_defers _ _ _) (by rw [hdst]; exact put_DX hdo _ _)) q2 hx ?_
            intro a' w'' ρ'' g2 g3 g4
            exact hq a' w'' ρ'' g2 g3 (q3.trans g4 hsz)
          · cases hst
        · rename_i hw
          rw [wanted_sound hg ht.1 hw]
          simp only [Bool.false_eq_true, if_false]
          cases hst
          refine ⟨about_ok, ?_⟩
          refine ops_sound hc hm l (i + 1) hl' hal' (ρ := ρ) (ht.next (by rw [hdst]; exact TMR.put ht.1 hdo (undef_sound _)) (RLe.refl _) (put_defers _ _ _) (by rw [hdst]; exact put_DX hdo _ _)) r hx ?_
          intro a' w'' ρ'' g2 g3 g4
          exact hq a' w'' ρ'' g2 g3 g4
        · cases hst
      · cases hx
    · cases hal
end
end Abs
end Go.Proofs.YtmgbcaboljilnaaGreatDoor
