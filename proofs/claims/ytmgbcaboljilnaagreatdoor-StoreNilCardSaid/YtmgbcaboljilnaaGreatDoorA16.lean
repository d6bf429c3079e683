/- The abstract machine's runs are the model's: code, calls, all of it. -/
import Derived.Test.YtmgbcaboljilnaaGreatDoorA15c
import Derived.RangeFuncIn
import Derived.RangeFuncLeaves
import Derived.RangeFuncRecord
namespace Go.Proofs.YtmgbcaboljilnaaGreatDoor
namespace Abs
set_option linter.unusedVariables false
set_option linter.unusedSimpArgs false
open Go.RowKit

section
variable {P : Program} {B : Nat} {w0 : World}

def LoopArr (F : Fence) (n : Nat) (P : Program) (c : Code) (Q : Exit → Act → World → Prop) (a : Act) (w : World) : Prop :=
  ∀ (b : Frame) (k : List Item) (cs : List Frame), b.roundOf = F.round → F.fn b.fn → F.room (cs.length + 1 + n) →
    ∃ e a' w', Q e a' w' ∧ ArrivesIn (Machine.fenced P F) P (lone (b.atR a (.code c :: .inLoop c :: k)) cs w) b k cs e a' w'

theorem loop_wp {F : Fence} {n : Nat} {c : Code} {Q : Exit → Act → World → Prop} {a : Act} {w : World} (h : LoopArr F n P c Q a w) : (Code.loop c).wpIn F n P Q a w := by
  intro b k cs hro hb hr
  obtain ⟨e, a', w', hq, harr⟩ := h b k cs hro hb hr
  exact ⟨e, a', w', hq, .of_steps (.one (fenced_calm hb hr rfl) stepR_loop) harr⟩

theorem loop_unroll {F : Fence} {n : Nat} {c : Code} {Q : Exit → Act → World → Prop} {a : Act} {w : World} (h : c.wpIn F n P (Exit.then (fun a' w' => LoopArr F n P c Q a' w') Q) a w) : LoopArr F n P c Q a w := by
  intro b k cs hro hb hr
  obtain ⟨e, a₁, w₁, hq, harr⟩ := h b (.inLoop c :: k) cs hro hb hr
  cases e with
  | normal =>
    obtain ⟨e₂, a₂, w₂, hq₂, harr₂⟩ := hq b k cs hro hb hr
    exact ⟨e₂, a₂, w₂, hq₂, .of_steps (StepsIn.trans harr (.one (fenced_calm hb hr rfl) stepR_inLoop)) harr₂⟩
  | exit id => exact ⟨_, a₁, w₁, hq, .pass (x := .inLoop c) rfl (fun _ _ => .inl (by simp)) harr⟩
  | goto l => exact ⟨_, a₁, w₁, hq, .pass (x := .inLoop c) rfl (fun _ _ => .inl (by simp)) harr⟩
  | ret => exact ⟨_, a₁, w₁, hq, .pass (x := .inLoop c) rfl (fun _ _ => .inl (by simp)) harr⟩
  | panic ch => exact ⟨_, a₁, w₁, hq, .pass (x := .inLoop c) rfl (fun _ _ => .inl (by simp)) harr⟩
  | outgrown => exact ⟨_, a₁, w₁, hq, .pass (x := .inLoop c) rfl (fun _ _ => .inl (by simp)) harr⟩

def Snd (ro : Option Nat) (n : Nat) (P : Program) (c : Code) (Q : Exit → Act → World → Prop) (a : Act) (w : World) : Prop :=
  c.wpIn (Fw ro) n P Q a w ∧ ∀ c', c = .loop c' → LoopArr (Fw ro) n P c' Q a w

theorem Snd.of {ro : Option Nat} {n : Nat} {c : Code} {Q : Exit → Act → World → Prop} {a : Act} {w : World} (h : c.wpIn (Fw ro) n P Q a w) (hc : ∀ c', c ≠ .loop c') : Snd ro n P c Q a w :=
  ⟨h, fun c' e => absurd e (hc c')⟩

theorem LoopArr.mono {F : Fence} {n : Nat} {c : Code} {Q Q' : Exit → Act → World → Prop} {a : Act} {w : World} (h : LoopArr F n P c Q a w) (hq : ∀ e a w, Q e a w → Q' e a w) : LoopArr F n P c Q' a w :=
  fun b k cs hro hb hr => let ⟨e, a', w', q, r⟩ := h b k cs hro hb hr; ⟨e, a', w', hq _ _ _ q, r⟩

def LoopOk (P : Program) (B : Nat) (w0 : World) (L : LoopF) : Prop :=
  ∀ (ro : Option Nat) (n nt : Nat) (c : Code) (ac : AC), codeC P nt c = some ac → (ro = none ∨ ac.noD = true) → ∀ (ρ : Rho) (tm : TM) (a : Act) (h : Heap) (w : World), ActR ρ nt ro tm a → Rel P B w0 ρ h w →
    ∀ (ex : Ex) (tm' : TM) (h' : Heap), L ac tm h = some (ex, tm', h') → Snd ro n P c (Post P B w0 ρ h.size nt ro ex tm' h') a w

theorem TMR.dx {ρ : Rho} {nt : Nat} {tm : TM} {a : Array Value} (h : TMR ρ nt tm a) (v : V) : TMR ρ nt (tm.set DX v) a :=
  ⟨h.1, fun i x hi hx => h.2 i x hi (by rw [← TM.get_set_ne tm DX i v hi]; exact hx)⟩
theorem deferred_push (tm : TM) (x : V) : deferred (pushD tm x) = x :: deferred tm := by
  unfold pushD
  rw [deferred, TM.get_set_same]

theorem wpIn_scope {F : Fence} {n : Nat} {c : Code} {Q : Exit → Act → World → Prop} {a : Act} {w : World} (h : c.wpIn F n P Q a w) (hg : ∀ l a w, ¬ Q (.goto l) a w) : (Code.scope c).wpIn F n P Q a w := by
  intro b k cs hro hb hr
  have s1 : StepsIn (Machine.fenced P F) P (lone (b.atR a (.code (.scope c) :: k)) cs w) (lone (b.atR a (.code c :: .inScope c :: k)) cs w) :=
    .one (fenced_calm hb hr rfl) (step_lone_go (by simp [stepG, stepG.exec, Frame.atR]))
  obtain ⟨e, a₁, w₁, hq, harr⟩ := h b (.inScope c :: k) cs hro hb hr
  refine ⟨e, a₁, w₁, hq, .of_steps s1 ?_⟩
  cases e with
  | normal => exact StepsIn.trans harr (.one (fenced_calm hb hr rfl) (step_lone_go (by simp [stepG, stepG.exec, Frame.atR])))
  | exit id => exact ⟨fun k' hk => harr.1 k' (by simpa [exitTo] using hk), fun hr' hk => harr.2 hr' (by simpa [exitTo] using hk)⟩
  | goto l => exact absurd hq (hg _ _ _)
  | ret => exact harr
  | panic chain => exact harr
  | outgrown => exact harr

/-- A range over a function: one that is entered, or one that answers at once. -/
theorem wpIn_range2 {F : Fence} {n : Nat} {g : Operand} {ps : Array Tmp} {assign body : Code} {Q : Exit → Act → World → Prop} {a : Act} {w : World}
    (h : ∀ fn, F.fn fn → ∃ (l : Nat) (mark : List Deferred) (w₁ : World) (d : Deferred) (w₁' : World),
      (Instr.enterLoop fn a.tmps ps assign body F.round).run P w = .ok (l, mark) w₁ ∧
      (resolve a.eval (rangeCall g l) 0).run P w₁ = .ok d w₁' ∧
      (∀ f', Target.leads P w₁' d.target d.args = some f' → F.fn f') ∧
      ((∃ f args w₂, (invoke d.target d.args).run P w₁' = .ok (.enter f args) w₂ ∧ (F.depth.isSome = true → 1 ≤ n) ∧ CallsIn F (n - 1) P f args w₂ (rangePost F n P l Q { a with defers := mark ++ a.defers })) ∨
       (∃ v w₂, (invoke d.target d.args).run P w₁' = .ok (.value v) w₂ ∧ rangePost F n P l Q { a with defers := mark ++ a.defers } (.returned v) w₂))) :
    (Code.rangeFunc g ps assign body).wpIn F n P Q a w := by
  intro b k cs hro hb hr
  obtain ⟨l, mark, w₁, d, w₁', he, hres, hlead, hcase⟩ := h b.fn hb
  rw [← hro] at he
  have h0 : (lone (b.atR a (.code (.rangeFunc g ps assign body) :: k)) cs w).fenced P F := by
    refine fenced_lone (.inl hb) (fun f' hf' => hlead f' ?_) (Fence.room_le hr (by omega))
    have hev := Frame.eval_atR b a (.code (.rangeFunc g ps assign body) :: k)
    simp only [Frame.atR] at hev
    simp only [Frame.about, Frame.atR, he, hev, hres] at hf'
    exact hf'
  rcases hcase with ⟨f, args, w₂, hinv, hn, hF, hcall⟩ | ⟨v, w₂, hinv, jump, w₄, hend, hj⟩
  · have henter := stepR_rangeFunc (P := P) (b := b) (a := a) (k := k) (cs := cs) (w := w) he hres hinv
    have hroom : F.room ((b.atR { a with defers := mark ++ a.defers } (.inRangeFunc l :: k) :: cs).length + 1 + (n - 1)) := Fence.room_enter hr hn
    obtain ⟨e, w₃, fr, hR, hsteps, hfn, hleave⟩ := hcall (b.atR { a with defers := mark ++ a.defers } (.inRangeFunc l :: k) :: cs) hroom
    cases e with
    | outgrown =>
      obtain ⟨a₀, w₀, hq⟩ := hR
      exact ⟨.outgrown, a₀, w₀, hq, .inr (Outgrown.of_steps (.one henter) hsteps)⟩
    | returned v =>
      have hl : (lone fr (b.atR { a with defers := mark ++ a.defers } (.inRangeFunc l :: k) :: cs) w₃).fenced P F := fenced_leaving (hfn ▸ hF) hroom hleave
      obtain ⟨jump, w₄, hend, hj⟩ := hR
      have sback : StepsIn (Machine.fenced P F) P (lone (b.atR a (.code (.rangeFunc g ps assign body) :: k)) cs w) (lone (b.atR { a with defers := mark ++ a.defers } ((jump.map Item.code).toList ++ k)) cs w₄) := by
        refine .head h0 henter (StepsIn.trans hsteps (.head hl ?_ (.one (fenced_calm (fr := b.atR { a with defers := mark ++ a.defers } (.endRangeFunc l :: k)) hb hr rfl) (stepR_endRangeFunc hend))))
        rw [← finish_atR_inRangeFunc l v]; exact step_leave_returned hleave
      cases jump with
      | none => exact ⟨.normal, _, w₄, hj, sback⟩
      | some c =>
        obtain ⟨e', a'', w₅, hq, harr⟩ := hj b k cs hro hb hr
        exact ⟨e', a'', w₅, hq, .of_steps sback harr⟩
    | panicked chain =>
      have hl : (lone fr (b.atR { a with defers := mark ++ a.defers } (.inRangeFunc l :: k) :: cs) w₃).fenced P F := fenced_leaving (hfn ▸ hF) hroom hleave
      refine ⟨.panic chain, _, w₃, hR, .inRangeFunc l :: k, .head h0 henter (StepsIn.trans hsteps (.one hl ?_))⟩
      rw [← Frame.raise_atR]; exact step_leave_panicked hleave
  · have henter : step P (lone (b.atR a (.code (.rangeFunc g ps assign body) :: k)) cs w) = .next (lone ((b.atR { a with defers := mark ++ a.defers } (.inRangeFunc l :: k)).finish v) cs w₂) :=
      step_lone_go (by
        have hev := Frame.eval_atR b { a with defers := mark ++ a.defers } (.inRangeFunc l :: k)
        simp only [Frame.atR] at hev
        have hres' : Sem.run P (resolve ({ tmps := a.tmps, defers := mark ++ a.defers } : Act).eval { callee := .value g, args := #[.const (.func (.yield l) #[] #[])], argTypes := #[] } 0) w₁ = .ok d w₁' := hres
        simp [stepG, stepG.exec, Frame.atR, Sem.runT_eq, he, GStep.bare_after, stepG.apply, hev, Sem.run_bind, hres', hinv, Result.andThen])
    rw [finish_atR_inRangeFunc] at henter
    have sback : StepsIn (Machine.fenced P F) P (lone (b.atR a (.code (.rangeFunc g ps assign body) :: k)) cs w) (lone (b.atR { a with defers := mark ++ a.defers } ((jump.map Item.code).toList ++ k)) cs w₄) :=
      .head h0 henter (.one (fenced_calm (fr := b.atR { a with defers := mark ++ a.defers } (.endRangeFunc l :: k)) hb hr rfl) (stepR_endRangeFunc hend))
    cases jump with
    | none => exact ⟨.normal, _, w₄, hj, sback⟩
    | some c =>
      obtain ⟨e', a'', w₅, hq, harr⟩ := hj b k cs hro hb hr
      exact ⟨e', a'', w₅, hq, .of_steps sback harr⟩

theorem lastD_spec : ∀ {l pre : List Oper} {c : Call}, lastD l = some (pre, c) → ∃ o, l = pre ++ [o] ∧ o.op = .defer c ∧ o.guard = none ∧ o.dst = none
  | [], _, _, h => by cases h
  | [o], pre, c, h => by
    simp only [lastD] at h
    split at h
    · rename_i c' h1 h2 h3
      cases h
      exact ⟨o, rfl, h1, h2, h3⟩
    · cases h
  | o :: o2 :: r, pre, c, h => by
    simp only [lastD] at h
    split at h
    · rename_i l c' hl
      cases h
      obtain ⟨x, h1, h2⟩ := lastD_spec hl
      exact ⟨x, by rw [h1]; rfl, h2⟩
    · cases h

/-- Behind the call of a range's function. -/
theorem range_end {ρ ρ2 ρ3 : Rho} {n nt : Nat} {tm : TM} {a : Act} {h h' : Heap} {w3 : World} {D l : Nat} {e0 e1 : Emb} (ht : ActR ρ nt none tm a) (r3 : Rel P B w0 ρ3 h' w3) (hn : New ρ2 ρ3 (h.size + 2)) (hn2 : New ρ ρ2 h.size) (he0 : ρ2 h.size = some e0) (hD : e0.blk = D) (he1 : ρ2 (h.size + 1) = some e1) (hl : e1.blk = l)
    {st : LoopState} {pend : Option Ex} {n1 : Nat} {t1 : TM} {p1 : List Nat} {a1 b1 : AC} (hg : h'.get (h.size + 1) = some (.loop st pend n1 t1 p1 a1 b1)) (hst : st ≠ .busy) (u : Value) :
    rangePost (Fw none) n P l (Post P B w0 ρ h.size nt none (exOf pend) (pushMark tm h.size) (h'.put (h.size + 1) .dead)) { a with defers := [{ target := .collected D, args := #[] }] ++ a.defers } (.returned u) w3 := by
  have he1' := hn.1 _ _ he1
  obtain ⟨o, q1, q2⟩ := r3.obj _ _ he1'
  rw [hg] at q1
  cases q1
  obtain ⟨hB, rec, q3, q4⟩ := q2
  subst hl
  have hend := run_endLoop (P := P) q3 (by rw [q4.state]; exact hst)
  have r4 : Rel P B w0 ρ3 (h'.put (h.size + 1) .dead) (w3.putObj e1.blk (.loop { rec with state := .exhausted })) :=
    r3.setOwn he1' hg rfl (.inr rfl) (fun S hS => by cases hS) hB _ trivial
  have hle : RLe ρ ρ3 := fun b e hb => hn.1 _ _ (hn2.1 _ _ hb)
  have hnew : New ρ ρ3 h.size := ⟨hle, fun b e hb => by
    rcases hn.2 b e hb with q | q
    · exact hn2.2 b e q
    · exact .inr (by omega)⟩
  have hact : ActR ρ3 nt none (pushMark tm h.size) { a with defers := [{ target := .collected D, args := #[] }] ++ a.defers } := by
    refine ⟨(ht.1.mono hle).dx _, fun _ => ?_⟩
    unfold pushMark
    rw [deferred_push]
    exact .mark _ e0 _ _ _ (hn.1 _ _ he0) hD.symm ((ht.2 rfl).mono hle)
  refine ⟨_, _, hend, ?_⟩
  have hpd := q4.pend
  split
  · rename_i hn
    rw [hpd] at hn
    cases pend with
    | none => exact ⟨.normal, ρ3, hact, r4, hnew⟩
    | some x => cases x with
      | normal => exact ⟨.normal, ρ3, hact, r4, hnew⟩
      | exit id => cases hn
      | ret => cases hn
  · rename_i c hn
    rw [hpd] at hn
    cases pend with
    | none => cases hn
    | some x => cases x with
      | normal => cases hn
      | exit id => cases hn; exact wpIn_exit ⟨.exit id, ρ3, hact, r4, hnew⟩
      | ret => cases hn; exact wpIn_ret ⟨.ret, ρ3, hact, r4, hnew⟩

/-- A range over a function of the program's. -/
theorem range_sound {call : CallF} (hc : CallOk P B w0 call) {n nt : Nat} {f : Operand} {ps : Array Tmp} {asg body : Code} {ρ : Rho} {tm : TM} {a : Act} {h h3 : Heap} {w : World} {v3 : V} (ht : ActR ρ nt none tm a) (r : Rel P B w0 ρ h w) {fid : FuncId} {fi cp : Array Value} {first caps : List V} (hcr : a.eval f = .func (.func fid) fi cp) (hv1 : VRs ρ first fi.toList) (hv2 : VRs ρ caps cp.toList)
    {aa ab : AC} (haa : codeC P nt asg = some aa) (hab : codeC P nt body = some ab) (c1 : (ps.all fun p => dstOk nt (some p)) = true) (c2 : aa.noD = true) (c3 : ab.noD = true) (hcall : call (.fn fid) (first ++ [.yld (h.size + 1)] ++ caps) ((h.push .dfr).push (.loop .ready none nt tm ps.toList aa ab)) = some (v3, h3))
    {st : LoopState} {pend : Option Ex} {n1 : Nat} {t1 : TM} {p1 : List Nat} {a1 b1 : AC} (hg : h3.get (h.size + 1) = some (.loop st pend n1 t1 p1 a1 b1)) (hst : st ≠ .busy) :
    (Code.rangeFunc f ps asg body).wpIn (Fw none) n P (Post P B w0 ρ h.size nt none (exOf pend) (pushMark tm h.size) (h3.put (h.size + 1) .dead)) a w := by
  have hnone : ρ h.size = none := r.none_at
  have e1 : (h.push .dfr).get h.size = some .dfr := by rw [Heap.get_push, if_pos rfl]
  have r1 := (r.push .dfr).lay hnone (by rw [Heap.size_push]; omega) e1 (.deferred (some [])) 0 ⟨r.base, World.alloc_heap_new w _⟩
  generalize hρ1 : Rho.with_ ρ h.size ⟨w.heap.size, 0, 0⟩ = ρ1 at r1
  have hle1 : RLe ρ ρ1 := by rw [← hρ1]; exact with_le hnone
  have hnone2 : ρ1 (h.size + 1) = none := r1.none_at
  have hsz1 : (w.alloc (.deferred (some []))).heap.size = w.heap.size + 1 := World.size_alloc _ _
  have e2 : ((h.push .dfr).push (.loop .ready none nt tm ps.toList aa ab)).get (h.size + 1) = some (.loop .ready none nt tm ps.toList aa ab) := by rw [Heap.get_push, if_pos (by rw [Heap.size_push])]
  let W : FuncId → World := fun fn => (w.alloc (.deferred (some []))).alloc (.loop { state := .ready, pending := none, fn, tmps := a.tmps, params := ps, assign := asg, body, defers := w.heap.size })
  have hsnd : ∀ fn : FuncId, ∃ ρ2 e0 el, ρ2 h.size = some e0 ∧ e0.blk = w.heap.size ∧ ρ2 (h.size + 1) = some el ∧ el.blk = w.heap.size + 1 ∧ New ρ ρ2 h.size ∧
      Rel P B w0 ρ2 ((h.push .dfr).push (.loop .ready none nt tm ps.toList aa ab)) (W fn) := by
    intro fn
    have hle2 := with_le (e := ⟨(w.alloc (.deferred (some []))).heap.size, 0, 0⟩) hnone2
    have r2 := (r1.push (.loop .ready none nt tm ps.toList aa ab)).lay hnone2 (by rw [Heap.size_push, Heap.size_push]; omega) e2 (.loop { state := .ready, pending := none, fn, tmps := a.tmps, params := ps, assign := asg, body, defers := w.heap.size }) 0
      ⟨r1.base, _, World.alloc_heap_new _ _, ⟨rfl, rfl, (ht.1.mono hle1).mono hle2, rfl, fun p hp => by
        have := Array.all_eq_true'.1 c1 p (by simpa using hp)
        exact this, haa, hab, c2, c3⟩⟩
    refine ⟨_, ⟨w.heap.size, 0, 0⟩, ⟨(w.alloc (.deferred (some []))).heap.size, 0, 0⟩, ?_, rfl, with_same, hsz1, ⟨fun b e hb => hle2 _ _ (hle1 _ _ hb), ?_⟩, r2⟩
    · exact hle2 _ _ (by rw [← hρ1]; exact with_same)
    · intro b e hb
      unfold Rho.with_ at hb
      by_cases q : b = h.size + 1
      · exact .inr (by omega)
      · rw [if_neg q, ← hρ1] at hb
        unfold Rho.with_ at hb
        by_cases q2 : b = h.size
        · exact .inr (by omega)
        · rw [if_neg q2] at hb; exact .inl hb
  have hcallsnd : ∀ fn : FuncId, ∃ ρ2 e0 el, ρ2 h.size = some e0 ∧ e0.blk = w.heap.size ∧ ρ2 (h.size + 1) = some el ∧ el.blk = w.heap.size + 1 ∧ New ρ ρ2 h.size ∧
      CallSnd P B w0 ρ2 fid (fi ++ #[.func (.yield (w.heap.size + 1)) #[] #[]] ++ cp) (W fn) ((h.push .dfr).push (.loop .ready none nt tm ps.toList aa ab)) v3 h3 := by
    intro fn
    obtain ⟨ρ2, e0, el, g1, g2, g3, g4, g5, g6⟩ := hsnd fn
    refine ⟨ρ2, e0, el, g1, g2, g3, g4, g5, hc.fn _ _ _ _ _ hcall ρ2 _ _ g6 ?_⟩
    simp only [Array.toList_append]
    exact ((hv1.mono g5.1).append (.cons _ _ _ _ (.yld _ el _ g3 g4.symm) .nil)).append (hv2.mono g5.1)
  have hsize : ((h.push .dfr).push (.loop .ready none nt tm ps.toList aa ab)).size = h.size + 2 := rfl
  have hres : ∀ fn : FuncId, (resolve a.eval (rangeCall f (w.heap.size + 1)) 0).run P (W fn) = .ok { target := .fn (.func fid) cp, args := fi ++ #[.func (.yield (w.heap.size + 1)) #[] #[]] } (W fn) := by
    intro fn
    have hm1 : Array.map a.eval #[Operand.const (.func (.yield (w.heap.size + 1)) #[] #[])] = #[.func (.yield (w.heap.size + 1)) #[] #[]] := by simp [Act.eval]
    simp only [resolve, hcr, Deferred.ofValue, Sem.run_bind, Sem.run_pure, Result.andThen_ok, hm1]
  refine wpIn_range2 ?_
  intro fn _
  obtain ⟨ρ2, e0, el, g1, g2, g3, g4, g5, g6⟩ := hcallsnd fn
  refine ⟨_, _, _, _, _, run_enterLoop_outer _ _ _ _ _, hres fn, fun _ _ => trivial, ?_⟩
  rcases g6 with ⟨q1, q2⟩ | ⟨u, w', q1, ρ3, s1, s2, s3⟩
  · refine .inl ⟨fid, _, _, by simp only [invoke]; exact q1, fw_depth, ?_⟩
    obtain ⟨m1, m2⟩ := calls_fw (ro := none) (q2 (n - 1))
    refine ⟨m1, fun cs hr => ?_⟩
    obtain ⟨e', w', fr, s1, s2, s3, s4⟩ := m2 cs hr
    refine ⟨e', w', fr, ?_, s2, s3, s4⟩
    cases e' with
    | returned u =>
      obtain ⟨ρ3, s1, s2, s3⟩ := s1
      exact range_end ht s2 (hsize ▸ s3) g5 g1 g2 g3 g4 hg hst u
    | panicked c => exact s1.elim
    | outgrown => exact s1.elim
  · exact .inr ⟨u, w', by simp only [invoke]; exact q1, range_end ht s2 (hsize ▸ s3) g5 g1 g2 g3 g4 hg hst u⟩

theorem code_sound {call : CallF} {L : LoopF} (hc : CallOk P B w0 call) (hm : CallHM call) (hl : LoopOk P B w0 L) (hlm : LoopHM L) (ro : Option Nat) (n nt : Nat) :
    ∀ (c : Code) (ac : AC), codeC P nt c = some ac → (ro = none ∨ ac.noD = true) → ∀ (ρ : Rho) (tm : TM) (a : Act) (h : Heap) (w : World), ActR ρ nt ro tm a → Rel P B w0 ρ h w →
    ∀ (ex : Ex) (tm' : TM) (h' : Heap), execC call L ac tm h = some (ex, tm', h') → Snd ro n P c (Post P B w0 ρ h.size nt ro ex tm' h') a w := by
  intro c
  induction c with
  | skip =>
    intro ac hac hnd ρ tm a h w ht r ex tm' h' hx
    cases hac
    cases hx
    exact .of (wpIn_skip ⟨.normal, ρ, ht, r, New.refl _ _⟩) (fun _ e => by cases e)
  | region id ops draw =>
    intro ac hac hnd ρ tm a h w ht r ex tm' h' hx
    cases draw with
    | false =>
      simp only [codeC] at hac
      split at hac
      · rename_i pre cl hld
        obtain ⟨od, k1, k2, k3, k4⟩ := lastD_spec hld
        split at hac
        · rename_i l g hops hcal
          split at hac
          · rename_i f args hf hargs
            cases hac
            have hro : ro = none := hnd.resolve_right (by simp [AC.noD])
            subst hro
            unfold execC at hx
            split at hx
            · rename_i tm2 h2 hx2
              unfold execC at hx2
              split at hx2
              · rename_i tm3 h3 hrun
                cases hx2
                unfold execC at hx
                split at hx
                · rename_i fid first caps vs hev hevs
                  cases hx
                  refine .of (wpIn_region ?_) (fun _ e => by cases e)
                  have hpl : ∀ j o, pre[j]? = some o → ops[0 + j]? = some o := by
                    intro j o hj
                    rw [Nat.zero_add, ← Array.getElem?_toList, k1, List.getElem?_append_left (List.getElem?_eq_some_iff.1 hj).1]
                    exact hj
                  have hlast : ops[pre.length]? = some od := by
                    rw [← Array.getElem?_toList, k1]; simp
                  have hrange : List.range ops.size = List.range' 0 pre.length ++ [pre.length] := by
                    rw [← Array.length_toList, k1, List.length_append, List.length_singleton, List.range_succ, List.range_eq_range']
                  rw [hrange]
                  refine ops_sound (P := P) hc hm (ro := none) (n := n) (ops := ops) pre 0 hpl hops ht r hrun (fun a' w' ρ' q2 q3 q4 => ?_)
                  simp only [wpOpsIn, hlast]
                  have hwant : Region.wanted od (yielded ops a'.tmps) = true := by unfold Region.wanted; rw [k3]
                  rw [if_pos hwant]
                  refine ⟨about_ok, ?_⟩
                  have hg' := ev_sound q2.1 hf hev
                  have has' := evs_sound q2.1 hargs hevs
                  obtain ⟨callee, as, ts⟩ := cl
                  simp only at hcal
                  subst hcal
                  cases hcr : a'.eval g <;> rw [hcr] at hg'
                  case func fn fi cp =>
                    cases hg' with
                    | func _ _ _ _ _ h1 h2 =>
                    have hrun2 : (Oper.semAt (Fw none).round a'.eval od).run P w' = .ok (.defer { target := .fn (.func fid) cp, args := fi ++ as.map a'.eval }) w' := by
                      show (Oper.semAt none a'.eval od).run P w' = _
                      rw [Oper.semAt_none]
                      simp only [execOp, k2, resolve, hcr, Deferred.ofValue, Sem.run_bind, Sem.run_pure, Result.andThen_ok]
                    rw [hrun2, Oper.uponIn_defer, k4]
                    refine ⟨.normal, ρ', ⟨?_, fun _ => ?_⟩, q3, q4⟩
                    · exact q2.1.dx _
                    · rw [deferred_push]
                      refine .call fid _ cp (fi ++ as.map a'.eval) _ _ ?_ (q2.2 rfl)
                      simp only [Array.toList_append, Array.toList_map]
                      exact (h1.append has').append h2
                  all_goals cases hg'
                · cases hx
              · cases hx2
            · rename_i hne
              exfalso
              unfold execC at hx
              split at hx
              · exact hne _ _ (by unfold execC; rename_i q; rw [q])
              · cases hx
          · cases hac; cases hx
        · cases hac; cases hx
      · split at hac
        · rename_i l hops
          cases hac
          unfold execC at hx
          split at hx
          · rename_i tm2 h2 hrun
            cases hx
            refine .of (wpIn_region ?_) (fun _ e => by cases e)
            have := ops_sound (P := P) hc hm (ro := ro) (n := n) (ops := ops) ops.toList 0 (fun j o hj => by simpa using hj) hops ht r hrun (rest := [])
              (Q := Post P B w0 ρ h.size nt ro .normal tm' h') (fun a' w' ρ' q2 q3 q4 => ⟨.normal, ρ', q2, q3, q4⟩)
            rw [List.range_eq_range', ← Array.length_toList, ← List.append_nil (List.range' _ _)]
            exact this
          · cases hx
        · cases hac; cases hx
    | true =>
      simp only [codeC] at hac
      split at hac
      · rename_i hmix
        split at hac
        · rename_i l hdl
          cases hac
          unfold execC at hx
          split at hx
          · rename_i tm2 h2 hrun
            cases hx
            exact .of (draw_sound hc hm hmix hdl ht r hrun (fun a' w' ρ' q2 q3 q4 => ⟨.normal, ρ', q2, q3, q4⟩)) (fun _ e => by cases e)
          · cases hx
        · cases hac; cases hx
      · cases hac; cases hx
  | seq x y ihx ihy =>
    intro ac hac hnd ρ tm a h w ht r ex tm' h' hx
    simp only [codeC] at hac
    split at hac
    · rename_i ax ay hax hay
      cases hac
      have hnd1 : ro = none ∨ ax.noD = true := hnd.imp id fun q => by simp only [AC.noD, Bool.and_eq_true] at q; exact q.1
      have hnd2 : ro = none ∨ ay.noD = true := hnd.imp id fun q => by simp only [AC.noD, Bool.and_eq_true] at q; exact q.2
      refine .of (wpIn_seq ?_) (fun _ e => by cases e)
      unfold execC at hx
      split at hx
      · rename_i tm2 h2 hx2
        have hsz := (HM.exec hm hlm ax hx2).size
        refine wpIn_mono (ihx ax hax hnd1 ρ tm a h w ht r _ _ _ hx2).1 ?_
        rintro e a' w' ⟨he, ρ', q1, q2, q3⟩
        cases he
        refine wpIn_mono (ihy ay hay hnd2 ρ' tm2 a' h2 w' q1 q2 _ _ _ hx).1 ?_
        rintro e a'' w'' ⟨he2, ρ'', g1, g2, g3⟩
        exact ⟨he2, ρ'', g1, g2, q3.trans g3 hsz⟩
      · rename_i hnn
        refine wpIn_mono (ihx ax hax hnd1 ρ tm a h w ht r _ _ _ hx).1 ?_
        rintro e a' w' ⟨he, ρ', q1, q2, q3⟩
        cases he with
        | normal => exact absurd hx (hnn _ _)
        | exit id => exact ⟨.exit id, ρ', q1, q2, q3⟩
        | ret => exact ⟨.ret, ρ', q1, q2, q3⟩
    · cases hac
  | cond cx x y ihx ihy =>
    intro ac hac hnd ρ tm a h w ht r ex tm' h' hx
    simp only [codeC] at hac
    split at hac
    · rename_i acx ax ay hcx hax hay
      cases hac
      have hnd1 : ro = none ∨ ax.noD = true := hnd.imp id fun q => by simp only [AC.noD, Bool.and_eq_true] at q; exact q.1
      have hnd2 : ro = none ∨ ay.noD = true := hnd.imp id fun q => by simp only [AC.noD, Bool.and_eq_true] at q; exact q.2
      refine .of ?_ (fun _ e => by cases e)
      unfold execC at hx
      split at hx
      · rename_i t hev
        have hv := ev_sound ht.1 hcx hev
        have hcr : a.eval cx = .bool t := by
          cases hcr : a.eval cx <;> rw [hcr] at hv <;> cases hv
          rfl
        refine wpIn_cond hcr ?_
        cases t with
        | true => exact (ihx ax hax hnd1 ρ tm a h w ht r _ _ _ hx).1
        | false => exact (ihy ay hay hnd2 ρ tm a h w ht r _ _ _ (by simpa using hx)).1
      · cases hx
    · cases hac
  | block id c ih =>
    intro ac hac hnd ρ tm a h w ht r ex tm' h' hx
    simp only [codeC] at hac
    split at hac
    · rename_i ac' hac'
      cases hac
      refine .of (wpIn_block ?_) (fun _ e => by cases e)
      unfold execC at hx
      split at hx
      · rename_i i tm2 h2 hx2
        cases hx
        refine wpIn_mono (ih ac' hac' hnd ρ tm a h w ht r _ _ _ hx2).1 ?_
        rintro e a' w' ⟨he, ρ', q1, q2, q3⟩
        cases he
        by_cases hi : i = id
        · simp only [Exit.inBlock, hi, if_true]; exact ⟨.normal, ρ', q1, q2, q3⟩
        · simp only [Exit.inBlock, hi, if_false]; exact ⟨.exit i, ρ', q1, q2, q3⟩
      · rename_i hne
        refine wpIn_mono (ih ac' hac' hnd ρ tm a h w ht r _ _ _ hx).1 ?_
        rintro e a' w' ⟨he, ρ', q1, q2, q3⟩
        cases he with
        | normal => exact ⟨.normal, ρ', q1, q2, q3⟩
        | exit i => exact absurd hx (hne _ _ _)
        | ret => exact ⟨.ret, ρ', q1, q2, q3⟩
    · cases hac
  | loop c ih =>
    intro ac hac hnd ρ tm a h w ht r ex tm' h' hx
    have hac0 := hac
    simp only [codeC] at hac
    split at hac
    · rename_i ac' hac'
      cases hac
      have key : LoopArr (Fw ro) n P c (Post P B w0 ρ h.size nt ro ex tm' h') a w := by
        refine loop_unroll ?_
        unfold execC at hx
        split at hx
        · rename_i tm2 h2 hx2
          have hsz := (HM.exec hm hlm ac' hx2).size
          refine wpIn_mono (ih ac' hac' hnd ρ tm a h w ht r _ _ _ hx2).1 ?_
          rintro e a' w' ⟨he, ρ', q1, q2, q3⟩
          cases he
          have := (hl ro n nt (.loop c) (.loop ac') hac0 hnd ρ' tm2 a' h2 w' q1 q2 _ _ _ hx).2 c rfl
          refine this.mono ?_
          rintro e a'' w'' ⟨he2, ρ'', g1, g2, g3⟩
          exact ⟨he2, ρ'', g1, g2, q3.trans g3 hsz⟩
        · rename_i hnn
          refine wpIn_mono (ih ac' hac' hnd ρ tm a h w ht r _ _ _ hx).1 ?_
          rintro e a' w' ⟨he, ρ', q1, q2, q3⟩
          cases he with
          | normal => exact absurd hx (hnn _ _)
          | exit id => exact ⟨.exit id, ρ', q1, q2, q3⟩
          | ret => exact ⟨.ret, ρ', q1, q2, q3⟩
      exact ⟨loop_wp key, fun c' e => by cases e; exact key⟩
    · cases hac
  | exit id =>
    intro ac hac hnd ρ tm a h w ht r ex tm' h' hx
    cases hac
    cases hx
    exact .of (wpIn_exit ⟨.exit id, ρ, ht, r, New.refl _ _⟩) (fun _ e => by cases e)
  | ret =>
    intro ac hac hnd ρ tm a h w ht r ex tm' h' hx
    cases hac
    cases hx
    exact .of (wpIn_ret ⟨.ret, ρ, ht, r, New.refl _ _⟩) (fun _ e => by cases e)
  | rangeFunc f ps asg body _ _ =>
    intro ac hac hnd ρ tm a h w ht r ex tm' h' hx
    simp only [codeC] at hac
    split at hac
    · rename_i f' aa ab hf haa hab
      split at hac
      · rename_i hcond
        obtain ⟨c1, c2, c3⟩ := hcond
        cases hac
        have hro : ro = none := hnd.resolve_right (by simp [AC.noD])
        subst hro
        unfold execC at hx
        split at hx
        · rename_i fid first caps hev
          split at hx
          · rename_i v3 h3 hcall
            split at hx
            · rename_i st pend n1 t1 p1 a1 b1 hg
              have hst : st ≠ .busy := by rintro rfl; cases hx
              have hx2 : exOf pend = ex ∧ pushMark tm h.size = tm' ∧ h3.put (h.size + 1) .dead = h' := by
                cases st <;> first | exact absurd rfl hst | (simp only [Option.some.injEq, Prod.mk.injEq] at hx; exact hx)
              obtain ⟨rfl, rfl, rfl⟩ := hx2
              refine .of ?_ (fun _ e => by cases e)
              have hg' := ev_sound ht.1 hf hev
              cases hcr : a.eval f <;> rw [hcr] at hg'
              case func fn0 fi cp =>
                cases hg' with
                | func _ _ _ _ _ hv1 hv2 =>
                exact range_sound hc ht r hcr hv1 hv2 haa hab c1 c2 c3 hcall hg hst
              all_goals cases hg'
            · cases hx
          · cases hx
        · cases hx
      · cases hac; cases hx
    · cases hac; cases hx
  | scope c ih =>
    intro ac hac hnd ρ tm a h w ht r ex tm' h' hx
    simp only [codeC] at hac
    refine .of (wpIn_scope (ih ac hac hnd ρ tm a h w ht r ex tm' h' hx).1 ?_) (fun _ e => by cases e)
    rintro l a w ⟨he, _⟩
    cases he
  | label l =>
    intro ac hac hnd ρ tm a h w ht r ex tm' h' hx
    cases hac
    cases hx
    exact .of (wpIn_label ⟨.normal, ρ, ht, r, New.refl _ _⟩) (fun _ e => by cases e)
  | goto => intro ac hac hnd ρ tm a h w ht r ex tm' h' hx; cases hac; cases hx
  | refuse => intro ac hac hnd ρ tm a h w ht r ex tm' h' hx; cases hac; cases hx

/-! ### A call's end -/
theorem Rel.reset {ρ : Rho} {h : Heap} {w : World} (r : Rel P B w0 ρ h w) (l : Nat) : Rel P B w0 ρ { h with low := l } w := r.congr rfl fun _ => rfl

theorem CellFacts.narrow {ρ ρ' : Rho} {w w' : World} {e : Emb} {cs : List V} {n : Nat} (hn : ∀ b e, b < n → ρ' b = some e → ρ b = some e) (hd : ∀ b e, ρ b = some e → b < n) (h0 : CellFacts ρ w e cs) (h1 : CellFacts ρ' w' e cs) : CellFacts ρ w' e cs := by
  intro i v hv
  obtain ⟨u0, _, q0⟩ := h0 i v hv
  obtain ⟨u1, q1, q2⟩ := h1 i v hv
  exact ⟨u1, q1, q2.narrow hn (q0.scope hd)⟩
theorem MR.narrow {ρ ρ' : Rho} {n : Nat} (hn : ∀ b e, b < n → ρ' b = some e → ρ b = some e) (hd : ∀ b e, ρ b = some e → b < n) : ∀ {x : List (V × V)} {y z : List MapEntry}, MR ρ x y → MR ρ' x z → MR ρ x z
  | [], [], [], _, _ => trivial
  | (k, v) :: x, m :: y, m' :: z, h0, h1 => ⟨h1.1.narrow hn (h0.1.scope hd), h1.2.1.narrow hn (h0.2.1.scope hd), MR.narrow hn hd h0.2.2 h1.2.2⟩
  | [], _ :: _, _, h0, _ => h0.elim
  | _ :: _, [], _, h0, _ => h0.elim
  | [], [], _ :: _, _, h1 => h1.elim
  | _ :: _, _ :: _, [], _, h1 => h1.elim
theorem ORel.narrow {ρ ρ' : Rho} {w w' : World} {e : Emb} {o : Obj} {n : Nat} (hn : ∀ b e, b < n → ρ' b = some e → ρ b = some e) (hd : ∀ b e, ρ b = some e → b < n) (h0 : ORel P B ρ w e o) (h1 : ORel P B ρ' w' e o) : ORel P B ρ w' e o := by
  cases o with
  | cells cs st => cases st with
    | ro => exact ⟨h1.1, h0.2.narrow hn hd h1.2⟩
    | tip S fz ty => exact ⟨h1.1, h0.2.1.narrow hn hd h1.2.1, h1.2.2⟩
    | sup => exact CellFacts.narrow hn hd h0 h1
  | map es bs cl =>
    obtain ⟨_, ces0, q0, q1, _⟩ := h0
    obtain ⟨g0, ces, g1, g2, g3⟩ := h1
    exact ⟨g0, ces, g1, MR.narrow hn hd q1 g2, g3⟩
  | loop st pend nt tm ps asg body =>
    obtain ⟨_, r0, q0, q1⟩ := h0
    obtain ⟨g0, r, g1, g2⟩ := h1
    refine ⟨g0, r, g1, { g2 with tmr := ⟨⟨g2.tmr.1.1, q1.tmr.1.2⟩, fun i v hi hv => ?_⟩ }⟩
    obtain ⟨u0, _, k0⟩ := q1.tmr.2 i v hi hv
    obtain ⟨u1, k1, k2⟩ := g2.tmr.2 i v hi hv
    exact ⟨u1, k1, k2.narrow hn (k0.scope hd)⟩
  | dfr => exact h1
  | dead => trivial

theorem Rel.cut {ρ ρ' : Rho} {h h1 : Heap} {w w' : World} (r : Rel P B w0 ρ h w) (r1 : Rel P B w0 ρ' h1 w') (hn : New ρ ρ' h.size) (hg : ∀ b, b < h.size → h1.get b = h.get b) : Rel P B w0 ρ h w' := by
  have nar : ∀ b e, b < h.size → ρ' b = some e → ρ b = some e := fun b e hb he => (hn.2 b e he).resolve_right (by omega)
  refine ⟨r.dom, fun b e hb => ?_, ?_, fun b e o h1' h2 h3 => ?_, r.fresh, r1.below, r1.base, r.glob⟩
  · obtain ⟨o, q1, q2⟩ := r.obj b e hb
    obtain ⟨o', g1, g2⟩ := r1.obj b e (hn.1 b e hb)
    rw [hg b (r.dom b e hb), q1] at g1
    cases g1
    exact ⟨o, q1, ORel.narrow nar r.dom q2 g2⟩
  · intro b b' e e' o o' S q1 q2 q3 q4 q5 q6 q7 q8
    exact r1.sep b b' e e' o o' S (hn.1 _ _ q1) (hn.1 _ _ q2) q3 (by rw [hg b (r.dom _ _ q1)]; exact q4) q5 (by rw [hg b' (r.dom _ _ q2)]; exact q6) q7 q8
  · exact r1.live b e o (hn.1 _ _ h1') (by rw [hg b (r.dom _ _ h1')]; exact h2) h3

theorem close_sound {ρ ρ' : Rho} {h h1 : Heap} {w w' : World} {v v' : V} {h' : Heap} {u : Value} (r : Rel P B w0 ρ h w) (r1 : Rel P B w0 ρ' h1 w') (hn : New ρ ρ' h.size) (hm : HM { h with low := h.size } h1) (hv : VR ρ' v u)
    (hc : closeCall h v h1 = (v', h')) : v' = v ∧ ∃ ρ'', VR ρ'' v u ∧ Rel P B w0 ρ'' h' w' ∧ New ρ ρ'' h.size := by
  unfold closeCall at hc
  split at hc
  · rename_i hk
    cases hc
    refine ⟨rfl, ρ, ?_, r.cut r1 hn (fun b hb => hm.get b (by omega) hb), New.refl _ _⟩
    exact hv.narrow (fun b e hb he => (hn.2 b e he).resolve_right (by omega)) hk.2
  · cases hc
    exact ⟨rfl, ρ', hv, r1.reset _, hn⟩

def resSem (a : Array Value) : ResultVar → Sem Value
  | .tmp t => pure (a.getD t undef)
  | .cell p t => do loadVar t (← asAddr (a.getD p undef))
theorem results_eq (fn : Func) (a : Array Value) : results fn a = (do let vs ← fn.results.mapM (resSem a); pure (if h : vs.size = 1 then vs[0] else .tuple vs)) := by
  unfold results
  congr 1

theorem res_sound {ρ : Rho} {h : Heap} {w : World} (r : Rel P B w0 ρ h w) {nt : Nat} {tm : TM} {a : Array Value} (ht : TMR ρ nt tm a) {x : ResultVar} {y : Res} (hy : resC P x = some y) {v : V} (hv : resA tm h y = some v) :
    ∃ u, (resSem a x).run P w = .ok u w ∧ VR ρ v u := by
  unfold resC at hy
  split at hy
  · split at hy
    · cases hy
    rename_i hne
    cases hy
    simp only [resA] at hv
    obtain ⟨u, q1, q2⟩ := ht.2 _ _ hne hv
    exact ⟨u, by simp [resSem, q1], q2⟩
  · split at hy
    · cases hy
    rename_i p t hne
    split at hy
    · rename_i g hg
      cases hy
      simp only [resA] at hv
      split at hv
      · rename_i q hq
        obtain ⟨u, q1, q2⟩ := ht.2 _ _ hne hq
        obtain ⟨ad, had, u', g1, g2⟩ := load_sound (P := P) r hg q2 hv
        subst had
        exact ⟨u', by simp [resSem, q1, asAddr, g1], g2⟩
      · cases hv
    · cases hy

theorem ress_sound {ρ : Rho} {h : Heap} {w : World} (r : Rel P B w0 ρ h w) {nt : Nat} {tm : TM} {a : Array Value} (ht : TMR ρ nt tm a) : ∀ {x : List ResultVar} {y : List Res}, ressC P x = some y → ∀ {v : List V}, ressA tm h y = some v →
    ∃ u, (x.mapM (m := Sem) (resSem a)).run P w = .ok u w ∧ VRs ρ v u
  | [], y, hy, v, hv => by cases hy; cases hv; exact ⟨[], rfl, .nil⟩
  | x :: xs, y, hy, v, hv => by
    unfold ressC at hy
    split at hy
    · rename_i p q hp hq
      cases hy
      unfold ressA at hv
      split at hv
      · rename_i s t hs ht'
        cases hv
        obtain ⟨u, g1, g2⟩ := res_sound (P := P) r ht hp hs
        obtain ⟨us, g3, g4⟩ := ress_sound r ht hq ht'
        refine ⟨u :: us, ?_, .cons _ _ _ _ g2 g4⟩
        rw [List.mapM_cons]
        simp only [Sem.run_bind, g1, Result.andThen_ok, g3, Sem.run_pure]
      · cases hv
    · cases hy

theorem results_sound {ρ : Rho} {h : Heap} {w : World} (r : Rel P B w0 ρ h w) {fn : Func} {nt : Nat} {tm : TM} {a : Array Value} (ht : TMR ρ nt tm a) {rs : List Res} (hr : ressC P fn.results.toList = some rs) {v : List V} (hv : ressA tm h rs = some v) :
    ∃ u, (results fn a).run P w = .ok u w ∧ VR ρ (oneOf v) u := by
  obtain ⟨us, q1, q2⟩ := ress_sound (P := P) r ht hr hv
  have hm := arrMapM (P := P) (w := w) (resSem a) fn.results q1
  refine ⟨if h : us.toArray.size = 1 then us.toArray[0] else .tuple us.toArray, ?_, ?_⟩
  · rw [results_eq]
    simp only [Sem.run_bind, hm, Result.andThen_ok, Sem.run_pure]
  · cases q2 with
    | nil => simp only [oneOf]; exact .tuple _ _ .nil
    | cons v u vs us hv1 hvs =>
      cases hvs with
      | nil => simpa [oneOf] using hv1
      | cons v2 u2 vs us hv2 hvs =>
        simp only [oneOf, List.size_toArray, List.length_cons]
        rw [dif_neg (by omega)]
        exact .tuple _ _ (.cons _ _ _ _ hv1 (.cons _ _ _ _ hv2 hvs))

theorem args_sound {ρ : Rho} : ∀ {vs : List V} {us : List Value} (hv : VRs ρ vs us) (i : Nat) (tm : TM) (A : Array Value), (∀ j v, tm.get j = some v → ∃ u, A[j]? = some u ∧ VR ρ v u) → (∀ j u, us[j]? = some u → A[i + j]? = some u) →
    ∀ j v, (argsTM i vs tm).get j = some v → ∃ u, A[j]? = some u ∧ VR ρ v u
  | _, _, .nil, i, tm, A, h0, h1 => h0
  | _, _, .cons v u vs us hv ht, i, tm, A, h0, h1 => by
    unfold argsTM
    refine args_sound ht (i + 1) (tm.set i v) A (fun j v' hj => ?_) (fun j u' hj => ?_)
    · rw [TM.get_set] at hj
      by_cases e : j = i
      · rw [if_pos e] at hj
        cases hj
        subst e
        exact ⟨u, by simpa using h1 0 u (by simp), hv⟩
      · rw [if_neg e] at hj
        exact h0 j v' hj
    · have := h1 (j + 1) u' (by simpa using hj)
      rwa [show i + (j + 1) = i + 1 + j by omega] at this


theorem funcC_parts {fn : Func} {af : AFunc} (haf : funcC P fn = some af) : ∃ c ac rs, fn.body = some c ∧ (fn.name == "runtime.NumGoroutine") = false ∧ fn.params.size + fn.nfree ≤ fn.ntmps ∧ fn.params.size + fn.nfree ≤ DX ∧ codeC P fn.ntmps c = some ac ∧ ressC P fn.results.toList = some rs ∧ af = ⟨fn.params.size + fn.nfree, rs, ac⟩ := by
  unfold funcC at haf
  split at haf
  · rename_i c hbody
    split at haf
    · cases haf
    · rename_i hname
      split at haf
      · rename_i hnt
        split at haf
        · rename_i ac rs hac hrs
          cases haf
          exact ⟨c, ac, rs, hbody, by simpa using hname, hnt.1, hnt.2, hac, hrs, rfl⟩
        · cases haf
      · cases haf
  · cases haf
theorem enters_of {f : FuncId} {fn : Func} (hf : P.funcs[f]? = some fn) {c : Code} (hbody : fn.body = some c) (hname : (fn.name == "runtime.NumGoroutine") = false) (args : Array Value) (w : World) : (callFunc f args).run P w = .ok (.enter f args) w := by
  simp only [callFunc, Sem.run_bind, run_program, Result.andThen_ok, hf]
  simp only [hname, Bool.false_eq_true, if_false, hbody, Option.isNone_some, Sem.run_pure]
theorem argsTM_DX : ∀ (vs : List V) (i : Nat) (tm : TM), i + vs.length ≤ DX → (argsTM i vs tm).get DX = tm.get DX
  | [], _, _, _ => rfl
  | v :: vs, i, tm, h => by
    simp only [List.length_cons] at h
    unfold argsTM
    rw [argsTM_DX vs (i + 1) _ (by omega), TM.get_set_ne _ _ _ _ (by omega)]
theorem start_act {ρ : Rho} (hg : Glob ρ) {args : List V} {us : Array Value} (hv : VRs ρ args us.toList) {nt : Nat} (h1 : args.length ≤ nt) (h2 : args.length ≤ DX) (ro : Option Nat) : ActR ρ nt ro (argsTM 0 args .nil) { tmps := us ++ Array.replicate (nt - us.size) undef, defers := [] } := by
  have hul : us.size = args.length := by
    have := hv.length
    simp only [Array.length_toList] at this
    omega
  refine ⟨⟨⟨by simp; omega, hg⟩, fun i v _ => ?_⟩, fun _ => ?_⟩
  · refine args_sound hv 0 .nil _ (fun j v' hj => by rw [TM.get_nil] at hj; cases hj) (fun j u hj => ?_) i v
    have hj' : us[j]? = some u := by simpa using hj
    have hlt : j < us.size := (Array.getElem?_eq_some_iff.1 hj').1
    rw [Nat.zero_add, Array.getElem?_append_left hlt]
    exact hj'
  · have : deferred (argsTM 0 args .nil) = [] := by
      unfold deferred
      rw [argsTM_DX _ _ _ (by omega), TM.get_nil]
    rw [this]; exact .nil

/-- The table of functions is the program's; what is said to do nothing when a call ends does nothing. -/
structure TableOk (P : Program) (C : Cfg) : Prop where
  tab : ∀ f af, C.F f = some af → ∃ fn, P.funcs[f]? = some fn ∧ funcC P fn = some af
  idle : ∀ f, C.I f = true → ∀ (args : Array Value) (w : World), (callFunc f args).run P w = .ok (.enter f args) w ∧ ∀ n, CallsDIn Fence.wide n P f args .returning w fun e u' w' => u' = .returning ∧ (∃ v, e = .returned v) ∧ w' = w

theorem setPs_sound {ρ : Rho} {nt : Nat} : ∀ (ps : List Nat) (vs : List V) (us : List Value) (tm tm1 : TM) (A : Array Value), setPs ps vs tm = some tm1 → VRs ρ vs us → TMR ρ nt tm A → (∀ p ∈ ps, dstOk nt (some p) = true) →
    ps.length = us.length ∧ TMR ρ nt tm1 ((ps.zip us).foldl (fun t p => t.setIfInBounds p.1 p.2) A)
  | [], [], _, tm, tm1, A, hs, .nil, ht, hp => by cases hs; exact ⟨rfl, ht⟩
  | p :: ps, v :: vs, _, tm, tm1, A, hs, .cons _ u _ us hv hvs, ht, hp => by
    simp only [setPs] at hs
    have h1 := TMR.put (a := ⟨A, []⟩) ht (hp p List.mem_cons_self) hv
    obtain ⟨q1, q2⟩ := setPs_sound ps vs us (tm.set p v) tm1 _ hs hvs h1 (fun q hq => hp q (List.mem_cons_of_mem _ hq))
    exact ⟨by simp [q1], q2⟩
  | [], _ :: _, _, _, _, _, hs, _, _, _ => by simp [setPs] at hs
  | _ :: _, [], _, _, _, _, hs, _, _, _ => by simp [setPs] at hs

/-- A round of a range. -/
theorem yield_sound {exec : LoopF} (he : LoopOk P B w0 exec) (hlm : LoopHM exec) {b : Nat} {vs : List V} {h h' : Heap} {v : V} (hx : yieldBody exec b vs h = some (v, h')) {ρ : Rho} {w : World} {us : Array Value} {e : Emb} (r : Rel P B w0 ρ h w) (hb : ρ b = some e) (hv : VRs ρ vs us.toList) : YieldSnd P B w0 ρ e.blk us w h v h' := by
  unfold yieldBody at hx
  split at hx
  · rename_i st0 pend0 nt tm ps asg body hg
    obtain ⟨o, q1, q2⟩ := r.obj b e hb
    rw [hg] at q1
    cases q1
    obtain ⟨hB, rec, hrec, hl⟩ := q2
    split at hx
    · rename_i tm1 hset
      obtain ⟨hlen, ht1⟩ := setPs_sound ps vs us.toList tm tm1 rec.tmps hset hv hl.tmr hl.psok
      have hsz : us.size = rec.params.size := by
        have : rec.params.toList.length = us.toList.length := by rw [hl.pars]; exact hlen
        simpa using this.symm
      have hfold : ((rec.params.zip us).foldl (fun tmps (t, a) => tmps.setIfInBounds t a) rec.tmps) = (ps.zip us.toList).foldl (fun t p => t.setIfInBounds p.1 p.2) rec.tmps := by
        rw [← Array.foldl_toList, Array.toList_zip, hl.pars]
      split at hx
      · rename_i tm2 h2 hex1
        have hsz2 := (hlm _ _ _ _ _ _ hex1).size
        split at hx
        · rename_i p1 n1 t1 q1' a1 b1 hg2
          split at hx
          · rename_i ex tmx h3 hex2
            have hsz3 : h2.size ≤ h3.size := (hlm _ _ _ _ _ _ hex2).size
            refine ⟨_, _, _, _, run_yield hrec hsz, fun n => ?_⟩
            refine roundIn_of_wpIn (F := Fence.wide) trivial ?_
            rw [hfold]
            have w1 := (he (some e.blk) n nt rec.assign asg hl.casg (.inr hl.nda) ρ tm1 { tmps := (ps.zip us.toList).foldl (fun t p => t.setIfInBounds p.1 p.2) rec.tmps, defers := [] } h w ⟨ht1, fun h => by cases h⟩ r _ _ _ hex1).1
            refine wpIn_mono (F := Fw (some e.blk)) w1 ?_
            rintro ex1 a' w' ⟨hexr, ρ1, k1, k2, k3⟩
            cases hexr
            have hb1 := k3.1 _ _ hb
            obtain ⟨o2, m1, m2⟩ := k2.obj b e hb1
            rw [hg2] at m1
            cases m1
            obtain ⟨_, rec1, hrec1, hl1⟩ := m2
            have hlt1 : e.blk < w'.heap.size := (Array.getElem?_eq_some_iff.1 hrec1).1
            refine ⟨_, run_beginRound hrec1 hl1.state, ?_⟩
            have k4 : Rel P B w0 ρ1 (h2.put b (.loop .busy p1 n1 t1 q1' a1 b1)) (w'.putObj e.blk (.loop { rec1 with state := .busy })) :=
              k2.setOwn hb1 hg2 rfl (.inl (by simp [Obj.sups])) (fun S hS => by cases hS; rfl) hB _ ⟨hB, { rec1 with state := .busy }, by simp [hlt1], { hl1 with state := rfl }⟩
            have w2 := (he (some e.blk) n nt rec.body body hl.cbody (.inr hl.ndb) ρ1 tm2 a' _ _ k1 k4 _ _ _ hex2).1
            refine wpIn_mono (F := Fw (some e.blk)) w2 ?_
            rintro ex2 a'' w'' ⟨hexr2, ρ2, g1, g2, g3⟩
            have hb2 := g3.1 _ _ hb1
            have hnew : New ρ ρ2 h.size := k3.trans g3 hsz2
            split at hx
            · rename_i st2 pend2 n2 t2 q2' a2 b2 hg3
              obtain ⟨o3, m1, m2⟩ := g2.obj b e hb2
              rw [hg3] at m1
              cases m1
              obtain ⟨_, rec2, hrec2, hl2⟩ := m2
              have hlt2 : e.blk < w''.heap.size := (Array.getElem?_eq_some_iff.1 hrec2).1
              have fin : ∀ (jump : Option Code) (st : LoopState) (pend : Option Ex), (if jump.isNone then LoopState.ready else .done) = st → jump = pendC pend →
                  Rel P B w0 ρ2 (h3.put b (.loop st pend n2 t2 q2' a2 b2)) (w''.putObj e.blk (.loop { rec2 with state := if jump.isNone then .ready else .done, pending := jump })) := by
                intro jump st pend h1 h2
                exact g2.setOwn hb2 hg3 rfl (.inl (by simp [Obj.sups])) (fun S hS => by cases hS; rfl) hB _ ⟨hB, { rec2 with state := if jump.isNone then .ready else .done, pending := jump }, by simp [hlt2], { hl2 with state := h1, pend := h2 }⟩
              cases hexr2 with
              | normal =>
                cases hx
                exact ⟨_, _, run_endRound none hrec2, ρ2, .bool true, fin none .ready none rfl rfl, hnew⟩
              | exit id =>
                cases hx
                exact ⟨_, _, run_endRound (some (.exit id)) hrec2, ρ2, .bool false, fin (some (.exit id)) .done (some (.exit id)) rfl rfl, hnew⟩
              | ret =>
                cases hx
                exact ⟨_, _, run_endRound (some .ret) hrec2, ρ2, .bool false, fin (some .ret) .done (some .ret) rfl rfl, hnew⟩
            · cases hx
          · cases hx
        · cases hx
      · cases hx
    · cases hx
  · cases hx

/-- What is deferred, at a call's end. -/
theorem defers_sound {C : Cfg} (hT : TableOk P C) {exec : LoopF} (he : LoopOk P B w0 exec) (hlm : LoopHM exec) {fn : Func} {tmps : Array Value} {R : Ending → World → Prop} {n : Nat} : ∀ (l : List V) {ds : List Deferred} {ρ : Rho} {h h2 : Heap} {w : World}, DefR ρ l ds → Rel P B w0 ρ h w → runDefers C exec l h = some h2 →
    (∀ ρ' w', Rel P B w0 ρ' h2 w' → New ρ ρ' h.size → ∃ v, (results fn tmps).run P w' = .ok v w' ∧ R (.returned v) w') → LeavesInM Fence.wide n P fn tmps R ds .returning w
  | _, _, ρ, h, h2, w, .nil, r, hx, hq => by
    simp only [runDefers] at hx
    cases hx
    exact hq ρ w r (New.refl _ _)
  | _, _, ρ, h, h2, w, .mark b e rr x ds hb hr t, r, hx, hq => by
    unfold runDefers at hx
    split at hx
    · rename_i hg
      obtain ⟨o, q1, q2⟩ := r.obj b e hb
      rw [hg] at q1
      cases q1
      obtain ⟨hB, hd⟩ := q2
      subst hr
      have r2 : Rel P B w0 ρ (h.put b .dead) (w.putObj e.blk (.deferred none)) := r.setOwn hb hg rfl (.inr rfl) (fun S hS => by cases hS) hB _ trivial
      exact ⟨by simp, .inl ⟨e.blk, _, rfl, run_takeDeferred hd, defers_sound hT he hlm x t r2 hx hq⟩⟩
    · cases hx
  | _, _, ρ, h, h2, w, .call f vs cap as x ds hv t, r, hx, hq => by
    unfold runDefers at hx
    split at hx
    · rename_i hidle
      obtain ⟨q1, q2⟩ := hT.idle f hidle (as ++ cap) w
      refine ⟨by simp, .inr ⟨fw_depth (ro := none), .func f, cap, f, as ++ cap, rfl, q1, fun _ _ => trivial, ?_⟩⟩
      refine (q2 (n - 1)).mono fun e u' w' => ?_
      rintro ⟨rfl, ⟨v, rfl⟩, rfl⟩
      exact defers_sound hT he hlm x t r hx hq
    · split at hx
      · rename_i af haf
        split at hx
        · rename_i hlen
          split at hx
          · cases hx
          · rename_i ex tm h1 hne hex
            split at hx
            · rename_i rs hdef hres
              obtain ⟨fn', hf, hfc⟩ := hT.tab f af haf
              obtain ⟨c, ac, rs', hbody, hname, hnt, hdx, hac, hrs, rfl⟩ := funcC_parts hfc
              simp only at hlen hex hres
              have hsz := (hlm _ _ _ _ _ _ hex).size
              refine ⟨by simp, .inr ⟨fw_depth (ro := none), .func f, cap, f, as ++ cap, rfl, enters_of hf hbody hname _ _, fun _ _ => trivial, ?_⟩⟩
              have hw := (he none (n - 1) fn'.ntmps c ac hac (.inl rfl) ρ (argsTM 0 vs .nil) { tmps := (as ++ cap) ++ Array.replicate (fn'.ntmps - (as ++ cap).size) undef, defers := [] } h w (start_act r.glob hv (by omega) (by omega) none) r _ _ _ hex).1
              refine (callsDIn_of_wp (F := Fence.wide) (R := fun e w' => (∃ v, e = .returned v) ∧ ∃ ρ', Rel P B w0 ρ' h1 w' ∧ New ρ ρ' h.size) hf hbody trivial ?_).mono fun e u' w' => ?_
              · refine wpIn_mono (F := Fence.wide) hw ?_
                rintro e' a' w' ⟨hexr, ρ', k1, k2, k3⟩
                have fin : a'.defers = [] ∧ ∃ v, (results fn' a'.tmps).run P w' = .ok v w' ∧ ((∃ u, Ending.returned v = .returned u) ∧ ∃ ρ', Rel P B w0 ρ' h1 w' ∧ New ρ ρ' h.size) := by
                  have hdr := k1.2 rfl
                  rw [hdef] at hdr
                  obtain ⟨u, g1, _⟩ := results_sound (P := P) k2 k1.1 hrs hres
                  refine ⟨?_, u, g1, ⟨u, rfl⟩, ρ', k2, k3⟩
                  generalize a'.defers = D at hdr
                  cases hdr; rfl
                cases hexr with
                | normal => exact fin
                | exit id => exact absurd rfl (hne id)
                | ret => exact fin
              · rintro ⟨rfl, ⟨v, rfl⟩, ρ', k2, k3⟩
                exact defers_sound hT he hlm x (t.mono k3.1) k2 hx (fun ρ'' w'' g1 g2 => hq ρ'' w'' g1 (k3.trans g2 hsz))
            · cases hx
          · cases hx
        · cases hx
      · cases hx

/-- A function of the program's. -/
theorem body_sound {C : Cfg} (hT : TableOk P C) {exec : LoopF} (he : LoopOk P B w0 exec) (hlm : LoopHM exec) {f : FuncId} {fn : Func} {af : AFunc} (hf : P.funcs[f]? = some fn) (haf : funcC P fn = some af)
    {args : List V} {h : Heap} {v : V} {h' : Heap} (hx : callBody C exec af args h = some (v, h')) {ρ : Rho} {w : World} {us : Array Value} (r : Rel P B w0 ρ h w) (hv : VRs ρ args us.toList) : CallSnd P B w0 ρ f us w h v h' := by
  obtain ⟨c, ac, rs, hbody, hname, hnt, hdx, hac, hrs, rfl⟩ := funcC_parts haf
  unfold callBody at hx
  split at hx
  · rename_i hlen
    simp only at hlen hx
    refine .inl ⟨enters_of hf hbody hname _ _, fun n => ?_⟩
    split at hx
    · cases hx
    · rename_i ex tm h1 hne hex
      split at hx
      · rename_i h2 hdefs
        split at hx
        · rename_i vs hvs
          have hm1 := hlm _ _ _ _ _ _ hex
          have hm2 := HM.defers (C := C) hlm _ hdefs
          refine callsIn_of_wp_marks (F := Fence.wide) hf hbody trivial ?_
          have hw := (he none n fn.ntmps c ac hac (.inl rfl) ρ (argsTM 0 args .nil) { tmps := us ++ Array.replicate (fn.ntmps - us.size) undef, defers := [] } _ w (start_act r.glob hv (by omega) (by omega) none) (r.reset h.size) _ _ _ hex).1
          refine wpIn_mono (F := Fence.wide) hw ?_
          rintro e a' w' ⟨hexr, ρ', q1, q2, q3⟩
          have fin : LeavesInM Fence.wide n P fn a'.tmps (RetE P B w0 ρ h.size v h') a'.defers .returning w' := by
            refine defers_sound hT he hlm _ (q1.2 rfl) q2 hdefs fun ρ2 w2 k1 k2 => ?_
            obtain ⟨u, g1, g2⟩ := results_sound (P := P) k1 (q1.1.mono k2.1) hrs hvs
            refine ⟨u, g1, ?_⟩
            have hcl : closeCall h (oneOf vs) h2 = (v, h') := Option.some.inj hx
            obtain ⟨e1, ρ'', g3, g4, g5⟩ := close_sound r k1 (q3.trans k2 hm1.size) (hm1.trans hm2) g2 hcl
            subst e1
            exact ⟨ρ'', g3, g4, g5⟩
          cases hexr with
          | normal => exact fin
          | exit id => exact absurd rfl (hne id)
          | ret => exact fin
        · cases hx
      · cases hx
    · cases hx
  · cases hx

/-- The summaries are the program's. -/
def SumOk (P : Program) (B : Nat) (w0 : World) (C : Cfg) : Prop :=
  ∀ f args h v h', C.S f args h = some (some (v, h')) → HM h h' ∧ ∀ (ρ : Rho) (w : World) (us : Array Value), Rel P B w0 ρ h w → VRs ρ args us.toList → CallSnd P B w0 ρ f us w h v h'

/-- THE ABSTRACT MACHINE IS SOUND. -/
theorem run_sound {C : Cfg} (hT : TableOk P C) (hS : SumOk P B w0 C) : ∀ n, CallOk P B w0 (run C n).1 ∧ LoopOk P B w0 (run C n).2
  | 0 => by
    refine ⟨⟨?_, ?_⟩, ?_⟩
    · intro f args h v h' hx; simp [run] at hx
    · intro b args h v h' hx; simp [run] at hx
    · intro ro n nt c ac hac hnd ρ tm a h w ht r ex tm' h' hx; simp [run] at hx
  | n + 1 => by
    obtain ⟨h1, h2⟩ := run_sound hT hS n
    obtain ⟨m1, m2⟩ := HM.run C (fun f args h v h' hx => (hS f args h v h' hx).1) n
    have he : LoopOk P B w0 (execC (run C n).1 (run C n).2) := fun ro m nt c ac hac hnd ρ tm a h w ht r ex tm' h' hx => code_sound h1 m1 h2 m2 ro m nt c ac hac hnd ρ tm a h w ht r ex tm' h' hx
    have hlm : LoopHM (execC (run C n).1 (run C n).2) := fun c tm h ex tm' h' hx => HM.exec m1 m2 c hx
    refine ⟨⟨?_, ?_⟩, he⟩
    · intro f args h v h' hx ρ w us r hv
      simp only [run, runF] at hx
      split at hx
      · rename_i q hq
        subst hx
        exact (hS f args h v h' hq).2 ρ w us r hv
      · split at hx
        · rename_i af haf
          obtain ⟨fn, g1, g2⟩ := hT.tab f af haf
          exact body_sound hT he hlm g1 g2 hx r hv
        · cases hx
    · intro b args h v h' hx ρ w us e r hb hv
      simp only [run] at hx
      exact yield_sound he hlm hx r hb hv
end
end Abs
end Go.Proofs.YtmgbcaboljilnaaGreatDoor
