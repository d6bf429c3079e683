/- The abstract machine's runs are the model's: code, calls, all of it. The abstract machine: a run in an empty memory serves in every memory; a law's run. The abstract machine: more rounds tell the same; steps for reasoning. -/
import Derived.Test.YtbjpoelgcehidaaGreatDoorA15c
import Derived.RangeFuncIn
import Derived.RangeFuncLeaves
import Derived.RangeFuncRecord
namespace Go.Proofs.YtbjpoelgcehidaaGreatDoor
namespace Abs
set_option linter.unusedVariables false
set_option linter.unusedSimpArgs false
open Go.RowKit

section
variable {P : Program} {B : Nat} {w0 : World}

def LoopArr (F : Fence) (n : Nat) (P : Program) (c : Code) (Q : Exit → Act → World → Prop) (a : Act) (w : World) : Prop :=
  ∀ (b : Frame) (k : List Item) (cs : List Frame), b.roundOf = F.round → F.fn b.fn → F.room (cs.length + 1 + n) →
    ∃ e a' w', Q e a' w' ∧ ArrivesIn (Machine.fenced P F) P (lone (b.atR a (.code c :: .inLoop c :: k)) cs w) b k cs e a' w'

theorem loop_wp {F : Fence} {n : Nat} {c : Code} {Q : Exit → Act → World → Prop} {a : Act} {w : World} (h : LoopArr F n P c Q a w) : (Code.loop c).wpIn F n P Q a w := by
  intro b k cs hro hb hr
  obtain ⟨e, a', w', hq, harr⟩ := h b k cs hro hb hr
  exact ⟨e, a', w', hq, .of_steps (.one (fenced_calm hb hr rfl) stepR_loop) harr⟩

theorem loop_unroll {F : Fence} {n : Nat} {c : Code} {Q : Exit → Act → World → Prop} {a : Act} {w : World} (h : c.wpIn F n P (Exit.then (fun a' w' => LoopArr F n P c Q a' w') Q) a w) : LoopArr F n P c Q a w := by
  intro b k cs hro hb hr
  obtain ⟨e, a₁, w₁, hq, harr⟩ := h b (.inLoop c :: k) cs hro hb hr
  cases e with
  | normal =>
    obtain ⟨e₂, a₂, w₂, hq₂, harr₂⟩ := hq b k cs hro hb hr
    exact ⟨e₂, a₂, w₂, hq₂, .of_steps (StepsIn.trans harr (.one (fenced_calm hb hr rfl) stepR_inLoop)) harr₂⟩
  | exit id => exact ⟨_, a₁, w₁, hq, .pass (x := .inLoop c) rfl (fun _ _ => .inl (by simp)) harr⟩
  | goto l => exact ⟨_, a₁, w₁, hq, .pass (x := .inLoop c) rfl (fun _ _ => .inl (by simp)) harr⟩
  | ret => exact ⟨_, a₁, w₁, hq, .pass (x := .inLoop c) rfl (fun _ _ => .inl (by simp)) harr⟩
  | panic ch => exact ⟨_, a₁, w₁, hq, .pass (x := .inLoop c) rfl (fun _ _ => .inl (by simp)) harr⟩
  | outgrown => exact ⟨_, a₁, w₁, hq, .pass (x := .inLoop c) rfl (fun _ _ => .inl (by simp)) harr⟩

def Snd (ro : Option Nat) (n : Nat) (P : Program) (c : Code) (Q : Exit → Act → World → Prop) (a : Act) (w : World) : Prop :=
  c.wpIn (Fw ro) n P Q a w ∧ ∀ c', c = .loop c' → LoopArr (Fw ro) n P c' Q a w

theorem Snd.of {ro : Option Nat} {n : Nat} {c : Code} {Q : Exit → Act → World → Prop} {a : Act} {w : World} (h : c.wpIn (Fw ro) n P Q a w) (hc : ∀ c', c ≠ .loop c') : Snd ro n P c Q a w :=
  ⟨h, fun c' e => absurd e (hc c')⟩

theorem LoopArr.mono {F : Fence} {n : Nat} {c : Code} {Q Q' : Exit → Act → World → Prop} {a : Act} {w : World} (h : LoopArr F n P c Q a w) (hq : ∀ e a w, Q e a w → Q' e a w) : LoopArr F n P c Q' a w :=
  fun b k cs hro hb hr => let ⟨e, a', w', q, r⟩ := h b k cs hro hb hr; ⟨e, a', w', hq _ _ _ q, r⟩

def LoopOk (P : Program) (B : Nat) (w0 : World) (L : LoopF) : Prop :=
  ∀ (ro : Option Nat) (n nt : Nat) (c : Code) (ac : AC), codeC P nt c = some ac → (ro = none ∨ ac.noD = true) → ∀ (ρ : Rho) (tm : TM) (a : Act) (h : Heap) (w : World), ActR ρ nt ro tm a → Rel P B w0 ρ h w →
    ∀ (ex : Ex) (tm' : TM) (h' : Heap), L ac tm h = some (ex, tm', h') → Snd ro n P c (Post P B w0 ρ h.size nt ro ex tm' h') a w

theorem TMR.dx {ρ : Rho} {nt : Nat} {tm : TM} {a : Array Value} (h : TMR ρ nt tm a) (v : V) : TMR ρ nt (tm.set DX v) a :=
  ⟨h.1, fun i x hi hx => h.2 i x hi (by rw [← TM.get_set_ne tm DX i v hi]; exact hx)⟩
theorem deferred_push (tm : TM) (x : V) : deferred (pushD tm x) = x :: deferred tm := by
  unfold pushD
  rw [deferred, TM.get_set_same]

theorem wpIn_scope {F : Fence} {n : Nat} {c : Code} {Q : Exit → Act → World → Prop} {a : Act} {w : World} (h : c.wpIn F n P Q a w) (hg : ∀ l a w, ¬ Q (.goto l) a w) : (Code.scope c).wpIn F n P Q a w := by
  intro b k cs hro hb hr
  have s1 : StepsIn (Machine.fenced P F) P (lone (b.atR a (.code (.scope c) :: k)) cs w) (lone (b.atR a (.code c :: .inScope c :: k)) cs w) :=
    .one (fenced_calm hb hr rfl) (step_lone_go (by simp [stepG, stepG.exec, Frame.atR]))
  obtain ⟨e, a₁, w₁, hq, harr⟩ := h b (.inScope c :: k) cs hro hb hr
  refine ⟨e, a₁, w₁, hq, .of_steps s1 ?_⟩
  cases e with
  | normal => exact StepsIn.trans harr (.one (fenced_calm hb hr rfl) (step_lone_go (by simp [stepG, stepG.exec, Frame.atR])))
  | exit id => exact ⟨fun k' hk => harr.1 k' (by simpa [exitTo] using hk), fun hr' hk => harr.2 hr' (by simpa [exitTo] using hk)⟩
  | goto l => exact absurd hq (hg _ _ _)
  | ret => exact harr
  | panic chain => exact harr
  | outgrown => exact harr

/-- A range over a function: one that is entered, or one that answers at once. -/
theorem wpIn_range2 {F : Fence} {n : Nat} {g : Operand} {ps : Array Tmp} {assign body : Code} {Q : Exit → Act → World → Prop} {a : Act} {w : World}
    (h : ∀ fn, F.fn fn → ∃ (l : Nat) (mark : List Deferred) (w₁ : World) (d : Deferred) (w₁' : World),
      (Instr.enterLoop fn a.tmps ps assign body F.round).run P w = .ok (l, mark) w₁ ∧
      (resolve a.eval (rangeCall g l) 0).run P w₁ = .ok d w₁' ∧
      (∀ f', Target.leads P w₁' d.target d.args = some f' → F.fn f') ∧
      ((∃ f args w₂, (invoke d.target d.args).run P w₁' = .ok (.enter f args) w₂ ∧ (F.depth.isSome = true → 1 ≤ n) ∧ CallsIn F (n - 1) P f args w₂ (rangePost F n P l Q { a with defers := mark ++ a.defers })) ∨
       (∃ v w₂, (invoke d.target d.args).run P w₁' = .ok (.value v) w₂ ∧ rangePost F n P l Q { a with defers := mark ++ a.defers } (.returned v) w₂))) :
    (Code.rangeFunc g ps assign body).wpIn F n P Q a w := by
  intro b k cs hro hb hr
  obtain ⟨l, mark, w₁, d, w₁', he, hres, hlead, hcase⟩ := h b.fn hb
  rw [← hro] at he
  have h0 : (lone (b.atR a (.code (.rangeFunc g ps assign body) :: k)) cs w).fenced P F := by
    refine fenced_lone (.inl hb) (fun f' hf' => hlead f' ?_) (Fence.room_le hr (by omega))
    have hev := Frame.eval_atR b a (.code (.rangeFunc g ps assign body) :: k)
    simp only [Frame.atR] at hev
    simp only [Frame.about, Frame.atR, he, hev, hres] at hf'
    exact hf'
  rcases hcase with ⟨f, args, w₂, hinv, hn, hF, hcall⟩ | ⟨v, w₂, hinv, jump, w₄, hend, hj⟩
  · have henter := stepR_rangeFunc (P := P) (b := b) (a := a) (k := k) (cs := cs) (w := w) he hres hinv
    have hroom : F.room ((b.atR { a with defers := mark ++ a.defers } (.inRangeFunc l :: k) :: cs).length + 1 + (n - 1)) := Fence.room_enter hr hn
    obtain ⟨e, w₃, fr, hR, hsteps, hfn, hleave⟩ := hcall (b.atR { a with defers := mark ++ a.defers } (.inRangeFunc l :: k) :: cs) hroom
    cases e with
    | outgrown =>
      obtain ⟨a₀, w₀, hq⟩ := hR
      exact ⟨.outgrown, a₀, w₀, hq, .inr (Outgrown.of_steps (.one henter) hsteps)⟩
    | returned v =>
      have hl : (lone fr (b.atR { a with defers := mark ++ a.defers } (.inRangeFunc l :: k) :: cs) w₃).fenced P F := fenced_leaving (hfn ▸ hF) hroom hleave
      obtain ⟨jump, w₄, hend, hj⟩ := hR
      have sback : StepsIn (Machine.fenced P F) P (lone (b.atR a (.code (.rangeFunc g ps assign body) :: k)) cs w) (lone (b.atR { a with defers := mark ++ a.defers } ((jump.map Item.code).toList ++ k)) cs w₄) := by
        refine .head h0 henter (StepsIn.trans hsteps (.head hl ?_ (.one (fenced_calm (fr := b.atR { a with defers := mark ++ a.defers } (.endRangeFunc l :: k)) hb hr rfl) (stepR_endRangeFunc hend))))
        rw [← finish_atR_inRangeFunc l v]; exact step_leave_returned hleave
      cases jump with
      | none => exact ⟨.normal, _, w₄, hj, sback⟩
      | some c =>
        obtain ⟨e', a'', w₅, hq, harr⟩ := hj b k cs hro hb hr
        exact ⟨e', a'', w₅, hq, .of_steps sback harr⟩
    | panicked chain =>
      have hl : (lone fr (b.atR { a with defers := mark ++ a.defers } (.inRangeFunc l :: k) :: cs) w₃).fenced P F := fenced_leaving (hfn ▸ hF) hroom hleave
      refine ⟨.panic chain, _, w₃, hR, .inRangeFunc l :: k, .head h0 henter (StepsIn.trans hsteps (.one hl ?_))⟩
      rw [← Frame.raise_atR]; exact step_leave_panicked hleave
  · have henter : step P (lone (b.atR a (.code (.rangeFunc g ps assign body) :: k)) cs w) = .next (lone ((b.atR { a with defers := mark ++ a.defers } (.inRangeFunc l :: k)).finish v) cs w₂) :=
      step_lone_go (by
        have hev := Frame.eval_atR b { a with defers := mark ++ a.defers } (.inRangeFunc l :: k)
        simp only [Frame.atR] at hev
        have hres' : Sem.run P (resolve ({ tmps := a.tmps, defers := mark ++ a.defers } : Act).eval { callee := .value g, args := #[.const (.func (.yield l) #[] #[])], argTypes := #[] } 0) w₁ = .ok d w₁' := hres
        simp [stepG, stepG.exec, Frame.atR, Sem.runT_eq, he, GStep.bare_after, stepG.apply, hev, Sem.run_bind, hres', hinv, Result.andThen])
    rw [finish_atR_inRangeFunc] at henter
    have sback : StepsIn (Machine.fenced P F) P (lone (b.atR a (.code (.rangeFunc g ps assign body) :: k)) cs w) (lone (b.atR { a with defers := mark ++ a.defers } ((jump.map Item.code).toList ++ k)) cs w₄) :=
      .head h0 henter (.one (fenced_calm (fr := b.atR { a with defers := mark ++ a.defers } (.endRangeFunc l :: k)) hb hr rfl) (stepR_endRangeFunc hend))
    cases jump with
    | none => exact ⟨.normal, _, w₄, hj, sback⟩
    | some c =>
      obtain ⟨e', a'', w₅, hq, harr⟩ := hj b k cs hro hb hr
      exact ⟨e', a'', w₅, hq, .of_steps sback harr⟩

theorem lastD_spec : ∀ {l pre : List Oper} {c : Call}, lastD l = some (pre, c) → ∃ o, l = pre ++ [o] ∧ o.op = .defer c ∧ o.guard = none ∧ o.dst = none
  | [], _, _, h => by cases h
  | [o], pre, c, h => by
    simp only [lastD] at h
    split at h
    · rename_i c' h1 h2 h3
      cases h
      exact ⟨o, rfl, h1, h2, h3⟩
    · cases h
  | o :: o2 :: r, pre, c, h => by
    simp only [lastD] at h
    split at h
    · rename_i l c' hl
      cases h
      obtain ⟨x, h1, h2⟩ := lastD_spec hl
      exact ⟨x, by rw [h1]; rfl, h2⟩
    · cases h

/-- Behind the call of a range's function. -/
theorem range_end {ρ ρ2 ρ3 : Rho} {n nt : Nat} {tm : TM} {a : Act} {h h' : Heap} {w3 : World} {D l : Nat} {e0 e1 : Emb} (ht : ActR ρ nt none tm a) (r3 : Rel P B w0 ρ3 h' w3) (hn : New ρ2 ρ3 (h.size + 2)) (hn2 : New ρ ρ2 h.size) (he0 : ρ2 h.size = some e0) (hD : e0.blk = D) (he1 : ρ2 (h.size + 1) = some e1) (hl : e1.blk = l)
    {st : LoopState} {pend : Option Ex} {n1 : Nat} {t1 : TM} {p1 : List Nat} {a1 b1 : AC} (hg : h'.get (h.size + 1) = some (.loop st pend n1 t1 p1 a1 b1)) (hst : st ≠ .busy) (u : Value) :
    rangePost (Fw none) n P l (Post P B w0 ρ h.size nt none (exOf pend) (pushMark tm h.size) (h'.put (h.size + 1) .dead)) { a with defers := [{ target := .collected D, args := #[] }] ++ a.defers } (.returned u) w3 := by
  have he1' := hn.1 _ _ he1
  obtain ⟨o, q1, q2⟩ := r3.obj _ _ he1'
  rw [hg] at q1
  cases q1
  obtain ⟨hB, rec, q3, q4⟩ := q2
  subst hl
  have hend := run_endLoop (P := P) q3 (by rw [q4.state]; exact hst)
  have r4 : Rel P B w0 ρ3 (h'.put (h.size + 1) .dead) (w3.putObj e1.blk (.loop { rec with state := .exhausted })) :=
    r3.setOwn he1' hg rfl (.inr rfl) (fun S hS => by cases hS) hB _ trivial
  have hle : RLe ρ ρ3 := fun b e hb => hn.1 _ _ (hn2.1 _ _ hb)
  have hnew : New ρ ρ3 h.size := ⟨hle, fun b e hb => by
    rcases hn.2 b e hb with q | q
    · exact hn2.2 b e q
    · exact .inr (by omega)⟩
  have hact : ActR ρ3 nt none (pushMark tm h.size) { a with defers := [{ target := .collected D, args := #[] }] ++ a.defers } := by
    refine ⟨(ht.1.mono hle).dx _, fun _ => ?_⟩
    unfold pushMark
    rw [deferred_push]
    exact .mark _ e0 _ _ _ (hn.1 _ _ he0) hD.symm ((ht.2 rfl).mono hle)
  refine ⟨_, _, hend, ?_⟩
  have hpd := q4.pend
  split
  · rename_i hn
    rw [hpd] at hn
    cases pend with
    | none => exact ⟨.normal, ρ3, hact, r4, hnew⟩
    | some x => cases x with
      | normal => exact ⟨.normal, ρ3, hact, r4, hnew⟩
      | exit id => cases hn
      | ret => cases hn
  · rename_i c hn
    rw [hpd] at hn
    cases pend with
    | none => cases hn
    | some x => cases x with
      | normal => cases hn
      | exit id => cases hn; exact wpIn_exit ⟨.exit id, ρ3, hact, r4, hnew⟩
      | ret => cases hn; exact wpIn_ret ⟨.ret, ρ3, hact, r4, hnew⟩

/-- A range over a function of the program's. -/
theorem range_sound {call : CallF} (hc : CallOk P B w0 call) {n nt : Nat} {f : Operand} {ps : Array Tmp} {asg body : Code} {ρ : Rho} {tm : TM} {a : Act} {h h3 : Heap} {w : World} {v3 : V} (ht : ActR ρ nt none tm a) (r : Rel P B w0 ρ h w) {fid : FuncId} {fi cp : Array Value} {first caps : List V} (hcr : a.eval f = .func (.func fid) fi cp) (hv1 : VRs ρ first fi.toList) (hv2 : VRs ρ caps cp.toList)
    {aa ab : AC} (haa : codeC P nt asg = some aa) (hab : codeC P nt body = some ab) (c1 : (ps.all fun p => dstOk nt (some p)) = true) (c2 : aa.noD = true) (c3 : ab.noD = true) (hcall : call (.fn fid) (first ++ [.yld (h.size + 1)] ++ caps) ((h.push .dfr).push (.loop .ready none nt tm ps.toList aa ab)) = some (v3, h3))
    {st : LoopState} {pend : Option Ex} {n1 : Nat} {t1 : TM} {p1 : List Nat} {a1 b1 : AC} (hg : h3.get (h.size + 1) = some (.loop st pend n1 t1 p1 a1 b1)) (hst : st ≠ .busy) :
    (Code.rangeFunc f ps asg body).wpIn (Fw none) n P (Post P B w0 ρ h.size nt none (exOf pend) (pushMark tm h.size) (h3.put (h.size + 1) .dead)) a w := by
  have hnone : ρ h.size = none := r.none_at
  have e1 : (h.push .dfr).get h.size = some .dfr := by rw [Heap.get_push, if_pos rfl]
  have r1 := (r.push .dfr).lay hnone (by rw [Heap.size_push]; omega) e1 (.deferred (some [])) 0 ⟨r.base, World.alloc_heap_new w _⟩
  generalize hρ1 : Rho.with_ ρ h.size ⟨w.heap.size, 0, 0⟩ = ρ1 at r1
  have hle1 : RLe ρ ρ1 := by rw [← hρ1]; exact with_le hnone
  have hnone2 : ρ1 (h.size + 1) = none := r1.none_at
  have hsz1 : (w.alloc (.deferred (some []))).heap.size = w.heap.size + 1 := World.size_alloc _ _
  have e2 : ((h.push .dfr).push (.loop .ready none nt tm ps.toList aa ab)).get (h.size + 1) = some (.loop .ready none nt tm ps.toList aa ab) := by rw [Heap.get_push, if_pos (by rw [Heap.size_push])]
  let W : FuncId → World := fun fn => (w.alloc (.deferred (some []))).alloc (.loop { state := .ready, pending := none, fn, tmps := a.tmps, params := ps, assign := asg, body, defers := w.heap.size })
  have hsnd : ∀ fn : FuncId, ∃ ρ2 e0 el, ρ2 h.size = some e0 ∧ e0.blk = w.heap.size ∧ ρ2 (h.size + 1) = some el ∧ el.blk = w.heap.size + 1 ∧ New ρ ρ2 h.size ∧
      Rel P B w0 ρ2 ((h.push .dfr).push (.loop .ready none nt tm ps.toList aa ab)) (W fn) := by
    intro fn
    have hle2 := with_le (e := ⟨(w.alloc (.deferred (some []))).heap.size, 0, 0⟩) hnone2
    have r2 := (r1.push (.loop .ready none nt tm ps.toList aa ab)).lay hnone2 (by rw [Heap.size_push, Heap.size_push]; omega) e2 (.loop { state := .ready, pending := none, fn, tmps := a.tmps, params := ps, assign := asg, body, defers := w.heap.size }) 0
      ⟨r1.base, _, World.alloc_heap_new _ _, ⟨rfl, rfl, (ht.1.mono hle1).mono hle2, rfl, fun p hp => by
        have := Array.all_eq_true'.1 c1 p (by simpa using hp)
        exact this, haa, hab, c2, c3⟩⟩
    refine ⟨_, ⟨w.heap.size, 0, 0⟩, ⟨(w.alloc (.deferred (some []))).heap.size, 0, 0⟩, ?_, rfl, with_same, hsz1, ⟨fun b e hb => hle2 _ _ (hle1 _ _ hb), ?_⟩, r2⟩
    · exact hle2 _ _ (by rw [← hρ1]; exact with_same)
    · intro b e hb
      unfold Rho.with_ at hb
      by_cases q : b = h.size + 1
      · exact .inr (by omega)
      · rw [if_neg q, ← hρ1] at hb
        unfold Rho.with_ at hb
        by_cases q2 : b = h.size
        · exact .inr (by omega)
        · rw [if_neg q2] at hb; exact .inl hb
  have hcallsnd : ∀ fn : FuncId, ∃ ρ2 e0 el, ρ2 h.size = some e0 ∧ e0.blk = w.heap.size ∧ ρ2 (h.size + 1) = some el ∧ el.blk = w.heap.size + 1 ∧ New ρ ρ2 h.size ∧
      CallSnd P B w0 ρ2 fid (fi ++ #[.func (.yield (w.heap.size + 1)) #[] #[]] ++ cp) (W fn) ((h.push .dfr).push (.loop .ready none nt tm ps.toList aa ab)) v3 h3 := by
    intro fn
    obtain ⟨ρ2, e0, el, g1, g2, g3, g4, g5, g6⟩ := hsnd fn
    refine ⟨ρ2, e0, el, g1, g2, g3, g4, g5, hc.fn _ _ _ _ _ hcall ρ2 _ _ g6 ?_⟩
    simp only [Array.toList_append]
    exact ((hv1.mono g5.1).append (.cons _ _ _ _ (.yld _ el _ g3 g4.symm) .nil)).append (hv2.mono g5.1)
  have hsize : ((h.push .dfr).push (.loop .ready none nt tm ps.toList aa ab)).size = h.size + 2 := rfl
  have hres : ∀ fn : FuncId, (resolve a.eval (rangeCall f (w.heap.size + 1)) 0).run P (W fn) = .ok { target := .fn (.func fid) cp, args := fi ++ #[.func (.yield (w.heap.size + 1)) #[] #[]] } (W fn) := by
    intro fn
    have hm1 : Array.map a.eval #[Operand.const (.func (.yield (w.heap.size + 1)) #[] #[])] = #[.func (.yield (w.heap.size + 1)) #[] #[]] := by simp [Act.eval]
    simp only [resolve, hcr, Deferred.ofValue, Sem.run_bind, Sem.run_pure, Result.andThen_ok, hm1]
  refine wpIn_range2 ?_
  intro fn _
  obtain ⟨ρ2, e0, el, g1, g2, g3, g4, g5, g6⟩ := hcallsnd fn
  refine ⟨_, _, _, _, _, run_enterLoop_outer _ _ _ _ _, hres fn, fun _ _ => trivial, ?_⟩
  rcases g6 with ⟨q1, q2⟩ | ⟨u, w', q1, ρ3, s1, s2, s3⟩
  · refine .inl ⟨fid, _, _, by simp only [invoke]; exact q1, fw_depth, ?_⟩
    obtain ⟨m1, m2⟩ := calls_fw (ro := none) (q2 (n - 1))
    refine ⟨m1, fun cs hr => ?_⟩
    obtain ⟨e', w', fr, s1, s2, s3, s4⟩ := m2 cs hr
    refine ⟨e', w', fr, ?_, s2, s3, s4⟩
    cases e' with
    | returned u =>
      obtain ⟨ρ3, s1, s2, s3⟩ := s1
      exact range_end ht s2 (hsize ▸ s3) g5 g1 g2 g3 g4 hg hst u
    | panicked c => exact s1.elim
    | outgrown => exact s1.elim
  · exact .inr ⟨u, w', by simp only [invoke]; exact q1, range_end ht s2 (hsize ▸ s3) g5 g1 g2 g3 g4 hg hst u⟩

theorem code_sound {call : CallF} {L : LoopF} (hc : CallOk P B w0 call) (hm : CallHM call) (hl : LoopOk P B w0 L) (hlm : LoopHM L) (ro : Option Nat) (n nt : Nat) :
    ∀ (c : Code) (ac : AC), codeC P nt c = some ac → (ro = none ∨ ac.noD = true) → ∀ (ρ : Rho) (tm : TM) (a : Act) (h : Heap) (w : World), ActR ρ nt ro tm a → Rel P B w0 ρ h w →
    ∀ (ex : Ex) (tm' : TM) (h' : Heap), execC call L ac tm h = some (ex, tm', h') → Snd ro n P c (Post P B w0 ρ h.size nt ro ex tm' h') a w := by
  intro c
  induction c with
  | skip =>
    intro ac hac hnd ρ tm a h w ht r ex tm' h' hx
    cases hac
    cases hx
    exact .of (wpIn_skip ⟨.normal, ρ, ht, r, New.refl _ _⟩) (fun _ e => by cases e)
  | region id ops draw =>
    intro ac hac hnd ρ tm a h w ht r ex tm' h' hx
    cases draw with
    | false =>
      simp only [codeC] at hac
      split at hac
      · rename_i pre cl hld
        obtain ⟨od, k1, k2, k3, k4⟩ := lastD_spec hld
        split at hac
        · rename_i l g hops hcal
          split at hac
          · rename_i f args hf hargs
            cases hac
            have hro : ro = none := hnd.resolve_right (by simp [AC.noD])
            subst hro
            unfold execC at hx
            split at hx
            · rename_i tm2 h2 hx2
              unfold execC at hx2
              split at hx2
              · rename_i tm3 h3 hrun
                cases hx2
                unfold execC at hx
                split at hx
                · rename_i fid first caps vs hev hevs
                  cases hx
                  refine .of (wpIn_region ?_) (fun _ e => by cases e)
                  have hpl : ∀ j o, pre[j]? = some o → ops[0 + j]? = some o := by
                    intro j o hj
                    rw [Nat.zero_add, ← Array.getElem?_toList, k1, List.getElem?_append_left (List.getElem?_eq_some_iff.1 hj).1]
                    exact hj
                  have hlast : ops[pre.length]? = some od := by
                    rw [← Array.getElem?_toList, k1]; simp
                  have hrange : List.range ops.size = List.range' 0 pre.length ++ [pre.length] := by
                    rw [← Array.length_toList, k1, List.length_append, List.length_singleton, List.range_succ, List.range_eq_range']
                  rw [hrange]
                  refine ops_sound (P := P) hc hm (ro := none) (n := n) (ops := ops) pre 0 hpl hops ht r hrun (fun a' w' ρ' q2 q3 q4 => ?_)
                  simp only [wpOpsIn, hlast]
                  have hwant : Region.wanted od (yielded ops a'.tmps) = true := by unfold Region.wanted; rw [k3]
                  rw [if_pos hwant]
                  refine ⟨about_ok, ?_⟩
                  have hg' := ev_sound q2.1 hf hev
                  have has' := evs_sound q2.1 hargs hevs
                  obtain ⟨callee, as, ts⟩ := cl
                  simp only at hcal
                  subst hcal
                  cases hcr : a'.eval g <;> rw [hcr] at hg'
                  case func fn fi cp =>
                    cases hg' with
                    | func _ _ _ _ _ h1 h2 =>
                    have hrun2 : (Oper.semAt (Fw none).round a'.eval od).run P w' = .ok (.defer { target := .fn (.func fid) cp, args := fi ++ as.map a'.eval }) w' := by
                      show (Oper.semAt none a'.eval od).run P w' = _
                      rw [Oper.semAt_none]
                      simp only [execOp, k2, resolve, hcr, Deferred.ofValue, Sem.run_bind, Sem.run_pure, Result.andThen_ok]
                    rw [hrun2, Oper.uponIn_defer, k4]
                    refine ⟨.normal, ρ', ⟨?_, fun _ => ?_⟩, q3, q4⟩
                    · exact q2.1.dx _
                    · rw [deferred_push]
                      refine .call fid _ cp (fi ++ as.map a'.eval) _ _ ?_ (q2.2 rfl)
                      simp only [Array.toList_append, Array.toList_map]
                      exact (h1.append has').append h2
                  all_goals cases hg'
                · cases hx
              · cases hx2
            · rename_i hne
              exfalso
              unfold execC at hx
              split at hx
              · exact hne _ _ (by unfold execC; rename_i q; rw [q])
              · cases hx
          · cases hac; cases hx
        · cases hac; cases hx
      · split at hac
        · rename_i l hops
          cases hac
          unfold execC at hx
          split at hx
          · rename_i tm2 h2 hrun
            cases hx
            refine .of (wpIn_region ?_) (fun _ e => by cases e)
            have := ops_sound (P := P) hc hm (ro := ro) (n := n) (ops := ops) ops.toList 0 (fun j o hj => by simpa using hj) hops ht r hrun (rest := [])
              (Q := Post P B w0 ρ h.size nt ro .normal tm' h') (fun a' w' ρ' q2 q3 q4 => ⟨.normal, ρ', q2, q3, q4⟩)
            rw [List.range_eq_range', ← Array.length_toList, ← List.append_nil (List.range' _ _)]
            exact this
          · cases hx
        · cases hac; cases hx
    | true =>
      simp only [codeC] at hac
      split at hac
      · rename_i hmix
        split at hac
        · rename_i l hdl
          cases hac
          unfold execC at hx
          split at hx
          · rename_i tm2 h2 hrun
            cases hx
            exact .of (draw_sound hc hm hmix hdl ht r hrun (fun a' w' ρ' q2 q3 q4 => ⟨.normal, ρ', q2, q3, q4⟩)) (fun _ e => by cases e)
          · cases hx
        · cases hac; cases hx
      · cases hac; cases hx
  | seq x y ihx ihy =>
    intro ac hac hnd ρ tm a h w ht r ex tm' h' hx
    simp only [codeC] at hac
    split at hac
    · rename_i ax ay hax hay
      cases hac
      have hnd1 : ro = none ∨ ax.noD = true := hnd.imp id fun q => by simp only [AC.noD, Bool.and_eq_true] at q; exact q.1
      have hnd2 : ro = none ∨ ay.noD = true := hnd.imp id fun q => by simp only [AC.noD, Bool.and_eq_true] at q; exact q.2
      refine .of (wpIn_seq ?_) (fun _ e => by cases e)
      unfold execC at hx
      split at hx
      · rename_i tm2 h2 hx2
        have hsz := (HM.exec hm hlm ax hx2).size
        refine wpIn_mono (ihx ax hax hnd1 ρ tm a h w ht r _ _ _ hx2).1 ?_
        rintro e a' w' ⟨he, ρ', q1, q2, q3⟩
        cases he
        refine wpIn_mono (ihy ay hay hnd2 ρ' tm2 a' h2 w' q1 q2 _ _ _ hx).1 ?_
        rintro e a'' w'' ⟨he2, ρ'', g1, g2, g3⟩
        exact ⟨he2, ρ'', g1, g2, q3.trans g3 hsz⟩
      · rename_i hnn
        refine wpIn_mono (ihx ax hax hnd1 ρ tm a h w ht r _ _ _ hx).1 ?_
        rintro e a' w' ⟨he, ρ', q1, q2, q3⟩
        cases he with
        | normal => exact absurd hx (hnn _ _)
        | exit id => exact ⟨.exit id, ρ', q1, q2, q3⟩
        | ret => exact ⟨.ret, ρ', q1, q2, q3⟩
    · cases hac
  | cond cx x y ihx ihy =>
    intro ac hac hnd ρ tm a h w ht r ex tm' h' hx
    simp only [codeC] at hac
    split at hac
    · rename_i acx ax ay hcx hax hay
      cases hac
      have hnd1 : ro = none ∨ ax.noD = true := hnd.imp id fun q => by simp only [AC.noD, Bool.and_eq_true] at q; exact q.1
      have hnd2 : ro = none ∨ ay.noD = true := hnd.imp id fun q => by simp only [AC.noD, Bool.and_eq_true] at q; exact q.2
      refine .of ?_ (fun _ e => by cases e)
      unfold execC at hx
      split at hx
      · rename_i t hev
        have hv := ev_sound ht.1 hcx hev
        have hcr : a.eval cx = .bool t := by
          cases hcr : a.eval cx <;> rw [hcr] at hv <;> cases hv
          rfl
        refine wpIn_cond hcr ?_
        cases t with
        | true => exact (ihx ax hax hnd1 ρ tm a h w ht r _ _ _ hx).1
        | false => exact (ihy ay hay hnd2 ρ tm a h w ht r _ _ _ (by simpa using hx)).1
      · cases hx
    · cases hac
  | block id c ih =>
    intro ac hac hnd ρ tm a h w ht r ex tm' h' hx
    simp only [codeC] at hac
    split at hac
    · rename_i ac' hac'
      cases hac
      refine .of (wpIn_block ?_) (fun _ e => by cases e)
      unfold execC at hx
      split at hx
      · rename_i i tm2 h2 hx2
        cases hx
        refine wpIn_mono (ih ac' hac' hnd ρ tm a h w ht r _ _ _ hx2).1 ?_
        rintro e a' w' ⟨he, ρ', q1, q2, q3⟩
        cases he
        by_cases hi : i = id
        · simp only [Exit.inBlock, hi, if_true]; exact ⟨.normal, ρ', q1, q2, q3⟩
        · simp only [Exit.inBlock, hi, if_false]; exact ⟨.exit i, ρ', q1, q2, q3⟩
      · rename_i hne
        refine wpIn_mono (ih ac' hac' hnd ρ tm a h w ht r _ _ _ hx).1 ?_
        rintro e a' w' ⟨he, ρ', q1, q2, q3⟩
        cases he with
        | normal => exact ⟨.normal, ρ', q1, q2, q3⟩
        | exit i => exact absurd hx (hne _ _ _)
        | ret => exact ⟨.ret, ρ', q1, q2, q3⟩
    · cases hac
  | loop c ih =>
    intro ac hac hnd ρ tm a h w ht r ex tm' h' hx
    have hac0 := hac
    simp only [codeC] at hac
    split at hac
    · rename_i ac' hac'
      cases hac
      have key : LoopArr (Fw ro) n P c (Post P B w0 ρ h.size nt ro ex tm' h') a w := by
        refine loop_unroll ?_
        unfold execC at hx
        split at hx
        · rename_i tm2 h2 hx2
          have hsz := (HM.exec hm hlm ac' hx2).size
          refine wpIn_mono (ih ac' hac' hnd ρ tm a h w ht r _ _ _ hx2).1 ?_
          rintro e a' w' ⟨he, ρ', q1, q2, q3⟩
          cases he
          have := (hl ro n nt (.loop c) (.loop ac') hac0 hnd ρ' tm2 a' h2 w' q1 q2 _ _ _ hx).2 c rfl
          refine this.mono ?_
          rintro e a'' w'' ⟨he2, ρ'', g1, g2, g3⟩
          exact ⟨he2, ρ'', g1, g2, q3.trans g3 hsz⟩
        · rename_i hnn
          refine wpIn_mono (ih ac' hac' hnd ρ tm a h w ht r _ _ _ hx).1 ?_
          rintro e a' w' ⟨he, ρ', q1, q2, q3⟩
          cases he with
          | normal => exact absurd hx (hnn _ _)
          | exit id => exact ⟨.exit id, ρ', q1, q2, q3⟩
          | ret => exact ⟨.ret, ρ', q1, q2, q3⟩
      exact ⟨loop_wp key, fun c' e => by cases e; exact key⟩
    · cases hac
  | exit id =>
    intro ac hac hnd ρ tm a h w ht r ex tm' h' hx
    cases hac
    cases hx
    exact .of (wpIn_exit ⟨.exit id, ρ, ht, r, New.refl _ _⟩) (fun _ e => by cases e)
  | ret =>
    intro ac hac hnd ρ tm a h w ht r ex tm' h' hx
    cases hac
    cases hx
    exact .of (wpIn_ret ⟨.ret, ρ, ht, r, New.refl _ _⟩) (fun _ e => by cases e)
  | rangeFunc f ps asg body _ _ =>
    intro ac hac hnd ρ tm a h w ht r ex tm' h' hx
    simp only [codeC] at hac
    split at hac
    · rename_i f' aa ab hf haa hab
      split at hac
      · rename_i hcond
        obtain ⟨c1, c2, c3⟩ := hcond
        cases hac
        have hro : ro = none := hnd.resolve_right (by simp [AC.noD])
        subst hro
        unfold execC at hx
        split at hx
        · rename_i fid first caps hev
          split at hx
          · rename_i v3 h3 hcall
            split at hx
            · rename_i st pend n1 t1 p1 a1 b1 hg
              have hst : st ≠ .busy := by rintro rfl; cases hx
              have hx2 : exOf pend = ex ∧ pushMark tm h.size = tm' ∧ h3.put (h.size + 1) .dead = h' := by
                cases st <;> first | exact absurd rfl hst | (simp only [Option.some.injEq, Prod.mk.injEq] at hx; exact hx)
              obtain ⟨rfl, rfl, rfl⟩ := hx2
              refine .of ?_ (fun _ e => by cases e)
              have hg' := ev_sound ht.1 hf hev
              cases hcr : a.eval f <;> rw [hcr] at hg'
              case func fn0 fi cp =>
                cases hg' with
                | func _ _ _ _ _ hv1 hv2 =>
                exact range_sound hc ht r hcr hv1 hv2 haa hab c1 c2 c3 hcall hg hst
              all_goals cases hg'
            · cases hx
          · cases hx
        · cases hx
      · cases hac; cases hx
    · cases hac; cases hx
  | scope c ih =>
    intro ac hac hnd ρ tm a h w ht r ex tm' h' hx
    simp only [codeC] at hac
    refine .of (wpIn_scope (ih ac hac hnd ρ tm a h w ht r ex tm' h' hx).1 ?_) (fun _ e => by cases e)
    rintro l a w ⟨he, _⟩
    cases he
  | label l =>
    intro ac hac hnd ρ tm a h w ht r ex tm' h' hx
    cases hac
    cases hx
    exact .of (wpIn_label ⟨.normal, ρ, ht, r, New.refl _ _⟩) (fun _ e => by cases e)
  | goto => intro ac hac hnd ρ tm a h w ht r ex tm' h' hx; cases hac; cases hx
  | refuse => intro ac hac hnd ρ tm a h w ht r ex tm' h' hx; cases hac; cases hx

/-! ### A call's end -/
theorem Rel.reset {ρ : Rho} {h : Heap} {w : World} (r : Rel P B w0 ρ h w) (l : Nat) : Rel P B w0 ρ { h with low := l } w := r.congr rfl fun _ => rfl

theorem CellFacts.narrow {ρ ρ' : Rho} {w w' : World} {e : Emb} {cs : List V} {n : Nat} (hn : ∀ b e, b < n → ρ' b = some e → ρ b = some e) (hd : ∀ b e, ρ b = some e → b < n) (h0 : CellFacts ρ w e cs) (h1 : CellFacts ρ' w' e cs) : CellFacts ρ w' e cs := by
  intro i v hv
  obtain ⟨u0, _, q0⟩ := h0 i v hv
  obtain ⟨u1, q1, q2⟩ := h1 i v hv
  exact ⟨u1, q1, q2.narrow hn (q0.scope hd)⟩
theorem MR.narrow {ρ ρ' : Rho} {n : Nat} (hn : ∀ b e, b < n → ρ' b = some e → ρ b = some e) (hd : ∀ b e, ρ b = some e → b < n) : ∀ {x : List (V × V)} {y z : List MapEntry}, MR ρ x y → MR ρ' x z → MR ρ x z
  | [], [], [], _, _ => trivial
  | (k, v) :: x, m :: y, m' :: z, h0, h1 => ⟨h1.1.narrow hn (h0.1.scope hd), h1.2.1.narrow hn (h0.2.1.scope hd), MR.narrow hn hd h0.2.2 h1.2.2⟩
  | [], _ :: _, _, h0, _ => h0.elim
  | _ :: _, [], _, h0, _ => h0.elim
  | [], [], _ :: _, _, h1 => h1.elim
  | _ :: _, _ :: _, [], _, h1 => h1.elim
theorem ORel.narrow {ρ ρ' : Rho} {w w' : World} {e : Emb} {o : Obj} {n : Nat} (hn : ∀ b e, b < n → ρ' b = some e → ρ b = some e) (hd : ∀ b e, ρ b = some e → b < n) (h0 : ORel P B ρ w e o) (h1 : ORel P B ρ' w' e o) : ORel P B ρ w' e o := by
  cases o with
  | cells cs st => cases st with
    | ro => exact ⟨h1.1, h0.2.narrow hn hd h1.2⟩
    | tip S fz ty => exact ⟨h1.1, h0.2.1.narrow hn hd h1.2.1, h1.2.2⟩
    | sup => exact CellFacts.narrow hn hd h0 h1
  | map es bs cl =>
    obtain ⟨_, ces0, q0, q1, _⟩ := h0
    obtain ⟨g0, ces, g1, g2, g3⟩ := h1
    exact ⟨g0, ces, g1, MR.narrow hn hd q1 g2, g3⟩
  | loop st pend nt tm ps asg body =>
    obtain ⟨_, r0, q0, q1⟩ := h0
    obtain ⟨g0, r, g1, g2⟩ := h1
    refine ⟨g0, r, g1, { g2 with tmr := ⟨⟨g2.tmr.1.1, q1.tmr.1.2⟩, fun i v hi hv => ?_⟩ }⟩
    obtain ⟨u0, _, k0⟩ := q1.tmr.2 i v hi hv
    obtain ⟨u1, k1, k2⟩ := g2.tmr.2 i v hi hv
    exact ⟨u1, k1, k2.narrow hn (k0.scope hd)⟩
  | dfr => exact h1
  | iter m s seen c =>
    obtain ⟨_, m0, _, _, q2⟩ := h0
    obtain ⟨g0, m', g1, gz, g2⟩ := h1
    refine ⟨g0, m', g1, gz, ?_⟩
    cases m with
    | none => exact g2
    | some b =>
      obtain ⟨e0, k1, _⟩ := q2
      obtain ⟨e', k2, k3⟩ := g2
      exact ⟨e', hn b e' (hd b e0 k1) k2, k3⟩
  | dead => trivial

theorem Rel.cut {ρ ρ' : Rho} {h h1 : Heap} {w w' : World} (r : Rel P B w0 ρ h w) (r1 : Rel P B w0 ρ' h1 w') (hn : New ρ ρ' h.size) (hg : ∀ b, b < h.size → h1.get b = h.get b) : Rel P B w0 ρ h w' := by
  have nar : ∀ b e, b < h.size → ρ' b = some e → ρ b = some e := fun b e hb he => (hn.2 b e he).resolve_right (by omega)
  refine ⟨r.dom, fun b e hb => ?_, ?_, fun b e o h1' h2 h3 => ?_, r.fresh, r1.below, r1.base, r.glob⟩
  · obtain ⟨o, q1, q2⟩ := r.obj b e hb
    obtain ⟨o', g1, g2⟩ := r1.obj b e (hn.1 b e hb)
    rw [hg b (r.dom b e hb), q1] at g1
    cases g1
    exact ⟨o, q1, ORel.narrow nar r.dom q2 g2⟩
  · intro b b' e e' o o' S q1 q2 q3 q4 q5 q6 q7 q8
    exact r1.sep b b' e e' o o' S (hn.1 _ _ q1) (hn.1 _ _ q2) q3 (by rw [hg b (r.dom _ _ q1)]; exact q4) q5 (by rw [hg b' (r.dom _ _ q2)]; exact q6) q7 q8
  · exact r1.live b e o (hn.1 _ _ h1') (by rw [hg b (r.dom _ _ h1')]; exact h2) h3

theorem close_sound {ρ ρ' : Rho} {h h1 : Heap} {w w' : World} {v v' : V} {h' : Heap} {u : Value} (r : Rel P B w0 ρ h w) (r1 : Rel P B w0 ρ' h1 w') (hn : New ρ ρ' h.size) (hm : HM { h with low := h.size } h1) (hv : VR ρ' v u)
    (hc : closeCall h v h1 = (v', h')) : v' = v ∧ ∃ ρ'', VR ρ'' v u ∧ Rel P B w0 ρ'' h' w' ∧ New ρ ρ'' h.size := by
  unfold closeCall at hc
  split at hc
  · rename_i hk
    cases hc
    refine ⟨rfl, ρ, ?_, r.cut r1 hn (fun b hb => hm.get b (by omega) hb), New.refl _ _⟩
    exact hv.narrow (fun b e hb he => (hn.2 b e he).resolve_right (by omega)) hk.2
  · cases hc
    exact ⟨rfl, ρ', hv, r1.reset _, hn⟩

def resSem (a : Array Value) : ResultVar → Sem Value
  | .tmp t => pure (a.getD t undef)
  | .cell p t => do loadVar t (← asAddr (a.getD p undef))
theorem results_eq (fn : Func) (a : Array Value) : results fn a = (do let vs ← fn.results.mapM (resSem a); pure (if h : vs.size = 1 then vs[0] else .tuple vs)) := by
  unfold results
  congr 1

theorem res_sound {ρ : Rho} {h : Heap} {w : World} (r : Rel P B w0 ρ h w) {nt : Nat} {tm : TM} {a : Array Value} (ht : TMR ρ nt tm a) {x : ResultVar} {y : Res} (hy : resC P x = some y) {v : V} (hv : resA tm h y = some v) :
    ∃ u, (resSem a x).run P w = .ok u w ∧ VR ρ v u := by
  unfold resC at hy
  split at hy
  · split at hy
    · cases hy
    rename_i hne
    cases hy
    simp only [resA] at hv
    obtain ⟨u, q1, q2⟩ := ht.2 _ _ hne hv
    exact ⟨u, by simp [resSem, q1], q2⟩
  · split at hy
    · cases hy
    rename_i p t hne
    split at hy
    · rename_i g hg
      cases hy
      simp only [resA] at hv
      split at hv
      · rename_i q hq
        obtain ⟨u, q1, q2⟩ := ht.2 _ _ hne hq
        obtain ⟨ad, had, u', g1, g2⟩ := load_sound (P := P) r hg q2 hv
        subst had
        exact ⟨u', by simp [resSem, q1, asAddr, g1], g2⟩
      · cases hv
    · cases hy

theorem ress_sound {ρ : Rho} {h : Heap} {w : World} (r : Rel P B w0 ρ h w) {nt : Nat} {tm : TM} {a : Array Value} (ht : TMR ρ nt tm a) : ∀ {x : List ResultVar} {y : List Res}, ressC P x = some y → ∀ {v : List V}, ressA tm h y = some v →
    ∃ u, (x.mapM (m := Sem) (resSem a)).run P w = .ok u w ∧ VRs ρ v u
  | [], y, hy, v, hv => by cases hy; cases hv; exact ⟨[], rfl, .nil⟩
  | x :: xs, y, hy, v, hv => by
    unfold ressC at hy
    split at hy
    · rename_i p q hp hq
      cases hy
      unfold ressA at hv
      split at hv
      · rename_i s t hs ht'
        cases hv
        obtain ⟨u, g1, g2⟩ := res_sound (P := P) r ht hp hs
        obtain ⟨us, g3, g4⟩ := ress_sound r ht hq ht'
        refine ⟨u :: us, ?_, .cons _ _ _ _ g2 g4⟩
        rw [List.mapM_cons]
        simp only [Sem.run_bind, g1, Result.andThen_ok, g3, Sem.run_pure]
      · cases hv
    · cases hy

theorem results_sound {ρ : Rho} {h : Heap} {w : World} (r : Rel P B w0 ρ h w) {fn : Func} {nt : Nat} {tm : TM} {a : Array Value} (ht : TMR ρ nt tm a) {rs : List Res} (hr : ressC P fn.results.toList = some rs) {v : List V} (hv : ressA tm h rs = some v) :
    ∃ u, (results fn a).run P w = .ok u w ∧ VR ρ (oneOf v) u := by
  obtain ⟨us, q1, q2⟩ := ress_sound (P := P) r ht hr hv
  have hm := arrMapM (P := P) (w := w) (resSem a) fn.results q1
  refine ⟨if h : us.toArray.size = 1 then us.toArray[0] else .tuple us.toArray, ?_, ?_⟩
  · rw [results_eq]
    simp only [Sem.run_bind, hm, Result.andThen_ok, Sem.run_pure]
  · cases q2 with
    | nil => simp only [oneOf]; exact .tuple _ _ .nil
    | cons v u vs us hv1 hvs =>
      cases hvs with
      | nil => simpa [oneOf] using hv1
      | cons v2 u2 vs us hv2 hvs =>
        simp only [oneOf, List.size_toArray, List.length_cons]
        rw [dif_neg (by omega)]
        exact .tuple _ _ (.cons _ _ _ _ hv1 (.cons _ _ _ _ hv2 hvs))

theorem args_sound {ρ : Rho} : ∀ {vs : List V} {us : List Value} (hv : VRs ρ vs us) (i : Nat) (tm : TM) (A : Array Value), (∀ j v, tm.get j = some v → ∃ u, A[j]? = some u ∧ VR ρ v u) → (∀ j u, us[j]? = some u → A[i + j]? = some u) →
    ∀ j v, (argsTM i vs tm).get j = some v → ∃ u, A[j]? = some u ∧ VR ρ v u
  | _, _, .nil, i, tm, A, h0, h1 => h0
  | _, _, .cons v u vs us hv ht, i, tm, A, h0, h1 => by
    unfold argsTM
    refine args_sound ht (i + 1) (tm.set i v) A (fun j v' hj => ?_) (fun j u' hj => ?_)
    · rw [TM.get_set] at hj
      by_cases e : j = i
      · rw [if_pos e] at hj
        cases hj
        subst e
        exact ⟨u, by simpa using h1 0 u (by simp), hv⟩
      · rw [if_neg e] at hj
        exact h0 j v' hj
    · have := h1 (j + 1) u' (by simpa using hj)
      rwa [show i + (j + 1) = i + 1 + j by omega] at this


theorem funcC_parts {fn : Func} {af : AFunc} (haf : funcC P fn = some af) : ∃ c ac rs, fn.body = some c ∧ (fn.name == "runtime.NumGoroutine") = false ∧ fn.params.size + fn.nfree ≤ fn.ntmps ∧ fn.params.size + fn.nfree ≤ DX ∧ codeC P fn.ntmps c = some ac ∧ ressC P fn.results.toList = some rs ∧ af = ⟨fn.params.size + fn.nfree, rs, ac⟩ := by
  unfold funcC at haf
  split at haf
  · rename_i c hbody
    split at haf
    · cases haf
    · rename_i hname
      split at haf
      · rename_i hnt
        split at haf
        · rename_i ac rs hac hrs
          cases haf
          exact ⟨c, ac, rs, hbody, by simpa using hname, hnt.1, hnt.2, hac, hrs, rfl⟩
        · cases haf
      · cases haf
  · cases haf
theorem enters_of {f : FuncId} {fn : Func} (hf : P.funcs[f]? = some fn) {c : Code} (hbody : fn.body = some c) (hname : (fn.name == "runtime.NumGoroutine") = false) (args : Array Value) (w : World) : (callFunc f args).run P w = .ok (.enter f args) w := by
  simp only [callFunc, Sem.run_bind, run_program, Result.andThen_ok, hf]
  simp only [hname, Bool.false_eq_true, if_false, hbody, Option.isNone_some, Sem.run_pure]
theorem argsTM_DX : ∀ (vs : List V) (i : Nat) (tm : TM), i + vs.length ≤ DX → (argsTM i vs tm).get DX = tm.get DX
  | [], _, _, _ => rfl
  | v :: vs, i, tm, h => by
    simp only [List.length_cons] at h
    unfold argsTM
    rw [argsTM_DX vs (i + 1) _ (by omega), TM.get_set_ne _ _ _ _ (by omega)]
theorem start_act {ρ : Rho} (hg : Glob ρ) {args : List V} {us : Array Value} (hv : VRs ρ args us.toList) {nt : Nat} (h1 : args.length ≤ nt) (h2 : args.length ≤ DX) (ro : Option Nat) : ActR ρ nt ro (argsTM 0 args .nil) { tmps := us ++ Array.replicate (nt - us.size) undef, defers := [] } := by
  have hul : us.size = args.length := by
    have := hv.length
    simp only [Array.length_toList] at this
    omega
  refine ⟨⟨⟨by simp; omega, hg⟩, fun i v _ => ?_⟩, fun _ => ?_⟩
  · refine args_sound hv 0 .nil _ (fun j v' hj => by rw [TM.get_nil] at hj; cases hj) (fun j u hj => ?_) i v
    have hj' : us[j]? = some u := by simpa using hj
    have hlt : j < us.size := (Array.getElem?_eq_some_iff.1 hj').1
    rw [Nat.zero_add, Array.getElem?_append_left hlt]
    exact hj'
  · have : deferred (argsTM 0 args .nil) = [] := by
      unfold deferred
      rw [argsTM_DX _ _ _ (by omega), TM.get_nil]
    rw [this]; exact .nil

/-- The table of functions is the program's; what is said to do nothing when a call ends does nothing. -/
structure TableOk (P : Program) (C : Cfg) : Prop where
  tab : ∀ f af, C.F f = some af → ∃ fn, P.funcs[f]? = some fn ∧ funcC P fn = some af
  idle : ∀ f, C.I f = true → ∀ (args : Array Value) (w : World), (callFunc f args).run P w = .ok (.enter f args) w ∧ ∀ n, CallsDIn Fence.wide n P f args .returning w fun e u' w' => u' = .returning ∧ (∃ v, e = .returned v) ∧ w' = w

theorem setPs_sound {ρ : Rho} {nt : Nat} : ∀ (ps : List Nat) (vs : List V) (us : List Value) (tm tm1 : TM) (A : Array Value), setPs ps vs tm = some tm1 → VRs ρ vs us → TMR ρ nt tm A → (∀ p ∈ ps, dstOk nt (some p) = true) →
    ps.length = us.length ∧ TMR ρ nt tm1 ((ps.zip us).foldl (fun t p => t.setIfInBounds p.1 p.2) A)
  | [], [], _, tm, tm1, A, hs, .nil, ht, hp => by cases hs; exact ⟨rfl, ht⟩
  | p :: ps, v :: vs, _, tm, tm1, A, hs, .cons _ u _ us hv hvs, ht, hp => by
    simp only [setPs] at hs
    have h1 := TMR.put (a := ⟨A, []⟩) ht (hp p List.mem_cons_self) hv
    obtain ⟨q1, q2⟩ := setPs_sound ps vs us (tm.set p v) tm1 _ hs hvs h1 (fun q hq => hp q (List.mem_cons_of_mem _ hq))
    exact ⟨by simp [q1], q2⟩
  | [], _ :: _, _, _, _, _, hs, _, _, _ => by simp [setPs] at hs
  | _ :: _, [], _, _, _, _, hs, _, _, _ => by simp [setPs] at hs

/-- A round of a range. -/
theorem yield_sound {exec : LoopF} (he : LoopOk P B w0 exec) (hlm : LoopHM exec) {b : Nat} {vs : List V} {h h' : Heap} {v : V} (hx : yieldBody exec b vs h = some (v, h')) {ρ : Rho} {w : World} {us : Array Value} {e : Emb} (r : Rel P B w0 ρ h w) (hb : ρ b = some e) (hv : VRs ρ vs us.toList) : YieldSnd P B w0 ρ e.blk us w h v h' := by
  unfold yieldBody at hx
  split at hx
  · rename_i st0 pend0 nt tm ps asg body hg
    obtain ⟨o, q1, q2⟩ := r.obj b e hb
    rw [hg] at q1
    cases q1
    obtain ⟨hB, rec, hrec, hl⟩ := q2
    split at hx
    · rename_i tm1 hset
      obtain ⟨hlen, ht1⟩ := setPs_sound ps vs us.toList tm tm1 rec.tmps hset hv hl.tmr hl.psok
      have hsz : us.size = rec.params.size := by
        have : rec.params.toList.length = us.toList.length := by rw [hl.pars]; exact hlen
        simpa using this.symm
      have hfold : ((rec.params.zip us).foldl (fun tmps (t, a) => tmps.setIfInBounds t a) rec.tmps) = (ps.zip us.toList).foldl (fun t p => t.setIfInBounds p.1 p.2) rec.tmps := by
        rw [← Array.foldl_toList, Array.toList_zip, hl.pars]
      split at hx
      · rename_i tm2 h2 hex1
        have hsz2 := (hlm _ _ _ _ _ _ hex1).size
        split at hx
        · rename_i p1 n1 t1 q1' a1 b1 hg2
          split at hx
          · rename_i ex tmx h3 hex2
            have hsz3 : h2.size ≤ h3.size := (hlm _ _ _ _ _ _ hex2).size
            refine ⟨_, _, _, _, run_yield hrec hsz, fun n => ?_⟩
            refine roundIn_of_wpIn (F := Fence.wide) trivial ?_
            rw [hfold]
            have w1 := (he (some e.blk) n nt rec.assign asg hl.casg (.inr hl.nda) ρ tm1 { tmps := (ps.zip us.toList).foldl (fun t p => t.setIfInBounds p.1 p.2) rec.tmps, defers := [] } h w ⟨ht1, fun h => by cases h⟩ r _ _ _ hex1).1
            refine wpIn_mono (F := Fw (some e.blk)) w1 ?_
            rintro ex1 a' w' ⟨hexr, ρ1, k1, k2, k3⟩
            cases hexr
            have hb1 := k3.1 _ _ hb
            obtain ⟨o2, m1, m2⟩ := k2.obj b e hb1
            rw [hg2] at m1
            cases m1
            obtain ⟨_, rec1, hrec1, hl1⟩ := m2
            have hlt1 : e.blk < w'.heap.size := (Array.getElem?_eq_some_iff.1 hrec1).1
            refine ⟨_, run_beginRound hrec1 hl1.state, ?_⟩
            have k4 : Rel P B w0 ρ1 (h2.put b (.loop .busy p1 n1 t1 q1' a1 b1)) (w'.putObj e.blk (.loop { rec1 with state := .busy })) :=
              k2.setOwn hb1 hg2 rfl (.inl (by simp [Obj.sups])) (fun S hS => by cases hS; rfl) hB _ ⟨hB, { rec1 with state := .busy }, by simp [hlt1], { hl1 with state := rfl }⟩
            have w2 := (he (some e.blk) n nt rec.body body hl.cbody (.inr hl.ndb) ρ1 tm2 a' _ _ k1 k4 _ _ _ hex2).1
            refine wpIn_mono (F := Fw (some e.blk)) w2 ?_
            rintro ex2 a'' w'' ⟨hexr2, ρ2, g1, g2, g3⟩
            have hb2 := g3.1 _ _ hb1
            have hnew : New ρ ρ2 h.size := k3.trans g3 hsz2
            split at hx
            · rename_i st2 pend2 n2 t2 q2' a2 b2 hg3
              obtain ⟨o3, m1, m2⟩ := g2.obj b e hb2
              rw [hg3] at m1
              cases m1
              obtain ⟨_, rec2, hrec2, hl2⟩ := m2
              have hlt2 : e.blk < w''.heap.size := (Array.getElem?_eq_some_iff.1 hrec2).1
              have fin : ∀ (jump : Option Code) (st : LoopState) (pend : Option Ex), (if jump.isNone then LoopState.ready else .done) = st → jump = pendC pend →
                  Rel P B w0 ρ2 (h3.put b (.loop st pend n2 t2 q2' a2 b2)) (w''.putObj e.blk (.loop { rec2 with state := if jump.isNone then .ready else .done, pending := jump })) := by
                intro jump st pend h1 h2
                exact g2.setOwn hb2 hg3 rfl (.inl (by simp [Obj.sups])) (fun S hS => by cases hS; rfl) hB _ ⟨hB, { rec2 with state := if jump.isNone then .ready else .done, pending := jump }, by simp [hlt2], { hl2 with state := h1, pend := h2 }⟩
              cases hexr2 with
              | normal =>
                cases hx
                exact ⟨_, _, run_endRound none hrec2, ρ2, .bool true, fin none .ready none rfl rfl, hnew⟩
              | exit id =>
                cases hx
                exact ⟨_, _, run_endRound (some (.exit id)) hrec2, ρ2, .bool false, fin (some (.exit id)) .done (some (.exit id)) rfl rfl, hnew⟩
              | ret =>
                cases hx
                exact ⟨_, _, run_endRound (some .ret) hrec2, ρ2, .bool false, fin (some .ret) .done (some .ret) rfl rfl, hnew⟩
            · cases hx
          · cases hx
        · cases hx
      · cases hx
    · cases hx
  · cases hx

/-- What is deferred, at a call's end. -/
theorem defers_sound {C : Cfg} (hT : TableOk P C) {exec : LoopF} (he : LoopOk P B w0 exec) (hlm : LoopHM exec) {fn : Func} {tmps : Array Value} {R : Ending → World → Prop} {n : Nat} : ∀ (l : List V) {ds : List Deferred} {ρ : Rho} {h h2 : Heap} {w : World}, DefR ρ l ds → Rel P B w0 ρ h w → runDefers C exec l h = some h2 →
    (∀ ρ' w', Rel P B w0 ρ' h2 w' → New ρ ρ' h.size → ∃ v, (results fn tmps).run P w' = .ok v w' ∧ R (.returned v) w') → LeavesInM Fence.wide n P fn tmps R ds .returning w
  | _, _, ρ, h, h2, w, .nil, r, hx, hq => by
    simp only [runDefers] at hx
    cases hx
    exact hq ρ w r (New.refl _ _)
  | _, _, ρ, h, h2, w, .mark b e rr x ds hb hr t, r, hx, hq => by
    unfold runDefers at hx
    split at hx
    · rename_i hg
      obtain ⟨o, q1, q2⟩ := r.obj b e hb
      rw [hg] at q1
      cases q1
      obtain ⟨hB, hd⟩ := q2
      subst hr
      have r2 : Rel P B w0 ρ (h.put b .dead) (w.putObj e.blk (.deferred none)) := r.setOwn hb hg rfl (.inr rfl) (fun S hS => by cases hS) hB _ trivial
      exact ⟨by simp, .inl ⟨e.blk, _, rfl, run_takeDeferred hd, defers_sound hT he hlm x t r2 hx hq⟩⟩
    · cases hx
  | _, _, ρ, h, h2, w, .call f vs cap as x ds hv t, r, hx, hq => by
    unfold runDefers at hx
    split at hx
    · rename_i hidle
      obtain ⟨q1, q2⟩ := hT.idle f hidle (as ++ cap) w
      refine ⟨by simp, .inr ⟨fw_depth (ro := none), .func f, cap, f, as ++ cap, rfl, q1, fun _ _ => trivial, ?_⟩⟩
      refine (q2 (n - 1)).mono fun e u' w' => ?_
      rintro ⟨rfl, ⟨v, rfl⟩, rfl⟩
      exact defers_sound hT he hlm x t r hx hq
    · split at hx
      · rename_i af haf
        split at hx
        · rename_i hlen
          split at hx
          · cases hx
          · rename_i ex tm h1 hne hex
            split at hx
            · rename_i rs hdef hres
              obtain ⟨fn', hf, hfc⟩ := hT.tab f af haf
              obtain ⟨c, ac, rs', hbody, hname, hnt, hdx, hac, hrs, rfl⟩ := funcC_parts hfc
              simp only at hlen hex hres
              have hsz := (hlm _ _ _ _ _ _ hex).size
              refine ⟨by simp, .inr ⟨fw_depth (ro := none), .func f, cap, f, as ++ cap, rfl, enters_of hf hbody hname _ _, fun _ _ => trivial, ?_⟩⟩
              have hw := (he none (n - 1) fn'.ntmps c ac hac (.inl rfl) ρ (argsTM 0 vs .nil) { tmps := (as ++ cap) ++ Array.replicate (fn'.ntmps - (as ++ cap).size) undef, defers := [] } h w (start_act r.glob hv (by omega) (by omega) none) r _ _ _ hex).1
              refine (callsDIn_of_wp (F := Fence.wide) (R := fun e w' => (∃ v, e = .returned v) ∧ ∃ ρ', Rel P B w0 ρ' h1 w' ∧ New ρ ρ' h.size) hf hbody trivial ?_).mono fun e u' w' => ?_
              · refine wpIn_mono (F := Fence.wide) hw ?_
                rintro e' a' w' ⟨hexr, ρ', k1, k2, k3⟩
                have fin : a'.defers = [] ∧ ∃ v, (results fn' a'.tmps).run P w' = .ok v w' ∧ ((∃ u, Ending.returned v = .returned u) ∧ ∃ ρ', Rel P B w0 ρ' h1 w' ∧ New ρ ρ' h.size) := by
                  have hdr := k1.2 rfl
                  rw [hdef] at hdr
                  obtain ⟨u, g1, _⟩ := results_sound (P := P) k2 k1.1 hrs hres
                  refine ⟨?_, u, g1, ⟨u, rfl⟩, ρ', k2, k3⟩
                  generalize a'.defers = D at hdr
                  cases hdr; rfl
                cases hexr with
                | normal => exact fin
                | exit id => exact absurd rfl (hne id)
                | ret => exact fin
              · rintro ⟨rfl, ⟨v, rfl⟩, ρ', k2, k3⟩
                exact defers_sound hT he hlm x (t.mono k3.1) k2 hx (fun ρ'' w'' g1 g2 => hq ρ'' w'' g1 (k3.trans g2 hsz))
            · cases hx
          · cases hx
        · cases hx
      · cases hx

/-- A function of the program's. -/
theorem body_sound {C : Cfg} (hT : TableOk P C) {exec : LoopF} (he : LoopOk P B w0 exec) (hlm : LoopHM exec) {f : FuncId} {fn : Func} {af : AFunc} (hf : P.funcs[f]? = some fn) (haf : funcC P fn = some af)
    {args : List V} {h : Heap} {v : V} {h' : Heap} (hx : callBody C exec af args h = some (v, h')) {ρ : Rho} {w : World} {us : Array Value} (r : Rel P B w0 ρ h w) (hv : VRs ρ args us.toList) : CallSnd P B w0 ρ f us w h v h' := by
  obtain ⟨c, ac, rs, hbody, hname, hnt, hdx, hac, hrs, rfl⟩ := funcC_parts haf
  unfold callBody at hx
  split at hx
  · rename_i hlen
    simp only at hlen hx
    refine .inl ⟨enters_of hf hbody hname _ _, fun n => ?_⟩
    split at hx
    · cases hx
    · rename_i ex tm h1 hne hex
      split at hx
      · rename_i h2 hdefs
        split at hx
        · rename_i vs hvs
          have hm1 := hlm _ _ _ _ _ _ hex
          have hm2 := HM.defers (C := C) hlm _ hdefs
          refine callsIn_of_wp_marks (F := Fence.wide) hf hbody trivial ?_
          have hw := (he none n fn.ntmps c ac hac (.inl rfl) ρ (argsTM 0 args .nil) { tmps := us ++ Array.replicate (fn.ntmps - us.size) undef, defers := [] } _ w (start_act r.glob hv (by omega) (by omega) none) (r.reset h.size) _ _ _ hex).1
          refine wpIn_mono (F := Fence.wide) hw ?_
          rintro e a' w' ⟨hexr, ρ', q1, q2, q3⟩
          have fin : LeavesInM Fence.wide n P fn a'.tmps (RetE P B w0 ρ h.size v h') a'.defers .returning w' := by
            refine defers_sound hT he hlm _ (q1.2 rfl) q2 hdefs fun ρ2 w2 k1 k2 => ?_
            obtain ⟨u, g1, g2⟩ := results_sound (P := P) k1 (q1.1.mono k2.1) hrs hvs
            refine ⟨u, g1, ?_⟩
            have hcl : closeCall h (oneOf vs) h2 = (v, h') := Option.some.inj hx
            obtain ⟨e1, ρ'', g3, g4, g5⟩ := close_sound r k1 (q3.trans k2 hm1.size) (hm1.trans hm2) g2 hcl
            subst e1
            exact ⟨ρ'', g3, g4, g5⟩
          cases hexr with
          | normal => exact fin
          | exit id => exact absurd rfl (hne id)
          | ret => exact fin
        · cases hx
      · cases hx
    · cases hx
  · cases hx

/-- The summaries are the program's. -/
def SumOk (P : Program) (B : Nat) (w0 : World) (C : Cfg) : Prop :=
  ∀ f args h v h', C.S f args h = some (some (v, h')) → HM h h' ∧ ∀ (ρ : Rho) (w : World) (us : Array Value), Rel P B w0 ρ h w → VRs ρ args us.toList → CallSnd P B w0 ρ f us w h v h'

/-- THE ABSTRACT MACHINE IS SOUND. -/
theorem run_sound {C : Cfg} (hT : TableOk P C) (hS : SumOk P B w0 C) : ∀ n, CallOk P B w0 (run C n).1 ∧ LoopOk P B w0 (run C n).2
  | 0 => by
    refine ⟨⟨?_, ?_⟩, ?_⟩
    · intro f args h v h' hx; simp [run] at hx
    · intro b args h v h' hx; simp [run] at hx
    · intro ro n nt c ac hac hnd ρ tm a h w ht r ex tm' h' hx; simp [run] at hx
  | n + 1 => by
    obtain ⟨h1, h2⟩ := run_sound hT hS n
    obtain ⟨m1, m2⟩ := HM.run C (fun f args h v h' hx => (hS f args h v h' hx).1) n
    have he : LoopOk P B w0 (execC (run C n).1 (run C n).2) := fun ro m nt c ac hac hnd ρ tm a h w ht r ex tm' h' hx => code_sound h1 m1 h2 m2 ro m nt c ac hac hnd ρ tm a h w ht r ex tm' h' hx
    have hlm : LoopHM (execC (run C n).1 (run C n).2) := fun c tm h ex tm' h' hx => HM.exec m1 m2 c hx
    refine ⟨⟨?_, ?_⟩, he⟩
    · intro f args h v h' hx ρ w us r hv
      simp only [run, runF] at hx
      split at hx
      · rename_i q hq
        subst hx
        exact (hS f args h v h' hq).2 ρ w us r hv
      · split at hx
        · rename_i af haf
          obtain ⟨fn, g1, g2⟩ := hT.tab f af haf
          exact body_sound hT he hlm g1 g2 hx r hv
        · cases hx
    · intro b args h v h' hx ρ w us e r hb hv
      simp only [run] at hx
      exact yield_sound he hlm hx r hb hv
end
end Abs
end Go.Proofs.YtbjpoelgcehidaaGreatDoor
namespace Go.Proofs.YtbjpoelgcehidaaGreatDoor
namespace Abs
set_option linter.unusedVariables false
set_option linter.unusedSimpArgs false
open Go.RowKit

def noRho : Rho := fun _ => none
def rhoG : Rho := fun g => if g < GN then some ⟨g, 0, 0⟩ else none

/-- Memory that holds the package variables alone: those that are read, and dead ones. -/
noncomputable def deadT (k : Nat) : HT := Nat.rec (motive := fun _ => HT) HT.nil (fun n t => t.set n .dead) k
theorem deadT_get : ∀ (k n : Nat), (deadT k).get n = if n < k then some .dead else none
  | 0, n => by rw [if_neg (by omega)]; exact HT.get_nil n
  | k + 1, n => by
    show ((deadT k).set k .dead).get n = _
    rw [HT.get_set, deadT_get k n]
    by_cases h : n = k
    · rw [if_pos h, if_pos (by omega)]
    · rw [if_neg h]
      by_cases h2 : n < k
      · rw [if_pos h2, if_pos (by omega)]
      · rw [if_neg h2, if_neg (by omega)]

noncomputable def gObjs : List (Nat × List V) → HT
  | [] => deadT GN
  | (g, cs) :: r => (gObjs r).set g (.cells cs .ro)
noncomputable def baseH (l : List (Nat × List V)) : Heap := ⟨gObjs l, GN, GN⟩
/-- The variables, as they are listed, in a world. -/
def GW (l : List (Nat × List V)) (w : World) : Prop := ∀ p ∈ l, p.1 < w.heap.size ∧ CellFacts noRho w ⟨p.1, 0, 0⟩ p.2

theorem baseH_get : ∀ (l : List (Nat × List V)) (hl : ∀ p ∈ l, p.1 < GN) (b : Nat), (b < GN → (baseH l).get b = some .dead ∨ ∃ p ∈ l, p.1 = b ∧ (baseH l).get b = some (.cells p.2 .ro)) ∧ (GN ≤ b → (baseH l).get b = none)
  | [], hl, b => by
    have : (baseH []).get b = (deadT GN).get b := rfl
    rw [this, deadT_get]
    exact ⟨fun h => .inl (by rw [if_pos h]), fun h => by rw [if_neg (by omega)]⟩
  | (g, cs) :: r, hl, b => by
    have hg : g < GN := hl (g, cs) List.mem_cons_self
    obtain ⟨h1, h2⟩ := baseH_get r (fun p hp => hl p (List.mem_cons_of_mem _ hp)) b
    have e : (baseH ((g, cs) :: r)).get b = if b = g then some (.cells cs .ro) else (baseH r).get b := HT.get_set _ _ _ _
    rw [e]
    refine ⟨fun h => ?_, fun h => by rw [if_neg (by omega)]; exact h2 h⟩
    by_cases hb : b = g
    · rw [if_pos hb]; exact .inr ⟨(g, cs), List.mem_cons_self, hb.symm, rfl⟩
    · rw [if_neg hb]
      rcases h1 h with q | ⟨p, q1, q2, q3⟩
      · exact .inl q
      · exact .inr ⟨p, List.mem_cons_of_mem _ q1, q2, q3⟩

theorem rhoG_some {b : Nat} {e : Emb} (h : rhoG b = some e) : b < GN ∧ e = ⟨b, 0, 0⟩ := by
  unfold rhoG at h
  by_cases hb : b < GN
  · rw [if_pos hb] at h; cases h; exact ⟨hb, rfl⟩
  · rw [if_neg hb] at h; cases h
theorem noRho_le' (ρ : Rho) : RLe noRho ρ := by intro b e h; cases h

theorem rel_base {P : Program} (l : List (Nat × List V)) (hl : ∀ p ∈ l, p.1 < GN) (w : World) (hw : GW l w) : Rel P w.heap.size w rhoG (baseH l) w where
  dom := by
    intro b e h
    exact (rhoG_some h).1
  obj := by
    intro b e h
    obtain ⟨hb, rfl⟩ := rhoG_some h
    rcases (baseH_get l hl b).1 hb with q | ⟨p, q1, rfl, q3⟩
    · exact ⟨_, q, trivial⟩
    · obtain ⟨g1, g2⟩ := hw p q1
      exact ⟨_, q3, g1, g2.mono (noRho_le' _)⟩
  sep := by
    intro b b' e e' o o' S h1 h2 h3 h4 h5
    obtain ⟨hb, rfl⟩ := rhoG_some h1
    rcases (baseH_get l hl b).1 hb with q | ⟨p, q1, rfl, q3⟩
    · rw [h4] at q; cases q; cases h5
    · rw [h4] at q3; cases q3; cases h5
  live := by
    intro b e o h1 h2 h3
    obtain ⟨hb, rfl⟩ := rhoG_some h1
    rcases (baseH_get l hl b).1 hb with q | ⟨p, q1, rfl, q3⟩
    · rw [h2] at q; cases q; cases h3
    · exact (hw p q1).1
  fresh := fun b hb => (baseH_get l hl b).2 hb
  below := Below.refl _ _
  base := Nat.le_refl _
  glob := fun g hg => by unfold rhoG; rw [if_pos hg]

section
variable {P : Program} {B : Nat} {w0 : World}

/-- What lies below a world's size is as it was: the relation stays. -/
theorem Rel.below_keep {ρ : Rho} {h : Heap} {w w' : World} (r : Rel P B w0 ρ h w) (hb : Below w.heap.size w w') : Rel P B w0 ρ h w' := by
  refine ⟨r.dom, fun b e hbe => ?_, r.sep, fun b e o h1 h2 h3 => Nat.lt_of_lt_of_le (r.live b e o h1 h2 h3) hb.size, r.fresh, r.below.trans ⟨hb.os, hb.tape, hb.output, hb.size, fun k hk => hb.block k (Nat.lt_of_lt_of_le hk r.base)⟩, Nat.le_trans r.base hb.size, r.glob⟩
  obtain ⟨o, q1, q2⟩ := r.obj b e hbe
  refine ⟨o, q1, ?_⟩
  cases ha : o.alive with
  | false => cases o <;> simp_all [Obj.alive]; trivial
  | true => exact q2.heap (hb.block _ (r.live b e o hbe q1 ha))

/-- The package variables are as they are listed. -/
def Gl (l : List (Nat × List V)) (h : Heap) : Prop := ∀ g, g < GN → h.get g = (baseH l).get g

theorem gw_of {l : List (Nat × List V)} (hl : ∀ p ∈ l, p.1 < GN) (hc : ∀ p ∈ l, V.scopeds 0 p.2 = true) (hn : ∀ p ∈ l, (baseH l).get p.1 = some (.cells p.2 .ro)) {ρ : Rho} {h : Heap} {w : World} (r : Rel P B w0 ρ h w) (hg : Gl l h) : GW l w := by
  intro p hp
  have e := r.glob p.1 (hl p hp)
  obtain ⟨o, q1, q2⟩ := r.obj _ _ e
  rw [hg _ (hl p hp), hn p hp] at q1
  cases q1
  refine ⟨r.live _ _ _ e (by rw [hg _ (hl p hp), hn p hp]) rfl, fun i v hi => ?_⟩
  obtain ⟨u, g1, g2⟩ := q2.2 i v hi
  refine ⟨u, g1, g2.narrow (n := 0) (fun b e hb => absurd hb (Nat.not_lt_zero _)) ?_⟩
  have : ∀ (x : List V), V.scopeds 0 x = true → ∀ (i : Nat) (v : V), x[i]? = some v → V.scopd 0 v = true := by
    intro x
    induction x with
    | nil => intro _ i v h; simp at h
    | cons a x ih =>
      intro hx i v h
      simp only [V.scopeds, Bool.and_eq_true] at hx
      cases i with
      | zero => simp at h; subst h; exact hx.1
      | succ i => exact ih hx.2 i v (by simpa using h)
  exact this _ (hc p hp) i v hi

/-- A call that names no memory, run in a memory of the package variables alone. -/
theorem frame_call {C : Cfg} (l : List (Nat × List V)) (hl : ∀ p ∈ l, p.1 < GN) (hc : ∀ p ∈ l, V.scopeds 0 p.2 = true) (hn : ∀ p ∈ l, (baseH l).get p.1 = some (.cells p.2 .ro)) (hT : TableOk P C) (hS : ∀ B w0, SumOk P B w0 C) {n : Nat} {f : Nat} {args : List V} {v : V} {h1 : Heap} (hx : (run C n).1 (.fn f) args (baseH l) = some (v, h1)) (ha : V.scopeds 0 args = true) (hv : v.scopd 0 = true)
    {ρ : Rho} {h : Heap} {w : World} {us : Array Value} (r : Rel P B w0 ρ h w) (hg : Gl l h) (hr : VRs ρ args us.toList) : CallSnd P B w0 ρ f us w h v h := by
  have hr0 : VRs rhoG args us.toList := hr.narrow (n := 0) (fun b e hb => absurd hb (Nat.not_lt_zero _)) ha
  have snd := (run_sound hT (hS w.heap.size w) n).1.fn f args (baseH l) v h1 hx rhoG w us (rel_base l hl w (gw_of hl hc hn r hg)) hr0
  have conv : ∀ u w', Ret P w.heap.size w rhoG (baseH l).size v h1 u w' → Ret P B w0 ρ h.size v h u w' := by
    rintro u w' ⟨ρ', q1, q2, q3⟩
    exact ⟨ρ, q1.narrow (n := 0) (fun b e hb => absurd hb (Nat.not_lt_zero _)) hv, r.below_keep q2.below, New.refl _ _⟩
  rcases snd with ⟨q1, q2⟩ | ⟨u, w', q1, q2⟩
  · refine .inl ⟨q1, fun m => ?_⟩
    obtain ⟨g1, g2⟩ := q2 m
    refine ⟨g1, fun cs hcs => ?_⟩
    obtain ⟨e, w', fr, q3, q4, q5, q6⟩ := g2 cs hcs
    refine ⟨e, w', fr, ?_, q4, q5, q6⟩
    cases e with
    | returned u => exact conv u w' q3
    | panicked c => exact q3.elim
    | outgrown => exact q3.elim
  · exact .inr ⟨u, w', q1, conv u w' q2⟩

/-- A law that the abstract machine runs. -/
theorem law_calls {C : Cfg} (hT : TableOk P C) (hS : ∀ B w0, SumOk P B w0 C) {n : Nat} {f : FuncId} {fn : Func} (hf : P.funcs[f]? = some fn) (hb : fn.body.isSome = true) (hnm : (fn.name == "runtime.NumGoroutine") = false)
    {args : List V} {h h1 : Heap} (hx : (run C n).1 (.fn f) args h = some (.bool true, h1)) {ρ : Rho} {w : World} {us : Array Value} (r : Rel P w.heap.size w ρ h w) (hr : VRs ρ args us.toList) :
    Calls P f us w fun e w' => e = .returned (.bool true) ∧ Below w.heap.size w w' := by
  have snd := (run_sound hT (hS w.heap.size w) n).1.fn f args h _ h1 hx ρ w us r hr
  rcases snd with ⟨q1, q2⟩ | ⟨u, w', q1, q2⟩
  · have hc := callsIn_wide.1 (q2 0)
    refine hc.mono fun e w' he => ?_
    cases e with
    | returned u =>
      obtain ⟨ρ', g1, g2, g3⟩ := he
      cases g1
      exact ⟨rfl, g2.below⟩
    | panicked c => exact he.elim
    | outgrown => exact he.elim
  · exfalso
    simp only [callFunc, Sem.run_bind, run_program, Result.andThen_ok, hf, hnm, Bool.false_eq_true, if_false] at q1
    rw [if_neg] at q1
    · cases q1
    · cases hbb : fn.body with
      | none => rw [hbb] at hb; cases hb
      | some c => simp
end
end Abs
end Go.Proofs.YtbjpoelgcehidaaGreatDoor
namespace Go.Proofs.YtbjpoelgcehidaaGreatDoor
namespace Abs
noncomputable section
set_option linter.unusedVariables false
set_option linter.unusedSimpArgs false
open Go.RowKit

def CallLe (c c' : CallF) : Prop := ∀ f args h r, c f args h = some r → c' f args h = some r
def LoopLe (c c' : LoopF) : Prop := ∀ a tm h r, c a tm h = some r → c' a tm h = some r

section
variable {c c' : CallF} {L L' : LoopF}

theorem opA_mono (hc : CallLe c c') {k : K} {tm : TM} {h : Heap} {r : V × Heap} (hx : opA c k tm h = some r) : opA c' k tm h = some r := by
  unfold opA at hx ⊢
  split at hx
  · split at hx
    · exact hc _ _ _ _ hx
    · exact hc _ _ _ _ hx
    · cases hx
  · split at hx
    · split at hx
      · exact hc _ _ _ _ hx
      · split at hx
        · split at hx
          · exact hc _ _ _ _ hx
          · cases hx
        · cases hx
    · cases hx
  · split at hx
    · split at hx
      · exact hc _ _ _ _ hx
      · cases hx
    · cases hx
  · exact hx

theorem stepOp_mono (hc : CallLe c c') {o : AOp} {tm : TM} {h : Heap} {r : TM × Heap} (hx : stepOp c o tm h = some r) : stepOp c' o tm h = some r := by
  unfold stepOp at hx ⊢
  split at hx
  · rename_i hw
    split at hx
    · rename_i q; rw [opA_mono hc q]; exact hx
    · cases hx
  · exact hx
  · cases hx

theorem runOps_mono (hc : CallLe c c') : ∀ (l : List AOp) {tm : TM} {h : Heap} {r : TM × Heap}, runOps c l tm h = some r → runOps c' l tm h = some r
  | [], _, _, _, hx => hx
  | o :: l, tm, h, r, hx => by
    unfold runOps at hx ⊢
    split at hx
    · rename_i q; rw [stepOp_mono hc q]; exact runOps_mono hc l hx
    · cases hx

theorem trace_mono (hc : CallLe c c') : ∀ (l : List DOp) {tm : TM} {h : Heap} {r : List (DOp × Log) × TM × Heap}, traceDraw c l tm h = some r → traceDraw c' l tm h = some r
  | [], _, _, _, hx => hx
  | o :: l, tm, h, r, hx => by
    unfold traceDraw at hx ⊢
    split at hx
    · rename_i hw
      split at hx
      · rename_i q; rw [trace_mono hc l q]; exact hx
      · cases hx
    · rename_i hw
      split at hx
      · rename_i q
        rw [opA_mono hc q]
        simp only
        split at hx
        · rename_i q2; rw [trace_mono hc l q2]; exact hx
        · cases hx
      · cases hx
    · cases hx

theorem runDraw_mono (hc : CallLe c c') {l : List DOp} {tm : TM} {h : Heap} {r : TM × Heap} (hx : runDraw c l tm h = some r) : runDraw c' l tm h = some r := by
  unfold runDraw at hx ⊢
  split at hx
  · rename_i q; rw [trace_mono hc l q]; exact hx
  · cases hx

theorem execC_mono (hc : CallLe c c') (hL : LoopLe L L') : ∀ (a : AC) {tm : TM} {h : Heap} {r : Ex × TM × Heap}, execC c L a tm h = some r → execC c' L' a tm h = some r
  | .skip, _, _, _, hx => hx
  | .ops l, tm, h, r, hx => by
    unfold execC at hx ⊢
    split at hx
    · rename_i q; rw [runOps_mono hc l q]; exact hx
    · cases hx
  | .draw l, tm, h, r, hx => by
    unfold execC at hx ⊢
    split at hx
    · rename_i q; rw [runDraw_mono hc q]; exact hx
    · cases hx
  | .seq a b, tm, h, r, hx => by
    unfold execC at hx ⊢
    split at hx
    · rename_i q; rw [execC_mono hc hL a q]; exact execC_mono hc hL b hx
    · rename_i hne
      have := execC_mono hc hL a hx
      rw [this]
      obtain ⟨e, tm', h'⟩ := r
      cases e with
      | normal => exact absurd hx (hne _ _)
      | exit id => rfl
      | ret => rfl
  | .cond x a b, tm, h, r, hx => by
    unfold execC at hx ⊢
    split at hx
    · rename_i t q
      cases t with
      | true => exact execC_mono hc hL a hx
      | false => simp only [Bool.false_eq_true, if_false] at hx ⊢; exact execC_mono hc hL b hx
    · cases hx
  | .block id a, tm, h, r, hx => by
    unfold execC at hx ⊢
    split at hx
    · rename_i q; rw [execC_mono hc hL a q]; exact hx
    · rename_i hne
      have := execC_mono hc hL a hx
      rw [this]
      obtain ⟨e, tm', h'⟩ := r
      cases e with
      | normal => rfl
      | exit id => exact absurd hx (hne _ _ _)
      | ret => rfl
  | .loop a, tm, h, r, hx => by
    unfold execC at hx ⊢
    split at hx
    · rename_i q; rw [execC_mono hc hL a q]; exact hL _ _ _ _ hx
    · rename_i hne
      have := execC_mono hc hL a hx
      rw [this]
      obtain ⟨e, tm', h'⟩ := r
      cases e with
      | normal => exact absurd hx (hne _ _)
      | exit id => rfl
      | ret => rfl
  | .exit id, _, _, _, hx => hx
  | .ret, _, _, _, hx => hx
  | .bad, _, _, _, hx => hx
  | .range nt f ps asg body, tm, h, r, hx => by
    unfold execC at hx ⊢
    split at hx
    · split at hx
      · rename_i q; rw [hc _ _ _ _ q]; exact hx
      · cases hx
    · cases hx
  | .defr f args, _, _, _, hx => by
    unfold execC at hx ⊢
    exact hx

theorem yieldBody_mono {e e' : LoopF} (he : LoopLe e e') {b : Nat} {vs : List V} {h : Heap} {r : V × Heap} (hx : yieldBody e b vs h = some r) : yieldBody e' b vs h = some r := by
  unfold yieldBody at hx ⊢
  split at hx
  · split at hx
    · split at hx
      · rename_i q2
        simp only [he _ _ _ _ q2]
        split at hx
        · split at hx
          · rename_i q4
            simp only [he _ _ _ _ q4]
            exact hx
          · cases hx
        · cases hx
      · cases hx
    · cases hx
  · cases hx

theorem runDefers_mono {C : Cfg} {e e' : LoopF} (he : LoopLe e e') : ∀ (l : List V) {h h2 : Heap}, runDefers C e l h = some h2 → runDefers C e' l h = some h2 := by
  intro l
  induction l with
  | nil => intro h h2 hx; exact hx
  | cons x r ih =>
    intro h h2 hx
    unfold runDefers at hx ⊢
    split at hx
    · rename_i q; cases q
    · rename_i q
      cases q
      split at hx
      · exact ih hx
      · cases hx
    · rename_i q
      cases q
      split at hx
      · rename_i q2; rw [if_pos q2]; exact ih hx
      · rename_i q2
        rw [if_neg q2]
        split at hx
        · rename_i q3
          split at hx
          · rename_i q4
            rw [if_pos q4]
            split at hx
            · cases hx
            · rename_i ex tm h1 hne q6
              rw [he _ _ _ _ q6]
              split at hx
              · rename_i rs d1 d2
                cases ex with
                | exit id => exact absurd rfl (hne id)
                | normal => simp only [d1, d2]; exact ih hx
                | ret => simp only [d1, d2]; exact ih hx
              · cases hx
            · cases hx
          · cases hx
        · cases hx
    · cases hx

theorem callBody_mono {C : Cfg} {e e' : LoopF} (he : LoopLe e e') {af : AFunc} {args : List V} {h : Heap} {r : V × Heap} (hx : callBody C e af args h = some r) : callBody C e' af args h = some r := by
  unfold callBody at hx ⊢
  split at hx
  · rename_i hl
    rw [if_pos hl]
    split at hx
    · cases hx
    · rename_i ex tm h1 hne q
      rw [he _ _ _ _ q]
      split at hx
      · rename_i q2
        cases ex with
        | exit id => exact absurd rfl (hne id)
        | normal => simp only [runDefers_mono he _ q2]; exact hx
        | ret => simp only [runDefers_mono he _ q2]; exact hx
      · cases hx
    · cases hx
  · cases hx
end

theorem run_mono1 (C : Cfg) : ∀ n, CallLe (run C n).1 (run C (n + 1)).1 ∧ LoopLe (run C n).2 (run C (n + 1)).2
  | 0 => by
    refine ⟨?_, ?_⟩
    · intro f args h r hx; simp [run] at hx
    · intro a tm h r hx; simp [run] at hx
  | n + 1 => by
    obtain ⟨h1, h2⟩ := run_mono1 C n
    have hL : LoopLe (run C (n + 1)).2 (run C (n + 1 + 1)).2 := by
      intro a tm h r hx
      exact execC_mono h1 h2 a hx
    refine ⟨?_, hL⟩
    intro f args h r hx
    cases f with
    | fn f =>
      simp only [run, runF] at hx ⊢
      split at hx
      · exact hx
      · split at hx
        · exact callBody_mono hL hx
        · cases hx
    | yl b =>
      simp only [run] at hx ⊢
      exact yieldBody_mono hL hx

theorem run_le (C : Cfg) {n m : Nat} (h : n ≤ m) : CallLe (run C n).1 (run C m).1 ∧ LoopLe (run C n).2 (run C m).2 := by
  induction m with
  | zero =>
    have : n = 0 := by omega
    subst this
    exact ⟨fun _ _ _ _ h => h, fun _ _ _ _ h => h⟩
  | succ m ih =>
    by_cases e : n = m + 1
    · subst e; exact ⟨fun _ _ _ _ h => h, fun _ _ _ _ h => h⟩
    · obtain ⟨h1, h2⟩ := ih (by omega)
      obtain ⟨g1, g2⟩ := run_mono1 C m
      exact ⟨fun f a h r hx => g1 _ _ _ _ (h1 _ _ _ _ hx), fun a t h r hx => g2 _ _ _ _ (h2 _ _ _ _ hx)⟩

/-! ### Steps for reasoning: 'in some number of rounds' -/
section
variable (C : Cfg)

/-- A call hands v back and leaves h'. -/
def Gives (f : Nat) (args : List V) (h : Heap) (v : V) (h' : Heap) : Prop := ∃ n, (run C n).1 (.fn f) args h = some (v, h')
/-- A piece of code ends so. -/
def Runs (a : AC) (tm : TM) (h : Heap) (Q : Ex → TM → Heap → Prop) : Prop := ∃ n ex tm' h', execC (run C n).1 (run C n).2 a tm h = some (ex, tm', h') ∧ Q ex tm' h'
/-- Operations end so. -/
def Does (l : List AOp) (tm : TM) (h : Heap) (Q : TM → Heap → Prop) : Prop := ∃ n tm' h', runOps (run C n).1 l tm h = some (tm', h') ∧ Q tm' h'
end

section
variable {C : Cfg} {tm : TM} {h : Heap}

theorem Runs.mono {a : AC} {Q Q' : Ex → TM → Heap → Prop} (hx : Runs C a tm h Q) (hq : ∀ e t h, Q e t h → Q' e t h) : Runs C a tm h Q' :=
  let ⟨n, e, t, h', q1, q2⟩ := hx; ⟨n, e, t, h', q1, hq _ _ _ q2⟩

theorem nc_of {k : K} {tm : TM} {h h' : Heap} {v : V} (hk : opK k tm h = some (v, h')) : k.calls = false := by
  cases k <;> first | rfl | (simp [opK] at hk; done)
theorem Does.nil {Q : TM → Heap → Prop} (hq : Q tm h) : Does C [] tm h Q := ⟨0, tm, h, rfl, hq⟩
/-- An operation that calls nothing. -/
theorem Does.op {o : AOp} {l : List AOp} {Q : TM → Heap → Prop} {v : V} {h' : Heap} (hw : wantedA tm o.guard = some true) (hk : opK o.k tm h = some (v, h')) (hq : Does C l (TM.put tm o.dst v) h' Q) : Does C (o :: l) tm h Q := by
  obtain ⟨n, tm2, h2, q1, q2⟩ := hq
  refine ⟨n, tm2, h2, ?_, q2⟩
  have hnc : o.k.calls = false := nc_of hk
  unfold runOps stepOp
  rw [hw]
  simp only [opA_nc hnc, hk]
  exact q1
theorem Does.skip {o : AOp} {l : List AOp} {Q : TM → Heap → Prop} (hw : wantedA tm o.guard = some false) (hq : Does C l (TM.put tm o.dst undefV) h Q) : Does C (o :: l) tm h Q := by
  obtain ⟨n, tm2, h2, q1, q2⟩ := hq
  refine ⟨n, tm2, h2, ?_, q2⟩
  unfold runOps stepOp
  rw [hw]
  exact q1
theorem Does.call {dst : Option Nat} {g : Option (Nat × Bool)} {fx : Opd} {xs : List Opd} {l : List AOp} {Q : TM → Heap → Prop} {f : Nat} {first caps vs : List V} {v : V} {h' : Heap} (hw : wantedA tm g = some true)
    (hf : ev tm fx = some (.func (.func f) first caps)) (hxs : evs tm xs = some vs) (hg : Gives C f (first ++ vs ++ caps) h v h') (hq : Does C l (TM.put tm dst v) h' Q) : Does C (⟨dst, g, .call fx xs⟩ :: l) tm h Q := by
  obtain ⟨n, tm2, h2, q1, q2⟩ := hq
  obtain ⟨m, hm⟩ := hg
  refine ⟨max n m, tm2, h2, ?_, q2⟩
  unfold runOps stepOp
  rw [hw]
  simp only [opA, hf, hxs]
  rw [(run_le C (Nat.le_max_right n m)).1 _ _ _ _ hm]
  simp only
  exact runOps_mono (run_le C (Nat.le_max_left n m)).1 l q1

theorem Runs.ops {l : List AOp} {Q : Ex → TM → Heap → Prop} (hx : Does C l tm h (Q .normal)) : Runs C (.ops l) tm h Q := by
  obtain ⟨n, t, h', q1, q2⟩ := hx
  exact ⟨n, .normal, t, h', by simp only [execC, q1], q2⟩
theorem Runs.skip {Q : Ex → TM → Heap → Prop} (hq : Q .normal tm h) : Runs C .skip tm h Q := ⟨0, .normal, tm, h, rfl, hq⟩
theorem Runs.ret {Q : Ex → TM → Heap → Prop} (hq : Q .ret tm h) : Runs C .ret tm h Q := ⟨0, .ret, tm, h, rfl, hq⟩
theorem Runs.exit {id : Nat} {Q : Ex → TM → Heap → Prop} (hq : Q (.exit id) tm h) : Runs C (.exit id) tm h Q := ⟨0, .exit id, tm, h, rfl, hq⟩

theorem exec_up {n m : Nat} (hnm : n ≤ m) {a : AC} {tm : TM} {h : Heap} {r : Ex × TM × Heap} (hx : execC (run C n).1 (run C n).2 a tm h = some r) : execC (run C m).1 (run C m).2 a tm h = some r :=
  execC_mono (run_le C hnm).1 (run_le C hnm).2 a hx

/-- What follows a piece that ends normally. -/
def Then (C : Cfg) (b : AC) (Q : Ex → TM → Heap → Prop) : Ex → TM → Heap → Prop
  | .normal, t, h => Runs C b t h Q
  | e, t, h => Q e t h

theorem Runs.seq {a b : AC} {Q : Ex → TM → Heap → Prop} (hx : Runs C a tm h (Then C b Q)) : Runs C (.seq a b) tm h Q := by
  obtain ⟨n, e, t, h', q1, q2⟩ := hx
  cases e with
  | normal =>
    obtain ⟨m, e2, t2, h2, g1, g2⟩ := q2
    refine ⟨max n m, e2, t2, h2, ?_, g2⟩
    simp only [execC, exec_up (Nat.le_max_left n m) q1, exec_up (Nat.le_max_right n m) g1]
  | exit id => exact ⟨n, _, t, h', by simp only [execC, q1], q2⟩
  | ret => exact ⟨n, _, t, h', by simp only [execC, q1], q2⟩

theorem Runs.cond {x : Opd} {a b : AC} {t : Bool} {Q : Ex → TM → Heap → Prop} (hv : ev tm x = some (.bool t)) (hx : Runs C (if t then a else b) tm h Q) : Runs C (.cond x a b) tm h Q := by
  obtain ⟨n, e, t', h', q1, q2⟩ := hx
  refine ⟨n, e, t', h', ?_, q2⟩
  simp only [execC, hv]
  cases t <;> exact q1

def AtExit (id : Nat) (Q : Ex → TM → Heap → Prop) : Ex → TM → Heap → Prop
  | .exit i, t, h => if i = id then Q .normal t h else Q (.exit i) t h
  | e, t, h => Q e t h
theorem Runs.block {id : Nat} {a : AC} {Q : Ex → TM → Heap → Prop} (hx : Runs C a tm h (AtExit id Q)) : Runs C (.block id a) tm h Q := by
  obtain ⟨n, e, t, h', q1, q2⟩ := hx
  cases e with
  | normal => exact ⟨n, _, t, h', by simp only [execC, q1], q2⟩
  | ret => exact ⟨n, _, t, h', by simp only [execC, q1], q2⟩
  | exit i =>
    refine ⟨n, _, t, h', by simp only [execC, q1]; rfl, ?_⟩
    simp only [AtExit] at q2
    by_cases hi : i = id
    · rw [if_pos hi] at q2 ⊢; exact q2
    · rw [if_neg hi] at q2 ⊢; exact q2

/-- One round of a loop. -/
theorem Runs.round {a : AC} {Q : Ex → TM → Heap → Prop} (hx : Runs C a tm h (Then C (.loop a) Q)) : Runs C (.loop a) tm h Q := by
  obtain ⟨n, e, t, h', q1, q2⟩ := hx
  cases e with
  | normal =>
    obtain ⟨m, e2, t2, h2, g1, g2⟩ := q2
    refine ⟨max n m + 1, e2, t2, h2, ?_, g2⟩
    simp only [execC]
    rw [exec_up (show n ≤ max n m + 1 by omega) q1]
    show (run C (max n m + 1)).2 (.loop a) t h' = _
    simp only [run]
    exact exec_up (Nat.le_max_right n m) g1
  | exit id => exact ⟨n, _, t, h', by simp only [execC, q1], q2⟩
  | ret => exact ⟨n, _, t, h', by simp only [execC, q1], q2⟩

/-- A loop: what holds at each round's head, and a number that falls. -/
theorem Runs.loop {a : AC} {Q : Ex → TM → Heap → Prop} {σ : Type} (I : σ → TM → Heap → Prop) (μ : σ → Nat) (s0 : σ) (h0 : I s0 tm h)
    (step : ∀ s t h, I s t h → Runs C a t h (fun e t' h' => match e with | .normal => ∃ s', I s' t' h' ∧ μ s' < μ s | e => Q e t' h')) : Runs C (.loop a) tm h Q := by
  have key : ∀ m s t h, μ s = m → I s t h → Runs C (.loop a) t h Q := by
    intro m
    induction m using Nat.strongRecOn with
    | _ m ih =>
      intro s t h hm hi
      refine Runs.round ((step s t h hi).mono fun e t' h' hq => ?_)
      cases e with
      | normal =>
        obtain ⟨s', g1, g2⟩ := hq
        exact ih (μ s') (by omega) s' t' h' rfl g1
      | exit id => exact hq
      | ret => exact hq
  exact key _ s0 tm h rfl h0

/-! ### Code that defers nothing, and ranges over no function -/
def AC.plain : AC → Bool
  | .ops l => l.all fun o => !(o.dst == some DX)
  | .draw l => l.all fun o => !(o.o.dst == some DX)
  | .seq a b => a.plain && b.plain
  | .cond _ a b => a.plain && b.plain
  | .block _ c => c.plain
  | .loop c => c.plain
  | .defr _ _ => false
  | .range _ _ _ _ _ => false
  | _ => true
theorem put_keepDX {d : Option Nat} (hd : (!(d == some DX)) = true) (tm : TM) (v : V) : (TM.put tm d v).get DX = tm.get DX := by
  cases d with
  | none => rfl
  | some d =>
    simp only [TM.put]
    refine TM.get_set_ne _ _ _ _ fun e => ?_
    subst e
    simp at hd
theorem runOps_DX {c : CallF} : ∀ (l : List AOp) {tm tm' : TM} {h h' : Heap}, (l.all fun o => !(o.dst == some DX)) = true → runOps c l tm h = some (tm', h') → tm'.get DX = tm.get DX
  | [], _, _, _, _, _, hx => by cases hx; rfl
  | o :: l, tm, tm', h, h', hp, hx => by
    simp only [List.all_cons, Bool.and_eq_true] at hp
    unfold runOps at hx
    split at hx
    · rename_i tm2 h2 hst
      rw [runOps_DX l hp.2 hx]
      unfold stepOp at hst
      split at hst
      · split at hst
        · cases hst; exact put_keepDX hp.1 _ _
        · cases hst
      · cases hst; exact put_keepDX hp.1 _ _
      · cases hst
    · cases hx
theorem traceD_DX {c : CallF} : ∀ (l : List DOp) {tr : List (DOp × Log)} {tm tm' : TM} {h h' : Heap}, (l.all fun o => !(o.o.dst == some DX)) = true → traceDraw c l tm h = some (tr, tm', h') → tm'.get DX = tm.get DX
  | [], _, _, _, _, _, _, hx => by cases hx; rfl
  | o :: l, tr, tm, tm', h, h', hp, hx => by
    simp only [List.all_cons, Bool.and_eq_true] at hp
    unfold traceDraw at hx
    split at hx
    · split at hx
      · rename_i hh; cases hx; rw [traceD_DX l hp.2 hh]; exact put_keepDX hp.1 _ _
      · cases hx
    · split at hx
      · split at hx
        · rename_i hh; cases hx; rw [traceD_DX l hp.2 hh]; exact put_keepDX hp.1 _ _
        · cases hx
      · cases hx
    · cases hx
def LoopDX (L : LoopF) : Prop := ∀ a tm h e tm' h', AC.plain a = true → L a tm h = some (e, tm', h') → tm'.get DX = tm.get DX
theorem exec_DX {c : CallF} {L : LoopF} (hL : LoopDX L) : ∀ (a : AC) {tm tm' : TM} {h h' : Heap} {e : Ex}, a.plain = true → execC c L a tm h = some (e, tm', h') → tm'.get DX = tm.get DX
  | .skip, _, _, _, _, _, _, hx => by cases hx; rfl
  | .ops l, tm, tm', h, h', e, hp, hx => by
    unfold execC at hx
    split at hx
    · rename_i q; cases hx; exact runOps_DX l hp q
    · cases hx
  | .draw l, tm, tm', h, h', e, hp, hx => by
    unfold execC at hx
    split at hx
    · rename_i q; cases hx
      unfold runDraw at q
      split at q
      · rename_i q2
        split at q
        · cases q; exact traceD_DX l hp q2
        · cases q
      · cases q
    · cases hx
  | .seq a b, tm, tm', h, h', e, hp, hx => by
    simp only [AC.plain, Bool.and_eq_true] at hp
    unfold execC at hx
    split at hx
    · rename_i q; rw [exec_DX hL b hp.2 hx, exec_DX hL a hp.1 q]
    · exact exec_DX hL a hp.1 hx
  | .cond x a b, tm, tm', h, h', e, hp, hx => by
    simp only [AC.plain, Bool.and_eq_true] at hp
    unfold execC at hx
    split at hx
    · split at hx
      · exact exec_DX hL a hp.1 hx
      · exact exec_DX hL b hp.2 hx
    · cases hx
  | .block id a, tm, tm', h, h', e, hp, hx => by
    simp only [AC.plain] at hp
    unfold execC at hx
    split at hx
    · rename_i q; cases hx; exact exec_DX hL a hp q
    · exact exec_DX hL a hp hx
  | .loop a, tm, tm', h, h', e, hp, hx => by
    simp only [AC.plain] at hp
    unfold execC at hx
    split at hx
    · rename_i q; rw [hL (.loop a) _ _ _ _ _ (by simpa only [AC.plain] using hp) hx, exec_DX hL a hp q]
    · exact exec_DX hL a hp hx
  | .exit id, _, _, _, _, _, _, hx => by cases hx; rfl
  | .ret, _, _, _, _, _, _, hx => by cases hx; rfl
  | .bad, _, _, _, _, _, _, hx => by cases hx
  | .range .., _, _, _, _, _, hp, _ => by cases hp
  | .defr .., _, _, _, _, _, hp, _ => by cases hp
theorem run_DX (C : Cfg) : ∀ n, LoopDX (run C n).2
  | 0 => by intro a tm h e tm' h' _ hx; simp [run] at hx
  | n + 1 => fun a tm h e tm' h' hp hx => exec_DX (run_DX C n) a hp hx

/-- A call of a function of the table. -/
theorem Gives.body {f : Nat} {af : AFunc} {args : List V} {v : V} {h' : Heap} (hS : C.S f args h = none) (hF : C.F f = some af) (hl : args.length = af.nparams) (hpl : af.body.plain = true) (hdx : args.length ≤ DX)
    (hx : Runs C af.body (argsTM 0 args .nil) { h with low := h.size } fun e t h1 => (∀ id, e ≠ .exit id) ∧ ∃ vs, ressA t h1 af.results = some vs ∧ closeCall h (oneOf vs) h1 = (v, h')) : Gives C f args h v h' := by
  obtain ⟨n, e, t, h1, q1, q2, vs, q3, q4⟩ := hx
  refine ⟨n + 1, ?_⟩
  have hd : deferred t = [] := by
    unfold deferred
    rw [exec_DX (run_DX C n) _ hpl q1, argsTM_DX _ _ _ (by omega), TM.get_nil]
  simp only [run, runF, hS, hF]
  unfold callBody
  rw [if_pos hl]
  rw [q1]
  cases e with
  | exit id => exact absurd rfl (q2 id)
  | normal => simp only [hd, runDefers, q3, q4]
  | ret => simp only [hd, runDefers, q3, q4]

theorem Gives.of {n f : Nat} {args : List V} {v : V} {h' : Heap} (hx : (run C n).1 (.fn f) args h = some (v, h')) : Gives C f args h v h' := ⟨n, hx⟩
theorem Gives.sum {f : Nat} {args : List V} {v : V} {h' : Heap} (hS : C.S f args h = some (some (v, h'))) : Gives C f args h v h' := ⟨1, by simp only [run, runF, hS]⟩
end
end
end Abs
end Go.Proofs.YtbjpoelgcehidaaGreatDoor
