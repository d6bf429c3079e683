/- The abstract machine's memory alone: what a run leaves as it was. The abstract machine's code is the model's: regions in the order of the text. The abstract machine's code is the model's: regions whose order is drawn. The abstract machine's code is the model's: a drawn region, in whatever order its edges allow. -/
import Derived.Test.YtbjpoelgcehidaaGreatDoorA13
import Derived.CallsIn
import Derived.OrdersIn
namespace Go.Proofs.YtbjpoelgcehidaaGreatDoor
namespace Abs
set_option linter.unusedVariables false
set_option linter.unusedSimpArgs false
open Go.RowKit

/-- What lies below the mark is as it was. -/
structure HM (h h' : Heap) : Prop where
  size : h.size ≤ h'.size
  low : h'.low ≤ h.low
  get : ∀ b, b < h'.low → b < h.size → h'.get b = h.get b

theorem HM.refl (h : Heap) : HM h h := ⟨Nat.le_refl _, Nat.le_refl _, fun _ _ _ => rfl⟩
theorem HM.trans {a b c : Heap} (h : HM a b) (k : HM b c) : HM a c :=
  ⟨Nat.le_trans h.size k.size, Nat.le_trans k.low h.low, fun x h1 h2 => (k.get x h1 (Nat.lt_of_lt_of_le h2 h.size)).trans (h.get x (Nat.lt_of_lt_of_le h1 k.low) h2)⟩
theorem HM.put (h : Heap) (b : Nat) (o : Obj) : HM h (h.put b o) :=
  ⟨Nat.le_refl _, Nat.min_le_left _ _, fun x h1 h2 => by
    have : x < min h.low b := h1
    rw [Heap.get_put, if_neg (by omega)]⟩
theorem HM.push (h : Heap) (o : Obj) : HM h (h.push o) :=
  ⟨Nat.le_succ _, Nat.le_refl _, fun x h1 h2 => by rw [Heap.get_push, if_neg (by omega)]⟩
theorem HM.kill : ∀ (S : List Nat) (h : Heap), HM h (h.kill S)
  | [], h => HM.refl h
  | b :: r, h => by
    unfold Heap.kill
    split
    · exact (HM.put h b .dead).trans (HM.kill r _)
    · exact HM.kill r h
theorem HM.wr {h h' : Heap} {b o : Nat} {vs : List V} (hw : h.wr b o vs = some h') : HM h h' := by
  unfold Heap.wr at hw
  split at hw
  · split at hw
    · cases hw; exact (HM.kill _ h).trans (HM.put _ _ _)
    · cases hw
  · cases hw

theorem HM.core {h h' : Heap} {sz bytes n : Nat} {tyK : Option Nat} {x v : V} {items : List V} (hc : appendCore h sz bytes tyK x n items = some (v, h')) : HM h h' := by
  unfold appendCore at hc
  split at hc
  · split at hc
    · cases hc; exact HM.refl _
    · split at hc
      · cases hc; exact HM.push _ _
      · cases hc
  · split at hc
    · split at hc
      · cases hc; exact HM.refl _
      · split at hc
        · rename_i h2 hw; cases hc; exact HM.wr hw
        · cases hc
    · split at hc
      · split at hc
        · cases hc; exact HM.push _ _
        · cases hc
      · cases hc
  · split at hc
    · split at hc
      · cases hc; exact HM.refl _
      · split at hc
        · rename_i h2 hw; cases hc; exact HM.wr hw
        · cases hc
    · split at hc
      · split at hc
        · split at hc
          · cases hc; exact (HM.put _ _ _).trans (HM.push _ _)
          · cases hc
        · cases hc
      · cases hc
  · cases hc

theorem HM.next {h h' : Heap} {rb : Nat} {v : V} (hx : nextA h rb = some (v, h')) : HM h h' := by
  unfold nextA at hx
  split at hx
  · cases hx; exact HM.refl _
  · split at hx
    · split at hx
      · split at hx
        · cases hx; exact HM.refl _
        · cases hx; exact HM.put _ _ _
        · cases hx
      · cases hx
    · cases hx
  · cases hx
theorem ent_same {h h' : Heap} {rb : Nat} {v : V} (hx : entA h rb = some (v, h')) : h' = h := by
  unfold entA at hx
  split at hx
  · split at hx
    · split at hx
      · split at hx
        · cases hx; rfl
        · cases hx
      · cases hx
    · cases hx
  · cases hx
theorem HM.ent {h h' : Heap} {rb : Nat} {v : V} (hx : entA h rb = some (v, h')) : HM h h' := by
  rw [ent_same hx]; exact HM.refl _
theorem HM.op {k : K} {tm : TM} {h h' : Heap} {v : V} (hx : opK k tm h = some (v, h')) : HM h h' := by
  cases k <;> simp only [opK] at hx
  case store n a x =>
    split at hx
    · split at hx
      · rename_i h2 hh
        cases hx
        unfold storeA at hh
        split at hh
        · split at hh
          · exact HM.wr hh
          · cases hh
        · cases hh
      · cases hx
    · cases hx
  case append sz bt ty x y =>
    split at hx
    · unfold appendA at hx
      split at hx
      · split at hx
        · split at hx
          · exact HM.core hx
          · cases hx
        · cases hx
      · cases hx
    · cases hx
  case unsStr bt x n =>
    split at hx
    · unfold unsStrA at hx
      split at hx
      · split at hx
        · split at hx
          · cases hx; exact HM.refl _
          · cases hx
        · split at hx
          · cases hx; exact HM.refl _
          · split at hx
            · split at hx
              · split at hx
                · cases hx; exact HM.put _ _ _
                · cases hx
              · cases hx
            · cases hx
        · cases hx
      · cases hx
    · cases hx
  case appendS ty x y =>
    split at hx
    · unfold appendSA at hx
      split at hx
      · exact HM.core hx
      · cases hx
    · cases hx
  case copy sz x y =>
    split at hx
    · unfold copyA at hx
      split at hx
      · split at hx
        · split at hx
          · split at hx
            · cases hx; exact HM.refl _
            · split at hx
              · rename_i h2 hw; cases hx; exact HM.wr hw
              · cases hx
          · split at hx
            · cases hx; exact HM.refl _
            · split at hx
              · rename_i h2 hw; cases hx; exact HM.wr hw
              · cases hx
          · cases hx; exact HM.refl _
          · cases hx
        · cases hx
      · cases hx
    · cases hx
  case clear sz z x =>
    split at hx
    · unfold clearA at hx
      split at hx
      · cases hx
      · cases hx; exact HM.refl _
      · split at hx
        · split at hx
          · rename_i h2 hw; cases hx; exact HM.wr hw
          · cases hx
        · split at hx
          · rename_i h2 hw; cases hx; exact HM.wr hw
          · cases hx
        · cases hx
    · cases hx
  case makeSl sz bt z l c =>
    split at hx
    · unfold makeSlA at hx
      split at hx
      · split at hx
        · cases hx; exact HM.push _ _
        · cases hx
      · cases hx
    · cases hx
  case mapUpd kk m k v2 =>
    split at hx
    · split at hx
      · rename_i h2 hh
        cases hx
        unfold mapUpdA at hh
        split at hh
        · split at hh
          · split at hh
            · cases hh; exact HM.put _ _ _
            · cases hh
          · cases hh
        · cases hh
      · cases hx
    · cases hx
  case mapDel kk m k =>
    split at hx
    · split at hx
      · rename_i h2 hh
        cases hx
        unfold mapDelA at hh
        split at hh
        · cases hh; exact HM.refl _
        · split at hh
          · split at hh
            · cases hh; exact HM.put _ _ _
            · cases hh
          · cases hh
        · cases hh
      · cases hx
    · cases hx
  case mapEnt kk z m k =>
    split at hx
    · unfold mapEntA at hx
      split at hx
      · split at hx
        · split at hx
          · split at hx
            · cases hx; exact HM.put _ _ _
            · cases hx; exact HM.put _ _ _
            · cases hx
          · cases hx
        · cases hx
      · cases hx
    · cases hx
  case entSt m s x =>
    split at hx
    · split at hx
      · rename_i h2 hh
        cases hx
        unfold entStA at hh
        split at hh
        · split at hh
          · split at hh
            · split at hh
              · cases hh; exact HM.put _ _ _
              · cases hh
            · cases hh
          · cases hh
        · cases hh
      · cases hx
    · cases hx
  case nextM x =>
    split at hx
    · exact HM.next hx
    · cases hx
  case entM x =>
    split at hx
    · exact HM.ent hx
    · cases hx
  all_goals first
    | (cases hx; done)
    | (cases hx; exact HM.push _ _)
    | ((repeat' split at hx) <;> first | (cases hx; done) | (cases hx; exact HM.refl _) | (cases hx; exact HM.push _ _))

def CallHM (call : CallF) : Prop := ∀ f args h v h', call f args h = some (v, h') → HM h h'
def LoopHM (L : LoopF) : Prop := ∀ c tm h ex tm' h', L c tm h = some (ex, tm', h') → HM h h'

theorem HM.opA {call : CallF} (hc : CallHM call) {k : K} {tm : TM} {h h' : Heap} {v : V} (hx : opA call k tm h = some (v, h')) : HM h h' := by
  unfold Abs.opA at hx
  split at hx
  · split at hx
    · exact hc _ _ _ _ _ hx
    · exact hc _ _ _ _ _ hx
    · cases hx
  · split at hx
    · split at hx
      · exact hc _ _ _ _ _ hx
      · split at hx
        · split at hx
          · exact hc _ _ _ _ _ hx
          · cases hx
        · cases hx
    · cases hx
  · split at hx
    · split at hx
      · exact hc _ _ _ _ _ hx
      · cases hx
    · cases hx
  · exact HM.op hx

theorem HM.step {call : CallF} (hc : CallHM call) {o : AOp} {tm tm' : TM} {h h' : Heap} (hx : stepOp call o tm h = some (tm', h')) : HM h h' := by
  unfold stepOp at hx
  split at hx
  · split at hx
    · rename_i v h2 hh; cases hx; exact HM.opA hc hh
    · cases hx
  · cases hx; exact HM.refl _
  · cases hx

theorem HM.ops {call : CallF} (hc : CallHM call) : ∀ (l : List AOp) {tm tm' : TM} {h h' : Heap} (hx : runOps call l tm h = some (tm', h')), HM h h'
  | [], _, _, _, _, hx => by cases hx; exact HM.refl _
  | o :: r, tm, tm', h, h', hx => by
    unfold runOps at hx
    split at hx
    · rename_i tm2 h2 hh
      exact (HM.step hc hh).trans (HM.ops hc r hx)
    · cases hx

theorem HM.trace {call : CallF} (hc : CallHM call) : ∀ (l : List DOp) {tr : List (DOp × Log)} {tm tm' : TM} {h h' : Heap} (hx : traceDraw call l tm h = some (tr, tm', h')), HM h h'
  | [], _, _, _, _, _, hx => by cases hx; exact HM.refl _
  | o :: r, tr, tm, tm', h, h', hx => by
    unfold traceDraw at hx
    split at hx
    · split at hx
      · rename_i q1 q2 q3 hh; cases hx; exact HM.trace hc r hh
      · cases hx
    · split at hx
      · rename_i v h2 hh
        split at hx
        · rename_i q1 q2 q3 hh2; cases hx; exact (HM.opA hc hh).trans (HM.trace hc r hh2)
        · cases hx
      · cases hx
    · cases hx
theorem HM.draw {call : CallF} (hc : CallHM call) (l : List DOp) {tm tm' : TM} {h h' : Heap} (hx : runDraw call l tm h = some (tm', h')) : HM h h' := by
  unfold runDraw at hx
  split at hx
  · rename_i tr q1 q2 hh
    split at hx
    · cases hx; exact HM.trace hc l hh
    · cases hx
  · cases hx

theorem HM.exec {call : CallF} {L : LoopF} (hc : CallHM call) (hl : LoopHM L) : ∀ (c : AC) {tm tm' : TM} {h h' : Heap} {ex : Ex} (hx : execC call L c tm h = some (ex, tm', h')), HM h h'
  | .skip, _, _, _, _, _, hx => by cases hx; exact HM.refl _
  | .ops l, tm, tm', h, h', ex, hx => by
    unfold execC at hx
    split at hx
    · rename_i a b hh; cases hx; exact HM.ops hc l hh
    · cases hx
  | .draw l, tm, tm', h, h', ex, hx => by
    unfold execC at hx
    split at hx
    · rename_i a b hh; cases hx; exact HM.draw hc l hh
    · cases hx
  | .seq a b, tm, tm', h, h', ex, hx => by
    unfold execC at hx
    split at hx
    · rename_i tm2 h2 hh
      exact (HM.exec hc hl a hh).trans (HM.exec hc hl b hx)
    · exact HM.exec hc hl a hx
  | .cond x a b, tm, tm', h, h', ex, hx => by
    unfold execC at hx
    split at hx
    · split at hx
      · exact HM.exec hc hl a hx
      · exact HM.exec hc hl b hx
    · cases hx
  | .block id c, tm, tm', h, h', ex, hx => by
    unfold execC at hx
    split at hx
    · rename_i i tm2 h2 hh; cases hx; exact HM.exec hc hl c hh
    · exact HM.exec hc hl c hx
  | .loop c, tm, tm', h, h', ex, hx => by
    unfold execC at hx
    split at hx
    · rename_i tm2 h2 hh
      exact (HM.exec hc hl c hh).trans (hl _ _ _ _ _ _ hx)
    · exact HM.exec hc hl c hx
  | .exit id, _, _, _, _, _, hx => by cases hx; exact HM.refl _
  | .ret, _, _, _, _, _, hx => by cases hx; exact HM.refl _
  | .bad, _, _, _, _, _, hx => by cases hx
  | .range nt f ps a b, tm, tm', h, h', ex, hx => by
    unfold execC at hx
    split at hx
    · split at hx
      · rename_i v h2 hh
        have h3 := ((HM.push h .dfr).trans (HM.push _ _)).trans (hc _ _ _ _ _ hh)
        split at hx
        · split at hx
          · cases hx
          · cases hx; exact h3.trans (HM.put _ _ _)
        · cases hx
      · cases hx
    · cases hx
  | .defr f args, tm, tm', h, h', ex, hx => by
    unfold execC at hx
    split at hx
    · cases hx; exact HM.refl _
    · cases hx

theorem HM.yield {exec : LoopF} (he : LoopHM exec) {b : Nat} {vs : List V} {h h' : Heap} {v : V} (hx : yieldBody exec b vs h = some (v, h')) : HM h h' := by
  unfold yieldBody at hx
  split at hx
  · split at hx
    · split at hx
      · rename_i h2 hh
        have q1 := he _ _ _ _ _ _ hh
        split at hx
        · split at hx
          · rename_i h3 hh3
            have q2 := q1.trans ((HM.put h2 b _).trans (he _ _ _ _ _ _ hh3))
            split at hx
            · split at hx
              · cases hx; exact q2.trans (HM.put _ _ _)
              · cases hx; exact q2.trans (HM.put _ _ _)
            · cases hx
          · cases hx
        · cases hx
      · cases hx
    · cases hx
  · cases hx

theorem HM.defers {C : Cfg} {exec : LoopF} (he : LoopHM exec) : ∀ (l : List V) {h h' : Heap} (hx : runDefers C exec l h = some h'), HM h h' := by
  intro l
  induction l with
  | nil => intro h h' hx; simp only [runDefers] at hx; cases hx; exact HM.refl _
  | cons x r ih =>
    intro h h' hx
    unfold runDefers at hx
    split at hx
    · rename_i he2; cases he2
    · rename_i he2
      cases he2
      split at hx
      · exact (HM.put _ _ _).trans (ih hx)
      · cases hx
    · rename_i he2
      cases he2
      split at hx
      · exact ih hx
      · split at hx
        · split at hx
          · split at hx
            · cases hx
            · rename_i hh
              split at hx
              · exact (he _ _ _ _ _ _ hh).trans (ih hx)
              · cases hx
            · cases hx
          · cases hx
        · cases hx
    · cases hx

theorem HM.close {h h1 : Heap} (hm : HM { h with low := h.size } h1) (v : V) : HM h (closeCall h v h1).2 := by
  unfold closeCall
  split
  · exact HM.refl _
  · exact ⟨hm.size, Nat.min_le_left _ _, fun b h2 h3 => by
      have : b < min h.low h1.low := h2
      exact hm.get b (by omega) h3⟩

theorem HM.body {C : Cfg} {exec : LoopF} (he : LoopHM exec) {af : AFunc} {args : List V} {h h' : Heap} {v : V} (hx : callBody C exec af args h = some (v, h')) : HM h h' := by
  unfold callBody at hx
  split at hx
  · split at hx
    · cases hx
    · rename_i ex tm h1 hne hh
      split at hx
      · rename_i h2 hd
        split at hx
        · rename_i vs hvs
          have := HM.close ((he _ _ _ _ _ _ hh).trans (HM.defers he _ hd)) (oneOf vs)
          have e : (closeCall h (oneOf vs) h2).2 = h' := by
            have := Option.some.inj hx
            rw [this]
          rw [← e]; exact this
        · cases hx
      · cases hx
    · cases hx
  · cases hx

theorem HM.runF (C : Cfg) (hS : ∀ f args h v h', C.S f args h = some (some (v, h')) → HM h h') {exec : LoopF} (he : LoopHM exec) {f : Nat} {args : List V} {h h' : Heap} {v : V} (hx : Abs.runF C exec f args h = some (v, h')) : HM h h' := by
  unfold Abs.runF at hx
  split at hx
  · rename_i r hr
    subst hx
    exact hS _ _ _ _ _ hr
  · split at hx
    · exact HM.body he hx
    · cases hx

theorem HM.run (C : Cfg) (hS : ∀ f args h v h', C.S f args h = some (some (v, h')) → HM h h') : ∀ n, CallHM (Abs.run C n).1 ∧ LoopHM (Abs.run C n).2
  | 0 => by
    refine ⟨?_, ?_⟩
    · intro f args h v h' hx; simp [Abs.run] at hx
    · intro c tm h ex tm' h' hx; simp [Abs.run] at hx
  | n + 1 => by
    obtain ⟨h1, h2⟩ := HM.run C hS n
    have hl : LoopHM (Abs.run C (n + 1)).2 := fun c tm h ex tm' h' hx => HM.exec h1 h2 c hx
    refine ⟨fun f args h v h' hx => ?_, hl⟩
    simp only [Abs.run] at hx
    split at hx
    · exact HM.runF C hS hl hx
    · exact HM.yield hl hx
end Abs
end Go.Proofs.YtbjpoelgcehidaaGreatDoor
namespace Go.Proofs.YtbjpoelgcehidaaGreatDoor
namespace Abs
set_option linter.unusedVariables false
set_option linter.unusedSimpArgs false
open Go.RowKit

section
variable {P : Program} {B : Nat} {w0 : World}

/-- What a call hands back and leaves. -/
def Ret (P : Program) (B : Nat) (w0 : World) (ρ : Rho) (n : Nat) (v : V) (h' : Heap) : Value → World → Prop := fun u w' => ∃ ρ', VR ρ' v u ∧ Rel P B w0 ρ' h' w' ∧ New ρ ρ' n
def RetE (P : Program) (B : Nat) (w0 : World) (ρ : Rho) (n : Nat) (v : V) (h' : Heap) : Ending → World → Prop
  | .returned u, w' => Ret P B w0 ρ n v h' u w'
  | _, _ => False

/-- A call of the abstract machine's is the model's. -/
def CallSnd (P : Program) (B : Nat) (w0 : World) (ρ : Rho) (f : Nat) (us : Array Value) (w : World) (h : Heap) (v : V) (h' : Heap) : Prop :=
  ((callFunc f us).run P w = .ok (.enter f us) w ∧ ∀ n, CallsIn Fence.wide n P f us w (RetE P B w0 ρ h.size v h')) ∨
  (∃ u w', (callFunc f us).run P w = .ok (.value u) w' ∧ Ret P B w0 ρ h.size v h' u w')

/-- A round of the abstract machine's is the model's. -/
def YieldSnd (P : Program) (B : Nat) (w0 : World) (ρ : Rho) (l : Nat) (us : Array Value) (w : World) (h : Heap) (v : V) (h' : Heap) : Prop :=
  ∃ f tmps asg body, (Instr.yield l us).run P w = .ok (.round l f tmps asg body) w ∧ ∀ n, RoundIn Fence.wide n P l f tmps asg body w (RetE P B w0 ρ h.size v h')

structure CallOk (P : Program) (B : Nat) (w0 : World) (call : CallF) : Prop where
  fn : ∀ f args h v h', call (.fn f) args h = some (v, h') → ∀ (ρ : Rho) (w : World) (us : Array Value), Rel P B w0 ρ h w → VRs ρ args us.toList → CallSnd P B w0 ρ f us w h v h'
  yl : ∀ b args h v h', call (.yl b) args h = some (v, h') → ∀ (ρ : Rho) (w : World) (us : Array Value) (e : Emb), Rel P B w0 ρ h w → ρ b = some e → VRs ρ args us.toList → YieldSnd P B w0 ρ e.blk us w h v h'

/-- The fence that lets all in, at a function's body or a round's. -/
def Fw (ro : Option Nat) : Fence := { Fence.wide with round := ro }
theorem round_fw {ro : Option Nat} {n l : Nat} {f : FuncId} {tmps : Array Value} {asg body : Code} {w : World} {R : Ending → World → Prop} (h : RoundIn Fence.wide n P l f tmps asg body w R) : RoundIn (Fw ro) n P l f tmps asg body w R := h
theorem calls_fw {ro : Option Nat} {n : Nat} {f : FuncId} {us : Array Value} {w : World} {R : Ending → World → Prop} (h : CallsIn Fence.wide n P f us w R) : CallsIn (Fw ro) n P f us w R := h
theorem fw_fn {ro : Option Nat} (f : FuncId) : (Fw ro).fn f := trivial
theorem fw_depth {ro : Option Nat} {n : Nat} : (Fw ro).depth.isSome = true → 1 ≤ n := fun h => absurd h (by simp [Fw, Fence.wide])

inductive ExR : Ex → Exit → Prop where
  | normal : ExR .normal .normal
  | exit (id : Nat) : ExR (.exit id) (.exit id)
  | ret : ExR .ret .ret

/-- What is deferred. -/
inductive DefR (ρ : Rho) : List V → List Deferred → Prop where
  | nil : DefR ρ [] []
  | mark (b : Nat) (e : Emb) (r : Nat) (x : List V) (ds : List Deferred) (h : ρ b = some e) (hr : r = e.blk) (t : DefR ρ x ds) : DefR ρ (.yld b :: x) ({ target := .collected r, args := #[] } :: ds)
  | call (f : FuncId) (vs : List V) (cap as : Array Value) (x : List V) (ds : List Deferred) (h : VRs ρ vs (as ++ cap).toList) (t : DefR ρ x ds) : DefR ρ (.tuple [.func (.func f) [] [], .tuple vs] :: x) ({ target := .fn (.func f) cap, args := as } :: ds)
theorem DefR.mono {ρ ρ' : Rho} (hρ : RLe ρ ρ') : ∀ {x : List V} {ds : List Deferred}, DefR ρ x ds → DefR ρ' x ds
  | _, _, .nil => .nil
  | _, _, .mark b e r x ds h hr t => .mark b e r x ds (hρ _ _ h) hr (t.mono hρ)
  | _, _, .call f vs cap as x ds h t => .call f vs cap as x ds (h.mono hρ) (t.mono hρ)
/-- An activation, as the abstract machine sees it. -/
def ActR (ρ : Rho) (nt : Nat) (ro : Option Nat) (tm : TM) (a : Act) : Prop := TMR ρ nt tm a.tmps ∧ (ro = none → DefR ρ (deferred tm) a.defers)
theorem deferred_eq {tm tm' : TM} (h : tm'.get DX = tm.get DX) : deferred tm' = deferred tm := by unfold deferred; rw [h]
theorem ActR.next {ρ ρ' : Rho} {nt : Nat} {ro : Option Nat} {tm tm' : TM} {a a' : Act} (h : ActR ρ nt ro tm a) (ht : TMR ρ' nt tm' a'.tmps) (hρ : RLe ρ ρ') (hd : a'.defers = a.defers) (hx : tm'.get DX = tm.get DX) : ActR ρ' nt ro tm' a' :=
  ⟨ht, fun hr => by rw [deferred_eq hx, hd]; exact (h.2 hr).mono hρ⟩

/-- What a piece of code leaves. -/
def Post (P : Program) (B : Nat) (w0 : World) (ρ : Rho) (n nt : Nat) (ro : Option Nat) (ex : Ex) (tm' : TM) (h' : Heap) : Exit → Act → World → Prop :=
  fun e a' w' => ExR ex e ∧ ∃ ρ', ActR ρ' nt ro tm' a' ∧ Rel P B w0 ρ' h' w' ∧ New ρ ρ' n

theorem not_defer {o : Oper} {k : K} (hk : kC P o = some k) : ∀ c, o.op ≠ .defer c := by
  intro c hc
  unfold kC at hk
  rw [hc] at hk
  cases hk

theorem about_ok {ro : Option Nat} {o : Oper} {w : World} {a : Act} : ∀ f, o.about P w a.eval = some f → (Fw ro).fn f := fun f _ => trivial

theorem up_done {ro : Option Nat} {n : Nat} {o : Oper} {a : Act} {w w' : World} {u : Value} {next : Act → World → Prop} {Q : Exit → Act → World → Prop} (hnd : ∀ c, o.op ≠ .defer c) (hd : Done P o a w u w') (hn : next (a.put o.dst u) w') : o.wpIn (Fw ro) n P a w next Q := by
  refine ⟨about_ok, ?_⟩
  rw [Oper.semAt_eq _ _ _ hnd]
  rcases hd with hd | ⟨hd, rfl⟩
  · rw [hd]; exact hn
  · rw [hd]; exact hn

theorem put_defers (a : Act) (d : Option Tmp) (u : Value) : (a.put d u).defers = a.defers := by cases d <;> rfl

theorem kC_call {o : Oper} {f : Opd} {args : List Opd} (hk : kC P o = some (.call f args)) : ∃ g as ts, o.op = .call ⟨.value g, as, ts⟩ ∧ opdC g = some f ∧ opdsC as.toList = some args := by
  obtain ⟨dst, op, type, pos, after, guard⟩ := o
  cases op
  case call c =>
    obtain ⟨callee, as, ts⟩ := c
    cases callee
    case value g =>
      simp only [kC] at hk
      split at hk
      · rename_i g' as' hg has
        cases hk
        exact ⟨g, as, ts, rfl, hg, has⟩
      · cases hk
    case invoke => simp only [kC] at hk; (repeat' split at hk) <;> cases hk
    case builtin b =>
      simp only [kC] at hk
      cases b <;> simp only [builtinC, lenC, appendC, copyC, clearC, deleteC, mmC, mmNC] at hk <;> first
        | (cases hk; done)
        | ((repeat' split at hk) <;> first | (cases hk; done))
  case makeFunc fn x y =>
    cases fn <;> simp only [kC] at hk <;> first
      | (cases hk; done)
      | ((repeat' split at hk) <;> first | (cases hk; done))
  case makeMap t r => cases r <;> simp [kC] at hk
  case next x is => cases is <;> simp only [kC] at hk <;> first | (cases hk; done) | ((repeat' split at hk) <;> first | (cases hk; done))
  case typeAssert x xt at_ ok => cases ok <;> simp only [kC] at hk <;> (repeat' split at hk) <;> cases hk
  case binOp op t x y t2 =>
    simp only [kC, binC] at hk
    (repeat' split at hk) <;> first
      | (cases hk; done)
      | (rename_i hn; cases hk; obtain ⟨_, _, q, _⟩ := isNil_run (P := P) hn; cases q)
  all_goals simp only [kC, sliceC, convC] at hk
  all_goals first
    | (cases hk; done)
    | ((repeat' split at hk) <;> first | (cases hk; done))
theorem kC_invoke {o : Oper} {tbl : List (Nat × Nat)} {f : Opd} {args : List Opd} (hk : kC P o = some (.invoke tbl f args)) : ∃ g name as ts, o.op = .call ⟨.invoke g name, as, ts⟩ ∧ tbl = methsC P name ∧ opdC g = some f ∧ opdsC as.toList = some args := by
  obtain ⟨dst, op, type, pos, after, guard⟩ := o
  cases op
  case call c =>
    obtain ⟨callee, as, ts⟩ := c
    cases callee
    case value g => simp only [kC] at hk; split at hk <;> cases hk
    case invoke g name =>
      simp only [kC] at hk
      split at hk
      · rename_i g' as' hg has
        split at hk
        · cases hk
          exact ⟨g, name, as, ts, rfl, rfl, hg, has⟩
        · cases hk
      · cases hk
    case builtin b =>
      simp only [kC] at hk
      cases b <;> simp only [builtinC, lenC, appendC, copyC, clearC, deleteC, mmC, mmNC] at hk <;> first
        | (cases hk; done)
        | ((repeat' split at hk) <;> first | (cases hk; done))
  case makeFunc fn x y =>
    cases fn <;> simp only [kC] at hk <;> first
      | (cases hk; done)
      | ((repeat' split at hk) <;> first | (cases hk; done))
  case makeMap t r => cases r <;> simp [kC] at hk
  case next x is => cases is <;> simp only [kC] at hk <;> first | (cases hk; done) | ((repeat' split at hk) <;> first | (cases hk; done))
  case typeAssert x xt at_ ok => cases ok <;> simp only [kC] at hk <;> (repeat' split at hk) <;> cases hk
  case binOp op t x y t2 =>
    simp only [kC, binC] at hk
    (repeat' split at hk) <;> first
      | (cases hk; done)
      | (rename_i hn; cases hk; obtain ⟨_, _, q, _⟩ := isNil_run (P := P) hn; cases q)
  all_goals simp only [kC, sliceC, convC] at hk
  all_goals first
    | (cases hk; done)
    | ((repeat' split at hk) <;> first | (cases hk; done))

theorem kC_invokeV {o : Oper} {tbl : List (Nat × Nat)} {tbl2 : List (Nat × Nat × Option Nat)} {f : Opd} {args : List Opd} (hk : kC P o = some (.invokeV tbl tbl2 f args)) : ∃ g name as ts, o.op = .call ⟨.invoke g name, as, ts⟩ ∧ tbl = methsC P name ∧ tbl2 = methsVC P name ∧ opdC g = some f ∧ opdsC as.toList = some args := by
  obtain ⟨dst, op, type, pos, after, guard⟩ := o
  cases op
  case call c =>
    obtain ⟨callee, as, ts⟩ := c
    cases callee
    case value g => simp only [kC] at hk; split at hk <;> cases hk
    case invoke g name =>
      simp only [kC] at hk
      split at hk
      · rename_i g' as' hg has
        split at hk
        · cases hk
        · cases hk
          exact ⟨g, name, as, ts, rfl, rfl, rfl, hg, has⟩
      · cases hk
    case builtin b =>
      simp only [kC] at hk
      cases b <;> simp only [builtinC, lenC, appendC, copyC, clearC, deleteC, mmC, mmNC] at hk <;> first
        | (cases hk; done)
        | ((repeat' split at hk) <;> first | (cases hk; done))
  case makeFunc fn x y =>
    cases fn <;> simp only [kC] at hk <;> first
      | (cases hk; done)
      | ((repeat' split at hk) <;> first | (cases hk; done))
  case makeMap t r => cases r <;> simp [kC] at hk
  case next x is => cases is <;> simp only [kC] at hk <;> first | (cases hk; done) | ((repeat' split at hk) <;> first | (cases hk; done))
  case typeAssert x xt at_ ok => cases ok <;> simp only [kC] at hk <;> (repeat' split at hk) <;> cases hk
  case binOp op t x y t2 =>
    simp only [kC, binC] at hk
    (repeat' split at hk) <;> first
      | (cases hk; done)
      | (rename_i hn; cases hk; obtain ⟨_, _, q, _⟩ := isNil_run (P := P) hn; cases q)
  all_goals simp only [kC, sliceC, convC] at hk
  all_goals first
    | (cases hk; done)
    | ((repeat' split at hk) <;> first | (cases hk; done))

/-- What an operation comes to that calls a function. -/
theorem call_fn {ro : Option Nat} {n : Nat} {o : Oper} {fid : Nat} {us : Array Value} {ρ : Rho} {a : Act} {h : Heap} {w : World} {v : V} {h' : Heap} (hs : CallSnd P B w0 ρ fid us w h v h') {r : Result Next} (hr : r = (callFunc fid us).run P w)
    {next : Act → World → Prop} {Q : Exit → Act → World → Prop} (hn : ∀ u w', Ret P B w0 ρ h.size v h' u w' → next (a.put o.dst u) w') : o.uponIn (Fw ro) n P a next Q r := by
  subst hr
  rcases hs with ⟨q1, q2⟩ | ⟨u, w', q1, q2⟩
  · rw [q1, Oper.uponIn_enter]
    refine ⟨fw_depth, ?_⟩
    obtain ⟨g1, g2⟩ := calls_fw (ro := ro) (q2 (n - 1))
    refine ⟨g1, fun cs hr => ?_⟩
    obtain ⟨e, w', fr, q3, q4, q5, q6⟩ := g2 cs hr
    refine ⟨e, w', fr, ?_, q4, q5, q6⟩
    cases e with
    | returned u => exact hn u w' q3
    | panicked c => exact q3.elim
    | outgrown => exact q3.elim
  · rw [q1]
    exact hn u w' q2

/-- A call, as an operation. -/
theorem call_op {call : CallF} (hc : CallOk P B w0 call) {ro : Option Nat} {n nt : Nat} {o : Oper} {f : Opd} {args : List Opd} (hk : kC P o = some (.call f args)) {ρ : Rho} {tm : TM} {a : Act} {h : Heap} {w : World} (ht : TMR ρ nt tm a.tmps) (r : Rel P B w0 ρ h w)
    {v : V} {h' : Heap} (hx : opA call (.call f args) tm h = some (v, h')) {next : Act → World → Prop} {Q : Exit → Act → World → Prop}
    (hn : ∀ u w', Ret P B w0 ρ h.size v h' u w' → next (a.put o.dst u) w') : o.wpIn (Fw ro) n P a w next Q := by
  refine ⟨about_ok, ?_⟩
  rw [Oper.semAt_eq _ _ _ (not_defer hk)]
  obtain ⟨g, as, ts, hop, hg, has⟩ := kC_call hk
  obtain ⟨dst, op, type, pos, after, guard⟩ := o
  simp only at hop
  subst hop
  simp only [opA] at hx
  split at hx
  · rename_i fid first caps vs hf hvs
    have hg' := ev_sound ht hg hf
    have has' := evs_sound ht has hvs
    cases hcr : a.eval g <;> rw [hcr] at hg'
    case func fn fi cp =>
      cases hg' with
      | func _ _ _ _ _ h1 h2 =>
      have hall : VRs ρ (first ++ vs ++ caps) (fi ++ as.map a.eval ++ cp).toList := by
        simp only [Array.toList_append, Array.toList_map]
        exact (h1.append has').append h2
      refine call_fn (hc.fn _ _ _ _ _ hx ρ w (fi ++ as.map a.eval ++ cp) r hall) ?_ hn
      simp only [execOp, resolve, hcr, Deferred.ofValue, Sem.run_bind, Sem.run_pure, Result.andThen_ok, invoke]
    all_goals cases hg'
  · rename_i b vs hf hvs
    have hg' := ev_sound ht hg hf
    have has' := evs_sound ht has hvs
    cases hcr : a.eval g <;> rw [hcr] at hg'
    case func fn fi cp =>
      cases hg' with
      | yld _ e l he hl =>
      subst hl
      obtain ⟨f, tmps, asg, body, q1, q2⟩ := hc.yl _ _ _ _ _ hx ρ w (as.map a.eval) e r he (by simpa using has')
      have hrun : (execOp a.eval ⟨dst, .call ⟨.value g, as, ts⟩, type, pos, after, guard⟩).run P w = .ok (.round e.blk f tmps asg body) w := by
        simp only [execOp, resolve, hcr, Deferred.ofValue, Sem.run_bind, Sem.run_pure, Result.andThen_ok, invoke, Array.empty_append, q1]
      rw [hrun, Oper.uponIn_round]
      refine ⟨fw_depth, (round_fw (ro := ro) (q2 (n - 1))).mono fun e' w' he' => ?_⟩
      cases e' with
      | returned u => exact hn u w' he'
      | panicked c => exact he'.elim
      | outgrown => exact he'.elim
    all_goals cases hg'
  · cases hx

theorem meth_find {name : String} {t f : Nat} : ∀ {l : List Nat}, methA t (l.filterMap fun t => match P.info? t with
    | some i => match i.methods.find? (·.name == name), P.underlying t with
      | some m, some (.pointer _) => match m.path.toList, m.func with
        | [], some (f, true) => some (t, f)
        | _, _ => none
      | _, _ => none
    | none => none) = some f → ∃ i m e, P.info? t = some i ∧ i.methods.find? (·.name == name) = some m ∧ P.underlying t = some (.pointer e) ∧ m.path.toList = [] ∧ m.func = some (f, true) := by
  intro l
  induction l with
  | nil => intro h; simp [methA] at h
  | cons u l ih =>
    intro h
    rw [List.filterMap_cons] at h
    split at h
    · exact ih h
    · rename_i p hp
      split at hp
      · rename_i i hi
        split at hp
        · rename_i m e hm he
          split at hp
          · rename_i f' hpath hf
            cases hp
            simp only [methA] at h
            split at h
            · rename_i hu
              cases h; subst hu
              exact ⟨i, m, e, hi, hm, he, hpath, hf⟩
            · exact ih h
          · cases hp
        · cases hp
      · cases hp

theorem method_run {name : String} {t f : Nat} (h : methA t (methsC P name) = some f) {v : Value} {w : World} (k : Nat) : (method (k + 1) t v name).run P w = .ok (f, v) w := by
  obtain ⟨i, m, e, h1, h2, h3, h4, h5⟩ := meth_find (P := P) h
  unfold method
  simp only [typeInfo, Sem.run_bind, run_program, Result.andThen_ok, h1, Sem.run_pure, h2, h4, follow, h5, receiverAt, run_und h3, Place.get]

theorem methV_find {name : String} {t : Nat} {p : Nat × Option Nat} : ∀ {l : List Nat}, methV t (l.filterMap fun t => match P.info? t with
    | some i => match i.methods.find? (·.name == name), P.underlying t with
      | some m, some (.pointer e) => match m.path.toList, m.func, aggC P e with
        | [], some (f, false), some g => some (t, f, g)
        | _, _, _ => none
      | _, _ => none
    | none => none) = some p → ∃ i m e, P.info? t = some i ∧ i.methods.find? (·.name == name) = some m ∧ P.underlying t = some (.pointer e) ∧ m.path.toList = [] ∧ m.func = some (p.1, false) ∧ aggC P e = some p.2 := by
  intro l
  induction l with
  | nil => intro h; simp [methV] at h
  | cons u l ih =>
    intro h
    rw [List.filterMap_cons] at h
    split at h
    · exact ih h
    · rename_i q hp
      split at hp
      · rename_i i hi
        split at hp
        · rename_i m e hm he
          split at hp
          · rename_i f' g hpath hf hg
            cases hp
            simp only [methV] at h
            split at h
            · rename_i hu
              cases h; subst hu
              exact ⟨i, m, e, hi, hm, he, hpath, hf, hg⟩
            · exact ih h
          · cases hp
        · cases hp
      · cases hp
theorem wrapNil_run {w : World} (xt : TypeId) (a : Addr) (nm : String) : (Builtin.ssaWrapNilChk_ #[xt] xt #[.pointer (some a), strVal "", strVal nm]).run P w = .ok (.pointer (some a)) w := rfl
theorem methodV_run {name : String} {t : Nat} {p : Nat × Option Nat} (h : methV t (methsVC P name) = some p) {ρ : Rho} {h0 : Heap} {w : World} (r : Rel P B w0 ρ h0 w) {v u : V} {x : Value} (hx : VR ρ v x) (hl : loadA h0 p.2 v = some u) (k : Nat) :
    ∃ y, (method (k + 1) t x name).run P w = .ok (p.1, y) w ∧ VR ρ u y := by
  obtain ⟨i, m, e, h1, h2, h3, h4, h5, h6⟩ := methV_find (P := P) h
  obtain ⟨a, rfl, y, q1, q2⟩ := load_sound (P := P) r h6 hx hl
  refine ⟨y, ?_, q2⟩
  have hem : m.path.isEmpty = true := by
    cases hp : m.path with
    | mk l => rw [hp] at h4; simp at h4; subst h4; rfl
  unfold method
  simp only [typeInfo, Sem.run_bind, run_program, Result.andThen_ok, h1, Sem.run_pure, h2, h4, follow, h5, receiverAt, run_und h3, Place.get, hem, if_true, wrapNil_run, asAddr, q1]

/-- A method of an interface's, called. -/
theorem inv_op {call : CallF} (hc : CallOk P B w0 call) {ro : Option Nat} {n nt : Nat} {o : Oper} {tbl : List (Nat × Nat)} {f : Opd} {args : List Opd} (hk : kC P o = some (.invoke tbl f args)) {ρ : Rho} {tm : TM} {a : Act} {h : Heap} {w : World} (ht : TMR ρ nt tm a.tmps) (r : Rel P B w0 ρ h w)
    {v : V} {h' : Heap} (hx : opA call (.invoke tbl f args) tm h = some (v, h')) {next : Act → World → Prop} {Q : Exit → Act → World → Prop}
    (hn : ∀ u w', Ret P B w0 ρ h.size v h' u w' → next (a.put o.dst u) w') : o.wpIn (Fw ro) n P a w next Q := by
  refine ⟨about_ok, ?_⟩
  rw [Oper.semAt_eq _ _ _ (not_defer hk)]
  obtain ⟨g, name, as, ts, hop, rfl, hg, has⟩ := kC_invoke hk
  obtain ⟨dst, op, type, pos, after, guard⟩ := o
  simp only at hop
  subst hop
  simp only [opA] at hx
  split at hx
  · rename_i t v0 vs hf hvs
    split at hx
    · rename_i fid hm
      have hg' := ev_sound ht hg hf
      have has' := evs_sound ht has hvs
      cases hcr : a.eval g <;> rw [hcr] at hg'
      case iface t2 u2 =>
        cases hg' with
        | iface _ _ _ hv2 =>
        have hall : VRs ρ (v0 :: vs) (#[u2] ++ as.map a.eval).toList := by
          simp only [Array.toList_append, Array.toList_map]
          exact .cons _ _ _ _ hv2 has'
        refine call_fn (hc.fn _ _ _ _ _ hx ρ w (#[u2] ++ as.map a.eval) r hall) ?_ hn
        have hdep : 0 < Made.depth := by decide
        obtain ⟨k, hk2⟩ : ∃ k, P.types.size + Made.depth = k + 1 := ⟨P.types.size + Made.depth - 1, by omega⟩
        have h0 : (#[Value.iface t u2] ++ as.map a.eval)[0]? = some (.iface t u2) := by
          rw [← Array.getElem?_toList]; simp
        have h1 : (#[Value.iface t u2] ++ as.map a.eval).extract 1 (#[Value.iface t u2] ++ as.map a.eval).size = as.map a.eval := by
          apply Array.toList_inj.1
          simp [Array.toList_extract]
          rw [List.take_of_length_le (by simp)]
        simp only [execOp, resolve, hcr, Sem.run_bind, Sem.run_pure, Result.andThen_ok, invoke, h0, h1, callMethod, run_program, hk2, method_run hm]
      all_goals cases hg'
    · cases hx
  · cases hx

/-- .. or one that takes a value. -/
theorem invV_op {call : CallF} (hc : CallOk P B w0 call) {ro : Option Nat} {n nt : Nat} {o : Oper} {tbl : List (Nat × Nat)} {tbl2 : List (Nat × Nat × Option Nat)} {f : Opd} {args : List Opd} (hk : kC P o = some (.invokeV tbl tbl2 f args)) {ρ : Rho} {tm : TM} {a : Act} {h : Heap} {w : World} (ht : TMR ρ nt tm a.tmps) (r : Rel P B w0 ρ h w)
    {v : V} {h' : Heap} (hx : opA call (.invokeV tbl tbl2 f args) tm h = some (v, h')) {next : Act → World → Prop} {Q : Exit → Act → World → Prop}
    (hn : ∀ u w', Ret P B w0 ρ h.size v h' u w' → next (a.put o.dst u) w') : o.wpIn (Fw ro) n P a w next Q := by
  refine ⟨about_ok, ?_⟩
  rw [Oper.semAt_eq _ _ _ (not_defer hk)]
  obtain ⟨g, name, as, ts, hop, rfl, rfl, hg, has⟩ := kC_invokeV hk
  obtain ⟨dst, op, type, pos, after, guard⟩ := o
  simp only at hop
  subst hop
  simp only [opA] at hx
  split at hx
  · rename_i t v0 vs hf hvs
    have hg' := ev_sound ht hg hf
    have has' := evs_sound ht has hvs
    have hdep : 0 < Made.depth := by decide
    obtain ⟨k, hk2⟩ : ∃ k, P.types.size + Made.depth = k + 1 := ⟨P.types.size + Made.depth - 1, by omega⟩
    cases hcr : a.eval g <;> rw [hcr] at hg'
    case iface t2 u2 =>
      cases hg' with
      | iface _ _ _ hv2 =>
      have h0 : (#[Value.iface t u2] ++ as.map a.eval)[0]? = some (.iface t u2) := by
        rw [← Array.getElem?_toList]; simp
      have h1 : (#[Value.iface t u2] ++ as.map a.eval).extract 1 (#[Value.iface t u2] ++ as.map a.eval).size = as.map a.eval := by
        apply Array.toList_inj.1
        simp [Array.toList_extract]
        rw [List.take_of_length_le (by simp)]
      have fin : ∀ (fid : Nat) (u0 : V) (y2 : Value), (method (k + 1) t u2 name).run P w = .ok (fid, y2) w → VR ρ u0 y2 → call (.fn fid) (u0 :: vs) h = some (v, h') →
          Oper.uponIn (Fw ro) n P ⟨dst, .call ⟨.invoke g name, as, ts⟩, type, pos, after, guard⟩ a next Q ((execOp a.eval ⟨dst, .call ⟨.invoke g name, as, ts⟩, type, pos, after, guard⟩).run P w) := by
        intro fid u0 y2 q1 q2 q3
        have hall : VRs ρ (u0 :: vs) (#[y2] ++ as.map a.eval).toList := by
          simp only [Array.toList_append, Array.toList_map]
          exact .cons _ _ _ _ q2 has'
        refine call_fn (hc.fn _ _ _ _ _ q3 ρ w (#[y2] ++ as.map a.eval) r hall) ?_ hn
        simp only [execOp, resolve, hcr, Sem.run_bind, Sem.run_pure, Result.andThen_ok, invoke, h0, h1, callMethod, run_program, hk2, q1]
      split at hx
      · rename_i fid hm
        exact fin fid v0 u2 (method_run hm k) hv2 hx
      · split at hx
        · rename_i fid g0 hm
          split at hx
          · rename_i u0 hl
            obtain ⟨y2, hy1, hy2⟩ := methodV_run hm r hv2 hl k
            exact fin fid u0 y2 hy1 hy2 hx
          · cases hx
        · cases hx
    all_goals cases hg'
  · cases hx

def K.calls : K → Bool
  | .call .. | .invoke .. | .invokeV .. => true
  | _ => false
theorem opA_nc {call : CallF} {k : K} {tm : TM} {h : Heap} (hk : k.calls = false) : opA call k tm h = opK k tm h := by
  cases k <;> first | rfl | (cases hk; done)

/-- One operation, where it stands. -/
theorem op_here {call : CallF} (hc : CallOk P B w0 call) {ro : Option Nat} {n nt : Nat} {o : Oper} {k : K} (hk : kC P o = some k) {ρ : Rho} {tm : TM} {a : Act} {h : Heap} {w : World} (ht : TMR ρ nt tm a.tmps) (r : Rel P B w0 ρ h w)
    {v : V} {h' : Heap} (hx : opA call k tm h = some (v, h')) {next : Act → World → Prop} {Q : Exit → Act → World → Prop}
    (hn : ∀ u w', Ret P B w0 ρ h.size v h' u w' → next (a.put o.dst u) w') : o.wpIn (Fw ro) n P a w next Q := by
  cases hcall : k.calls with
  | true =>
    cases k <;> first | (cases hcall; done) | skip
    · exact call_op hc hk ht r hx hn
    · exact inv_op hc hk ht r hx hn
    · exact invV_op hc hk ht r hx hn
  | false =>
    rw [opA_nc hcall] at hx
    cases ha : k.isAlloc with
    | false =>
      obtain ⟨u, w', ρ', q1, q2, q3, q4⟩ := opK_sound hk ha ht r hx
      exact up_done (not_defer hk) q1 (hn u w' ⟨ρ', q2, q3, q4⟩)
    | true =>
      obtain ⟨ob, q1, q2⟩ := alloc_sound (B := B) (w0 := w0) hk ha hx
      subst q1
      obtain ⟨u, w', em, g1, g2, g3⟩ := q2 ht (r.push ob) r.none_at (by rw [Heap.size_push]; omega) (by rw [Heap.get_push, if_pos rfl])
      exact up_done (not_defer hk) g1 (hn u w' ⟨_, g2, g3, New.with_ r.none_at (Nat.le_refl _)⟩)

theorem wanted_sound {ops : Array Oper} {nt : Nat} {g : Option (Nat × Bool)} {o : Oper} (hg : guardC ops nt o.guard = some g) {ρ : Rho} {tm : TM} {a : Array Value} (ht : TMR ρ nt tm a) {b : Bool} (hb : wantedA tm g = some b) : Region.wanted o (yielded ops a) = b := by
  unfold guardC at hg
  unfold Region.wanted
  split at hg
  · rename_i h0
    cases hg
    simp only [wantedA, Option.some.injEq] at hb
    rw [h0]; exact hb
  · rename_i j wnt h0
    rw [h0]
    split at hg
    · rename_i t hgt
      split at hg
      · rename_i hcnd
        have hne := hcnd.2
        cases hg
        simp only [wantedA] at hb
        unfold yielded
        simp only [hgt, Option.bind_some]
        split at hb
        · rename_i c hc
          cases hb
          obtain ⟨u, q1, q2⟩ := ht.2 _ _ hne hc
          cases q2
          rw [q1]
          simp only
          rw [Bool.eq_iff_iff]; simp
        · rename_i hc
          cases hb
          obtain ⟨u, q1, q2⟩ := ht.2 _ _ hne hc
          cases q2
          rw [q1]; simp
        · cases hb
      · cases hg
    · cases hg

theorem opA_bad {call : CallF} {k : K} {tm : TM} {h : Heap} {x : V × Heap} (hx : opA call k tm h = some x) : k ≠ .bad := by
  intro e
  subst e
  cases hx
theorem kX_of {o : Oper} (h : kX P o ≠ .bad) : kC P o = some (kX P o) := by
  unfold kX at h ⊢
  cases hk : kC P o with
  | some k => rfl
  | none => rw [hk] at h; exact absurd rfl h

theorem opC_parts {ops : Array Oper} {nt : Nat} {o : Oper} {ao : AOp} (h : opC P ops nt o = some ao) : (ao.k ≠ .bad → kC P o = some ao.k) ∧ guardC ops nt o.guard = some ao.guard ∧ ao.dst = o.dst ∧ dstOk nt o.dst = true := by
  unfold opC at h
  split at h
  · rename_i g hg
    split at h
    · rename_i hd
      cases h
      exact ⟨fun hb => kX_of hb, hg, rfl, hd⟩
    · cases h
  · cases h

theorem undef_sound (ρ : Rho) : VR ρ undefV undef := .tuple _ _ .nil

theorem put_DX {nt : Nat} {d : Option Nat} (hd : dstOk nt d = true) (tm : TM) (v : V) : (TM.put tm d v).get DX = tm.get DX := by
  cases d with
  | none => rfl
  | some d =>
    simp [dstOk] at hd
    simp only [TM.put]
    exact TM.get_set_ne _ _ _ _ (Ne.symm hd.2)

/-- A region whose order is the text's; or its first operations. -/
theorem ops_sound {call : CallF} (hc : CallOk P B w0 call) (hm : CallHM call) {ro : Option Nat} {n nt : Nat} {ops : Array Oper} : ∀ (l : List Oper) (i : Nat), (∀ j o, l[j]? = some o → ops[i + j]? = some o) → ∀ {al : List AOp}, opsC P ops nt l = some al →
    ∀ {ρ : Rho} {tm : TM} {a : Act} {h : Heap} {w : World}, ActR ρ nt ro tm a → Rel P B w0 ρ h w → ∀ {tm' : TM} {h' : Heap}, runOps call al tm h = some (tm', h') → ∀ {rest : List Nat}
    {Q : Exit → Act → World → Prop}, (∀ a' w' ρ', ActR ρ' nt ro tm' a' → Rel P B w0 ρ' h' w' → New ρ ρ' h.size → wpOpsIn (Fw ro) n P ops Q rest a' w') →
      wpOpsIn (Fw ro) n P ops Q (List.range' i l.length ++ rest) a w
  | [], i, hl, al, hal, ρ, tm, a, h, w, ht, r, tm', h', hx, rest, Q, hq => by
    cases hal
    cases hx
    exact hq a w ρ ht r (New.refl _ _)
  | o :: l, i, hl, al, hal, ρ, tm, a, h, w, ht, r, tm', h', hx, rest, Q, hq => by
    have ho : ops[i]? = some o := by simpa using hl 0 o (by simp)
    have hl' : ∀ j o', l[j]? = some o' → ops[i + 1 + j]? = some o' := fun j o' hj => by
      have := hl (j + 1) o' (by simpa using hj)
      rwa [show i + (j + 1) = i + 1 + j by omega] at this
    unfold opsC at hal
    split at hal
    · rename_i ao al' hao hal'
      cases hal
      obtain ⟨hk, hg, hdst, hdo⟩ := opC_parts hao
      simp only [List.length_cons, List.range'_succ, List.cons_append, wpOpsIn, ho]
      unfold runOps at hx
      split at hx
      · rename_i tm2 h2 hst
        unfold stepOp at hst
        split at hst
        · rename_i hw
          rw [wanted_sound hg ht.1 hw, if_pos rfl]
          split at hst
          · rename_i v h3 hop
            cases hst
            have hsz := (HM.opA hm hop).size
            refine op_here hc (hk (opA_bad hop)) ht.1 r hop fun u w' hret => ?_
            obtain ⟨ρ', q1, q2, q3⟩ := hret
            refine ops_sound hc hm l (i + 1) hl' hal' (ρ := ρ') (ht.next (by rw [hdst]; exact TMR.put (ht.1.mono q3.1) hdo q1) q3.1 (put_defers _ _ _) (by rw [hdst]; exact put_DX hdo _ _)) q2 hx ?_
            intro a' w'' ρ'' g2 g3 g4
            exact hq a' w'' ρ'' g2 g3 (q3.trans g4 hsz)
          · cases hst
        · rename_i hw
          rw [wanted_sound hg ht.1 hw]
          simp only [Bool.false_eq_true, if_false]
          cases hst
          refine ⟨about_ok, ?_⟩
          refine ops_sound hc hm l (i + 1) hl' hal' (ρ := ρ) (ht.next (by rw [hdst]; exact TMR.put ht.1 hdo (undef_sound _)) (RLe.refl _) (put_defers _ _ _) (by rw [hdst]; exact put_DX hdo _ _)) r hx ?_
          intro a' w'' ρ'' g2 g3 g4
          exact hq a' w'' ρ'' g2 g3 g4
        · cases hst
      · cases hx
    · cases hal
end
end Abs
end Go.Proofs.YtbjpoelgcehidaaGreatDoor
namespace Go.Proofs.YtbjpoelgcehidaaGreatDoor
namespace Abs
set_option linter.unusedVariables false
set_option linter.unusedSimpArgs false
open Go.RowKit

/-! ### What an operation reads -/
theorem ev_congr {tm tm' : TM} {x : Opd} (h : ∀ t ∈ x.reads, tm.get t = tm'.get t) : ev tm x = ev tm' x := by
  cases x with
  | t i => exact h i (by simp [Opd.reads])
  | c v => rfl
theorem evo_congr {tm tm' : TM} {x : Option Opd} (h : ∀ t ∈ oreads x, tm.get t = tm'.get t) : evo tm x = evo tm' x := by
  cases x with
  | none => rfl
  | some x => simp only [evo]; rw [ev_congr (x := x) h]
theorem evs_congr {tm tm' : TM} : ∀ {x : List Opd}, (∀ t ∈ lreads x, tm.get t = tm'.get t) → evs tm x = evs tm' x
  | [], _ => rfl
  | x :: r, h => by
    unfold evs
    rw [ev_congr (x := x) fun t ht => h t (by simp [lreads, ht]), evs_congr (x := r) fun t ht => h t (by simp [lreads, ht])]
theorem evParts_congr {tm tm' : TM} : ∀ {x : List (Nat × Nat × Opd)}, (∀ t ∈ preads x, tm.get t = tm'.get t) → evParts tm x = evParts tm' x
  | [], _ => rfl
  | (a, b, x) :: r, h => by
    unfold evParts
    rw [ev_congr (x := x) fun t ht => h t (by simp [preads, ht]), evParts_congr (x := r) fun t ht => h t (by simp [preads, ht])]

theorem opK_congr {k : K} {tm tm' : TM} {h : Heap} (hr : ∀ t ∈ k.reads, tm.get t = tm'.get t) : opK k tm h = opK k tm' h := by
  cases k <;> simp only [K.reads, List.mem_append] at hr <;> simp only [opK]
  case pick c a b =>
    rw [ev_congr (x := c) fun t ht => hr t (.inl (.inl ht))]
    split
    · rename_i t ht
      cases t
      · simp only [Bool.false_eq_true, if_false]; rw [ev_congr (x := b) fun t ht => hr t (.inr ht)]
      · simp only [if_true]; rw [ev_congr (x := a) fun t ht => hr t (.inl (.inr ht))]
    · rfl
  case build z ps => rw [evParts_congr hr]
  case buildSl ty z n ps => rw [evParts_congr hr]
  case sliceStr x lo hi => rw [ev_congr (x := x) fun t ht => hr t (.inl (.inl ht)), evo_congr (x := lo) fun t ht => hr t (.inl (.inr ht)), evo_congr (x := hi) fun t ht => hr t (.inr ht)]
  case sliceArr n sz x lo hi => rw [ev_congr (x := x) fun t ht => hr t (.inl (.inl ht)), evo_congr (x := lo) fun t ht => hr t (.inl (.inr ht)), evo_congr (x := hi) fun t ht => hr t (.inr ht)]
  case sliceSl sz x lo hi mx => rw [ev_congr (x := x) fun t ht => hr t (.inl (.inl (.inl ht))), evo_congr (x := lo) fun t ht => hr t (.inl (.inl (.inr ht))), evo_congr (x := hi) fun t ht => hr t (.inl (.inr ht)), evo_congr (x := mx) fun t ht => hr t (.inr ht)]
  case mapUpd kk m k v => rw [ev_congr (x := m) fun t ht => hr t (.inl (.inl ht)), ev_congr (x := k) fun t ht => hr t (.inl (.inr ht)), ev_congr (x := v) fun t ht => hr t (.inr ht)]
  case minN mx xs => rw [evs_congr (x := xs) hr]
  case entSt m s x => rw [ev_congr (x := m) fun t ht => hr t (.inl (.inl ht)), ev_congr (x := s) fun t ht => hr t (.inl (.inr ht)), ev_congr (x := x) fun t ht => hr t (.inr ht)]
  case mkFn fn a b => rw [evs_congr (x := a) fun t ht => hr t (.inl ht), evs_congr (x := b) fun t ht => hr t (.inr ht)]
  all_goals first
    | rfl
    | (rename_i x; rw [ev_congr (x := x) hr]; done)
    | (rename_i x y; rw [ev_congr (x := x) fun t ht => hr t (.inl ht), ev_congr (x := y) fun t ht => hr t (.inr ht)]; done)

theorem opA_congr {call : CallF} {k : K} {tm tm' : TM} {h : Heap} (hr : ∀ t ∈ k.reads, tm.get t = tm'.get t) : opA call k tm h = opA call k tm' h := by
  cases hcall : k.calls with
  | true =>
    cases k <;> first | (cases hcall; done) | skip
    all_goals
      simp only [K.reads, List.mem_append] at hr
      simp only [opA]
      rename_i f args
      rw [ev_congr (x := f) fun t ht => hr t (.inl ht), evs_congr (x := args) fun t ht => hr t (.inr ht)]
  | false => rw [opA_nc hcall, opA_nc hcall, opK_congr hr]

theorem wantedA_congr {o : AOp} {tm tm' : TM} (hr : ∀ t ∈ o.reads, tm.get t = tm'.get t) : wantedA tm o.guard = wantedA tm' o.guard := by
  cases hg : o.guard with
  | none => rfl
  | some p =>
    obtain ⟨t, b⟩ := p
    simp only [wantedA]
    rw [hr t (by simp [AOp.reads, hg])]

/-! ### The trace -/
def stH (tr : List (DOp × Log)) (h' : Heap) (q : Nat) : Heap := match tr[q]? with
  | some x => x.2.h
  | none => h'
def stTm (tr : List (DOp × Log)) (tm' : TM) (q : Nat) : TM := match tr[q]? with
  | some x => x.2.tm
  | none => tm'

structure StepAt (call : CallF) (d : DOp) (L : Log) (tm2 : TM) (h2 : Heap) : Prop where
  o : L.o = d.o
  put : tm2 = TM.put L.tm d.o.dst L.v
  is : (L.ran = false ∧ wantedA L.tm d.o.guard = some false ∧ h2 = L.h ∧ L.v = undefV) ∨ (L.ran = true ∧ wantedA L.tm d.o.guard = some true ∧ opA call d.o.k L.tm L.h = some (L.v, h2))

theorem trace_ok {call : CallF} : ∀ (l : List DOp) {tm tm' : TM} {h h' : Heap} {tr : List (DOp × Log)}, traceDraw call l tm h = some (tr, tm', h') →
    stTm tr tm' 0 = tm ∧ stH tr h' 0 = h ∧ tr.map (·.1) = l ∧ ∀ q d L, tr[q]? = some (d, L) → StepAt call d L (stTm tr tm' (q + 1)) (stH tr h' (q + 1))
  | [], tm, tm', h, h', tr, hx => by
    cases hx
    exact ⟨rfl, rfl, rfl, fun q d L hq => by simp at hq⟩
  | d :: r, tm, tm', h, h', tr, hx => by
    unfold traceDraw at hx
    split at hx
    · rename_i hw
      split at hx
      · rename_i tr2 tm2 h2 hh
        cases hx
        obtain ⟨q1, q2, q3, q4⟩ := trace_ok r hh
        refine ⟨rfl, rfl, by simp [q3], fun q d' L hq => ?_⟩
        cases q with
        | zero =>
          simp at hq
          obtain ⟨rfl, rfl⟩ := hq
          have e1 : stTm ((d, ({ o := d.o, ran := false, tm := tm, h := h, v := undefV } : Log)) :: tr2) tm' (0 + 1) = stTm tr2 tm' 0 := by simp [stTm]
          have e2 : stH ((d, ({ o := d.o, ran := false, tm := tm, h := h, v := undefV } : Log)) :: tr2) h' (0 + 1) = stH tr2 h' 0 := by simp [stH]
          rw [e1, e2, q1, q2]
          exact ⟨rfl, rfl, .inl ⟨rfl, hw, rfl, rfl⟩⟩
        | succ q =>
          have := q4 q d' L (by simpa using hq)
          simpa [stTm, stH] using this
      · cases hx
    · rename_i hw
      split at hx
      · rename_i v h3 hop
        split at hx
        · rename_i tr2 tm2 h2 hh
          cases hx
          obtain ⟨q1, q2, q3, q4⟩ := trace_ok r hh
          refine ⟨rfl, rfl, by simp [q3], fun q d' L hq => ?_⟩
          cases q with
          | zero =>
            simp at hq
            obtain ⟨rfl, rfl⟩ := hq
            have e1 : stTm ((d, ({ o := d.o, ran := true, tm := tm, h := h, v := v } : Log)) :: tr2) tm' (0 + 1) = stTm tr2 tm' 0 := by simp [stTm]
            have e2 : stH ((d, ({ o := d.o, ran := true, tm := tm, h := h, v := v } : Log)) :: tr2) h' (0 + 1) = stH tr2 h' 0 := by simp [stH]
            rw [e1, e2, q1, q2]
            exact ⟨rfl, rfl, .inr ⟨rfl, hw, hop⟩⟩
          | succ q =>
            have := q4 q d' L (by simpa using hq)
            simpa [stTm, stH] using this
        · cases hx
      · cases hx
    · cases hx

/-- Where it may come later, it has been tried. -/
theorem tail_ok (l : Log) (p : Nat) : ∀ (r : List (DOp × Log)) (hN : Heap), okTail l p r hN = true → ∀ c, (c = r.length ∨ ∃ d L, r[c]? = some (d, L) ∧ d.o.k.isC = true) →
    (∀ c' d L, c' < c → r[c']? = some (d, L) → d.o.k.isC = true → d.anc.contains p = false) → okLater l (stH r hN c) = true
  | [], hN, hok, c, hc, hn => by
    rcases hc with rfl | ⟨d, L, hd, _⟩
    · exact hok
    · simp at hd
  | (d, L) :: r, hN, hok, c, hc, hn => by
    unfold okTail at hok
    cases c with
    | zero =>
      rcases hc with hc | ⟨d', L', hd, hC⟩
      · simp at hc
      · simp at hd
        obtain ⟨rfl, rfl⟩ := hd
        rw [if_pos hC] at hok
        simp only [Bool.and_eq_true] at hok
        simpa [stH] using hok.1
    | succ c =>
      have hrec : okTail l p r hN = true := by
        by_cases hC : d.o.k.isC = true
        · rw [if_pos hC] at hok
          simp only [Bool.and_eq_true, Bool.or_eq_true] at hok
          have := hn 0 d L (by omega) (by simp) hC
          rcases hok.2 with h1 | h1
          · rw [this] at h1; cases h1
          · exact h1
        · rw [if_neg hC] at hok; exact hok
      have := tail_ok l p r hN hrec c (by
        rcases hc with hc | ⟨d', L', hd, hC⟩
        · left; simp at hc; omega
        · right; exact ⟨d', L', by simpa using hd, hC⟩) (fun c' d' L' h1 h2 h3 => hn (c' + 1) d' L' (by omega) (by simpa using h2) h3)
      simpa [stH] using this

theorem all_ok : ∀ (q0 : Nat) (tr : List (DOp × Log)) (hN : Heap), okAll q0 tr hN = true → ∀ p d L, tr[p]? = some (d, L) → d.o.k.isC = false → okTail L (q0 + p) (tr.drop (p + 1)) hN = true
  | q0, [], hN, _, p, d, L, hp, _ => by simp at hp
  | q0, (d0, L0) :: r, hN, hok, p, d, L, hp, hC => by
    unfold okAll at hok
    simp only [Bool.and_eq_true, Bool.or_eq_true] at hok
    cases p with
    | zero =>
      simp at hp
      obtain ⟨rfl, rfl⟩ := hp
      rcases hok.1 with h1 | h1
      · rw [hC] at h1; cases h1
      · simpa using h1
    | succ p =>
      have := all_ok (q0 + 1) r hN hok.2 p d L (by simpa using hp) hC
      rwa [show q0 + 1 + p = q0 + (p + 1) by omega] at this

theorem later_at {tr : List (DOp × Log)} {hN : Heap} (hok : okAll 0 tr hN = true) {p c : Nat} {d : DOp} {L : Log} (hp : tr[p]? = some (d, L)) (hC : d.o.k.isC = false) (hpc : p < c) (hcN : c ≤ tr.length)
    (hc : c = tr.length ∨ ∃ d L, tr[c]? = some (d, L) ∧ d.o.k.isC = true) (hn : ∀ c' d L, p < c' → c' < c → tr[c']? = some (d, L) → d.o.k.isC = true → d.anc.contains p = false) : okLater L (stH tr hN c) = true := by
  have h1 := all_ok 0 tr hN hok p d L hp hC
  rw [Nat.zero_add] at h1
  have h2 := tail_ok L p (tr.drop (p + 1)) hN h1 (c - (p + 1)) (by
    rcases hc with hc | ⟨d', L', hd, hC'⟩
    · left; rw [List.length_drop]; omega
    · right; exact ⟨d', L', by rw [List.getElem?_drop, show p + 1 + (c - (p + 1)) = c by omega]; exact hd, hC'⟩)
    (fun c' d' L' q1 q2 q3 => hn (p + 1 + c') d' L' (by omega) (by omega) (by rwa [List.getElem?_drop] at q2) q3)
  have e : stH (tr.drop (p + 1)) hN (c - (p + 1)) = stH tr hN c := by
    unfold stH
    rw [List.getElem?_drop, show p + 1 + (c - (p + 1)) = c by omega]
  rwa [e] at h2

theorem sameObj_eq {x y : Option Obj} (h : sameObj x y = true) : x = y ∧ ∃ o, x = some o := by
  unfold sameObj at h
  split at h
  · simp only [Bool.and_eq_true, beq_iff_eq, decide_eq_true_eq] at h
    rw [V.beqs_eq _ _ h.1.1, h.1.2, h.2]
    exact ⟨rfl, _, rfl⟩
  · exact ⟨rfl, _, rfl⟩
  · cases h

/-! ### The checks on a drawn region's list -/
structure Chk (ops : Array Oper) (l : List DOp) : Prop where
  len : l.length = ops.size
  all : ∀ i, i < ops.size → ∃ (q : Nat) (d : DOp), l[q]? = some d ∧ d.idx = i
  lt : ∀ (q : Nat) (d : DOp), l[q]? = some d → d.idx < ops.size
  anc : ∀ (q : Nat) (d : DOp), l[q]? = some d → ∀ p ∈ d.anc, p < q
  edge : ∀ (q : Nat) (d : DOp) (o : Oper), l[q]? = some d → ops[d.idx]? = some o → ∀ e ∈ o.after.toList, Region.binds .any e = true → ∃ (p : Nat) (d' : DOp), p ∈ d.anc ∧ l[p]? = some d' ∧ d'.idx = e.on
  from_ : ∀ (q : Nat) (d : DOp) (o : Oper), l[q]? = some d → ops[d.idx]? = some o → ∀ p ∈ d.anc, ∃ (e : Edge) (r : Nat) (d' : DOp), e ∈ o.after.toList ∧ Region.binds .any e = true ∧ l[r]? = some d' ∧ d'.idx = e.on ∧ (p = r ∨ p ∈ d'.anc)
  pair : ∀ (q : Nat) (d : DOp) (p : Nat) (d' : DOp), l[q]? = some d → l[p]? = some d' → p < q → d'.idx ≠ d.idx ∧ (p ∈ d.anc ∨ (clash d'.o d.o = false ∧ d'.o.k.isC = false))

theorem drawPos_of {l : List DOp} {i r : Nat} (h : drawPos l i = some r) : ∃ d, l[r]? = some d ∧ d.idx = i := by
  unfold drawPos at h
  rw [List.findIdx?_eq_some_iff_getElem] at h
  obtain ⟨h1, h2, _⟩ := h
  exact ⟨l[r], List.getElem?_eq_getElem h1, by simpa using h2⟩

theorem chk_of {ops : Array Oper} {l : List DOp} (h : chkAll ops l = true) : Chk ops l := by
  unfold chkAll at h
  simp only [Bool.and_eq_true, beq_iff_eq, List.all_eq_true] at h
  obtain ⟨⟨hlen, hsur⟩, hall⟩ := h
  have one : ∀ q d, l[q]? = some d → chkOne ops l q d = true := by
    intro q d hq
    have hlt : q < l.length := (List.getElem?_eq_some_iff.1 hq).1
    have := hall q (by simpa using hlt)
    rw [hq] at this
    exact this
  have parts : ∀ q d, l[q]? = some d → _ := fun q d hq => by
    have h1 := one q d hq
    unfold chkOne at h1
    simp only [Bool.and_eq_true, decide_eq_true_eq, List.all_eq_true] at h1
    exact h1
  refine ⟨hlen, fun i hi => ?_, fun q d hq => (parts q d hq).1.1.1.1, fun q d hq p hp => (parts q d hq).1.1.1.2 p hp, fun q d o hq ho e he hb => ?_, fun q d o hq ho p hp => ?_, fun q d p d' hq hp hlt => ?_⟩
  · have h1 := hsur i (by simpa using hi)
    obtain ⟨r, hr⟩ := Option.isSome_iff_exists.1 h1
    obtain ⟨d, hd, he⟩ := drawPos_of hr
    exact ⟨r, d, hd, he⟩
  · have h1 := (parts q d hq).1.1.2
    rw [ho] at h1
    simp only [Option.map_some, Option.getD_some, List.all_eq_true, Bool.or_eq_true, Bool.not_eq_true', List.any_eq_true] at h1
    rcases h1 e he with h2 | ⟨p, h2, h3⟩
    · rw [hb] at h2; cases h2
    · split at h3
      · rename_i d' hd'
        exact ⟨p, d', h2, hd', by simpa using h3⟩
      · cases h3
  · have h1 := (parts q d hq).1.2 p hp
    rw [ho] at h1
    simp only [Option.map_some, Option.getD_some, List.any_eq_true, Bool.and_eq_true] at h1
    obtain ⟨e, he, hb, h2⟩ := h1
    split at h2
    · rename_i r hr
      obtain ⟨d', hd', hi⟩ := drawPos_of hr
      refine ⟨e, r, d', he, hb, hd', hi, ?_⟩
      simp only [Bool.or_eq_true, beq_iff_eq] at h2
      rcases h2 with h2 | h2
      · exact .inl h2
      · rw [hd'] at h2
        exact .inr (by simpa using h2)
    · cases h2
  · have h1 := (parts q d hq).2 p (by simpa using hlt)
    rw [hp] at h1
    simp only [Bool.and_eq_true, Bool.not_eq_true', beq_eq_false_iff_ne, Bool.or_eq_true] at h1
    refine ⟨h1.1, ?_⟩
    rcases h1.2 with h2 | h2
    · exact .inl (by simpa using h2)
    · exact .inr h2

theorem drawList_ok {P : Program} {ops : Array Oper} {nt : Nat} {b : Array Nat} {perm : List Nat} : ∀ (q : Nat) (r : List Nat) {l : List DOp}, drawList P ops nt b perm q r = some l → ∀ (j : Nat) (d : DOp), l[j]? = some d → ∃ o, ops[d.idx]? = some o ∧ opC P ops nt o = some d.o
  | q, [], l, h, j, d, hj => by cases h; simp at hj
  | q, i :: r, l, h, j, d, hj => by
    unfold drawList at h
    split at h
    · rename_i d0 l0 h0 h1
      cases h
      cases j with
      | zero =>
        simp at hj
        subst hj
        unfold drawOne at h0
        split at h0
        · rename_i o ho
          split at h0
          · rename_i a ha
            cases h0
            exact ⟨o, ho, ha⟩
          · cases h0
        · cases h0
      | succ j => exact drawList_ok (q + 1) r h1 j d (by simpa using hj)
    · cases h
end Abs
end Go.Proofs.YtbjpoelgcehidaaGreatDoor
namespace Go.Proofs.YtbjpoelgcehidaaGreatDoor
namespace Abs
set_option linter.unusedVariables false
set_option linter.unusedSimpArgs false
open Go.RowKit

section
variable {P : Program} {B : Nat} {w0 : World}

/-- Which places are done. -/
def DoneAt (l : List DOp) (listed : Array Bool) (q : Nat) : Bool := match l[q]? with
  | some d => listed.getD d.idx false
  | none => false

/-- The temporaries behind the places that are done. -/
noncomputable def tmD (tr : List (DOp × Log)) (D : Nat → Bool) (tm : TM) : Nat → TM
  | 0 => tm
  | q + 1 => match tr[q]? with
    | some (d, L) => if D q then TM.put (tmD tr D tm q) d.o.dst L.v else tmD tr D tm q
    | none => tmD tr D tm q

theorem calls_of_isC {k : K} (h : k.isC = false) : k.calls = false := by cases k <;> first | rfl | (cases h; done)
theorem calls_of_alloc {k : K} (h : k.isAlloc = true) : k.calls = false := by cases k <;> first | rfl | (cases h; done)
theorem put_get (tm : TM) (dst : Option Nat) (v : V) (t : Nat) : (TM.put tm dst v).get t = if dst = some t then some v else tm.get t := by
  cases dst with
  | none => simp [TM.put]
  | some d =>
    simp only [TM.put, TM.get_set, Option.some.injEq]
    by_cases h : t = d
    · rw [if_pos h, if_pos h.symm]
    · rw [if_neg h, if_neg (Ne.symm h)]

theorem clash_reads {x y : AOp} (h : clash x y = false) : (∀ d, x.dst = some d → d ∉ y.reads ∧ y.dst ≠ some d) ∧ (∀ d, y.dst = some d → d ∉ x.reads) := by
  unfold clash at h
  simp only [Bool.or_eq_false_iff] at h
  refine ⟨fun d hd => ?_, fun d hd => ?_⟩
  · have := h.1
    rw [hd] at this
    simp only [Bool.or_eq_false_iff] at this
    refine ⟨by simpa using this.1, ?_⟩
    intro e
    rw [e] at this
    simp at this
  · have := h.2
    rw [hd] at this
    simpa using this

structure Inv (P : Program) (B : Nat) (w0 : World) (l : List DOp) (tr : List (DOp × Log)) (tm : TM) (h0 h' : Heap) (ρ0 : Rho) (nt : Nat) (ds : List Deferred) (D : Nat → Bool) (a : Act) (w : World) (ρ : Rho) (qs : Nat) : Prop where
  closed : ∀ q d, l[q]? = some d → D q = true → ∀ p ∈ d.anc, D p = true
  le : qs ≤ l.length
  edge : qs = l.length ∨ ∃ d, l[qs]? = some d ∧ d.o.k.isC = true ∧ D qs = false
  before : ∀ c d, c < qs → l[c]? = some d → d.o.k.isC = true → D c = true
  rel : Rel P B w0 ρ (stH tr h' qs) w
  tms : TMR ρ nt (tmD tr D tm l.length) a.tmps
  pend : ∀ p d L, p < qs → tr[p]? = some (d, L) → L.ran = true → d.o.k.isAlloc = true → D p = false → ρ L.h.size = none
  defers : a.defers = ds
  new : New ρ0 ρ h0.size

variable {call : CallF} {l : List DOp} {tr : List (DOp × Log)} {tm tm' : TM} {h0 h' : Heap}

/-- What is known of a trace. -/
structure TrOk (call : CallF) (l : List DOp) (tr : List (DOp × Log)) (tm tm' : TM) (h0 h' : Heap) : Prop where
  tm0 : stTm tr tm' 0 = tm
  h0 : stH tr h' 0 = h0
  map : tr.map (·.1) = l
  step : ∀ q d L, tr[q]? = some (d, L) → StepAt call d L (stTm tr tm' (q + 1)) (stH tr h' (q + 1))

theorem TrOk.len (t : TrOk call l tr tm tm' h0 h') : tr.length = l.length := by rw [← t.map, List.length_map]
theorem TrOk.get (t : TrOk call l tr tm tm' h0 h') {q : Nat} {d : DOp} (h : l[q]? = some d) : ∃ L, tr[q]? = some (d, L) := by
  rw [← t.map, List.getElem?_map, Option.map_eq_some_iff] at h
  obtain ⟨⟨d', L⟩, h1, h2⟩ := h
  exact ⟨L, by rw [h1]; simp at h2; rw [h2]⟩
theorem TrOk.back (t : TrOk call l tr tm tm' h0 h') {q : Nat} {d : DOp} {L : Log} (h : tr[q]? = some (d, L)) : l[q]? = some d := by
  rw [← t.map, List.getElem?_map, h]; rfl
theorem TrOk.at_ (t : TrOk call l tr tm tm' h0 h') {q : Nat} {d : DOp} {L : Log} (h : tr[q]? = some (d, L)) : stTm tr tm' q = L.tm ∧ stH tr h' q = L.h := by
  unfold stTm stH; rw [h]; exact ⟨rfl, rfl⟩

/-- An operation that is ready reads what it read in the text's order. -/
theorem reads_same {ops : Array Oper} (t : TrOk call l tr tm tm' h0 h') (hk : Chk ops l) {D : Nat → Bool} {p : Nat} {d : DOp} {L : Log} (hp : tr[p]? = some (d, L)) (hD : D p = false)
    (hanc : ∀ x ∈ d.anc, D x = true) (hcl : ∀ q d, l[q]? = some d → D q = true → ∀ p ∈ d.anc, D p = true) : ∀ x ∈ d.o.reads, (tmD tr D tm l.length).get x = TM.get L.tm x := by
  intro x hx
  have hlp := t.back hp
  have hplt : p < l.length := (List.getElem?_eq_some_iff.1 hlp).1
  have up : ∀ q, q ≤ p → (tmD tr D tm q).get x = (stTm tr tm' q).get x := by
    intro q
    induction q with
    | zero => intro _; rw [t.tm0]; rfl
    | succ q ih =>
      intro hq
      have ihq := ih (by omega)
      obtain ⟨dq, hdq⟩ : ∃ dq, l[q]? = some dq := ⟨l[q]'(by omega), List.getElem?_eq_getElem (by omega)⟩
      obtain ⟨Lq, hLq⟩ := t.get hdq
      have hst := t.step q dq Lq hLq
      rw [hst.put, ← (t.at_ hLq).1]
      simp only [tmD, hLq]
      cases hDq : D q with
      | true => rw [if_pos rfl, put_get, put_get, ihq]
      | false =>
        simp only [Bool.false_eq_true, if_false]
        rw [put_get, ihq]
        have hnc : clash dq.o d.o = false := by
          rcases (hk.pair p d q dq hlp hdq (by omega)).2 with h1 | h1
          · have := hanc q h1
            rw [hDq] at this; cases this
          · exact h1.1
        rw [if_neg]
        intro e
        exact ((clash_reads hnc).1 x e).1 hx
  have down : ∀ m, (tmD tr D tm (p + m)).get x = (tmD tr D tm p).get x := by
    intro m
    induction m with
    | zero => rfl
    | succ m ih =>
      rw [show p + (m + 1) = (p + m) + 1 by omega]
      simp only [tmD]
      cases hq : tr[p + m]? with
      | none => exact ih
      | some dl =>
        obtain ⟨dq, Lq⟩ := dl
        simp only
        cases hDq : D (p + m) with
        | false => simp only [Bool.false_eq_true, if_false]; exact ih
        | true =>
          rw [if_pos rfl, put_get, ih]
          have hne : m ≠ 0 := by
            intro e
            subst e
            rw [Nat.add_zero, hD] at hDq; cases hDq
          have hlq := t.back hq
          have hnc : clash d.o dq.o = false := by
            rcases (hk.pair (p + m) dq p d hlq hlp (by omega)).2 with h1 | h1
            · have := hcl (p + m) dq hlq hDq p h1
              rw [hD] at this; cases this
            · exact h1.1
          rw [if_neg]
          intro e
          exact (clash_reads hnc).2 x e hx
  have := down (l.length - p)
  rw [show p + (l.length - p) = l.length by omega] at this
  rw [this, up p (Nat.le_refl _), (t.at_ hp).1]

/-- The temporaries behind one place more. -/
theorem tmD_more {ops : Array Oper} (t : TrOk call l tr tm tm' h0 h') (hk : Chk ops l) {D D' : Nat → Bool} {p : Nat} {d : DOp} {L : Log} (hp : tr[p]? = some (d, L)) (hD : D p = false) (hD' : ∀ q, D' q = (D q || q == p))
    (hcl : ∀ q d, l[q]? = some d → D q = true → ∀ p ∈ d.anc, D p = true) (x : Nat) : (tmD tr D' tm l.length).get x = if d.o.dst = some x then some L.v else (tmD tr D tm l.length).get x := by
  have hlp := t.back hp
  have hplt : p < l.length := (List.getElem?_eq_some_iff.1 hlp).1
  have lo : ∀ q, q ≤ p → tmD tr D' tm q = tmD tr D tm q := by
    intro q
    induction q with
    | zero => intro _; rfl
    | succ q ih =>
      intro hq
      have e : D' q = D q := by rw [hD' q]; simp; omega
      simp only [tmD, e, ih (by omega)]
  have hi : ∀ m, (tmD tr D' tm (p + 1 + m)).get x = if d.o.dst = some x then some L.v else (tmD tr D tm (p + 1 + m)).get x := by
    intro m
    induction m with
    | zero =>
      rw [Nat.add_zero]
      have e : D' p = true := by rw [hD' p]; simp
      simp only [tmD, hp, e, hD, if_true, Bool.false_eq_true, if_false, lo p (Nat.le_refl _)]
      exact put_get _ _ _ _
    | succ m ih =>
      rw [show p + 1 + (m + 1) = (p + 1 + m) + 1 by omega]
      simp only [tmD]
      cases hq : tr[p + 1 + m]? with
      | none => exact ih
      | some dl =>
        obtain ⟨dq, Lq⟩ := dl
        simp only
        have e : D' (p + 1 + m) = D (p + 1 + m) := by
          rw [hD']
          have : (p + 1 + m == p) = false := by simp; omega
          rw [this, Bool.or_false]
        rw [e]
        cases hDq : D (p + 1 + m) with
        | false => simp only [Bool.false_eq_true, if_false]; exact ih
        | true =>
          rw [if_pos rfl, if_pos rfl, put_get, put_get, ih]
          have hlq := t.back hq
          have hnc : clash d.o dq.o = false := by
            rcases (hk.pair (p + 1 + m) dq p d hlq hlp (by omega)).2 with h1 | h1
            · have := hcl _ dq hlq hDq p h1
              rw [hD] at this; cases this
            · exact h1.1
          by_cases h1 : dq.o.dst = some x
          · rw [if_pos h1, if_pos h1, if_neg]
            intro e2
            exact ((clash_reads hnc).1 x e2).2 h1
          · rw [if_neg h1, if_neg h1]
  have := hi (l.length - (p + 1))
  rwa [show p + 1 + (l.length - (p + 1)) = l.length by omega] at this

/-- Behind a call or a write, up to the next: new blocks that have no place yet. -/
theorem rel_up (hm : CallHM call) (t : TrOk call l tr tm tm' h0 h') {ρ : Rho} {w : World} {q : Nat} (hr : Rel P B w0 ρ (stH tr h' q) w) : ∀ m, q + m ≤ l.length → (∀ c d, q ≤ c → c < q + m → l[c]? = some d → d.o.k.isC = false) →
    Rel P B w0 ρ (stH tr h' (q + m)) w ∧ (stH tr h' q).size ≤ (stH tr h' (q + m)).size := by
  intro m
  induction m with
  | zero => intro _ _; exact ⟨hr, Nat.le_refl _⟩
  | succ m ih =>
    intro hle hnc
    obtain ⟨ih1, ih2⟩ := ih (by omega) (fun c d h1 h2 h3 => hnc c d h1 (by omega) h3)
    have hlt : q + m < l.length := by omega
    obtain ⟨L, hL⟩ := t.get (List.getElem?_eq_getElem hlt)
    have hst := t.step _ _ _ hL
    have hc := hnc (q + m) _ (by omega) (by omega) (List.getElem?_eq_getElem hlt)
    rw [show q + (m + 1) = q + m + 1 by omega]
    rcases hst.is with ⟨_, _, h1, _⟩ | ⟨_, _, h1⟩
    · rw [h1, ← (t.at_ hL).2]; exact ⟨ih1, ih2⟩
    · rw [← (t.at_ hL).2] at h1
      have hnc' := calls_of_isC hc
      rw [opA_nc hnc'] at h1
      refine ⟨?_, Nat.le_trans ih2 (HM.op h1).size⟩
      generalize hkk : (l[q + m]'hlt).o.k = kk at hc h1
      have hpush : stH tr h' (q + m + 1) = stH tr h' (q + m) ∨ ∃ ob, stH tr h' (q + m + 1) = (stH tr h' (q + m)).push ob := by
        generalize stH tr h' (q + m + 1) = h2 at h1
        generalize stH tr h' (q + m) = h1' at h1
        generalize L.tm = tmx at h1
        generalize L.v = vv at h1
        clear ih1 ih2 hst hL hkk hnc' 
        cases kk <;> simp only [opK] at h1 <;> first
          | (cases hc; done)
          | (cases h1; exact .inr ⟨_, rfl⟩)
          | (cases h1; done)
          | skip
        case makeSl sz bt z a b =>
          split at h1
          · unfold makeSlA at h1
            split at h1
            · split at h1
              · cases h1; exact .inr ⟨_, rfl⟩
              · cases h1
            · cases h1
          · cases h1
        case entM x =>
          split at h1
          · exact .inl (ent_same h1)
          · cases h1
        all_goals ((repeat' split at h1) <;> first | (cases h1; done) | (cases h1; exact .inl rfl) | (cases h1; exact .inr ⟨_, rfl⟩))
      rcases hpush with e | ⟨ob, e⟩
      · rw [e]; exact ih1
      · rw [e]; exact ih1.push ob

theorem pure_heap {k : K} (h1 : k.isC = false) (h2 : k.isAlloc = false) {tm : TM} {h h' : Heap} {v : V} (hx : opK k tm h = some (v, h')) : h' = h := by
  cases k <;> simp only [opK] at hx <;> first
    | (cases h1; done)
    | (cases h2; done)
    | (split at hx <;> first | exact ent_same hx | (cases hx; done))
    | ((repeat' split at hx) <;> first | (cases hx; done) | (cases hx; rfl))
    | (cases hx; done)

theorem sizes (hm : CallHM call) (t : TrOk call l tr tm tm' h0 h') {p : Nat} : ∀ m, p + m ≤ l.length → (stH tr h' p).size ≤ (stH tr h' (p + m)).size := by
  intro m
  induction m with
  | zero => intro _; exact Nat.le_refl _
  | succ m ih =>
    intro hle
    have hlt : p + m < l.length := by omega
    obtain ⟨L, hL⟩ := t.get (List.getElem?_eq_getElem hlt)
    have hst := t.step _ _ _ hL
    rw [show p + (m + 1) = p + m + 1 by omega]
    refine Nat.le_trans (ih (by omega)) ?_
    rcases hst.is with ⟨_, _, h1, _⟩ | ⟨_, _, h1⟩
    · rw [h1, (t.at_ hL).2]; exact Nat.le_refl _
    · rw [(t.at_ hL).2]; exact (HM.opA hm h1).size
theorem sizes' (hm : CallHM call) (t : TrOk call l tr tm tm' h0 h') {p q : Nat} (h1 : p ≤ q) (h2 : q ≤ l.length) : (stH tr h' p).size ≤ (stH tr h' q).size := by
  have := sizes hm t (p := p) (q - p) (by omega)
  rwa [show p + (q - p) = q by omega] at this

theorem alloc_size {k : K} (ha : k.isAlloc = true) {tm : TM} {h h' : Heap} {v : V} (hx : opK k tm h = some (v, h')) : h'.size = h.size + 1 := by
  cases k <;> simp only [opK] at hx <;> first
    | (cases ha; done)
    | (cases hx; rfl)
    | skip
  case makeSl sz bt z a b =>
    split at hx
    · unfold makeSlA at hx
      split at hx
      · split at hx
        · cases hx; rfl
        · cases hx
      · cases hx
    · cases hx
  all_goals ((repeat' split at hx) <;> first | (cases hx; done) | (cases hx; rfl))

theorem alloc_nc {k : K} (ha : k.isAlloc = true) : k.isC = false := by cases k <;> first | (cases ha; done) | rfl

theorem id_lt (hm : CallHM call) (t : TrOk call l tr tm tm' h0 h') {p q : Nat} {d : DOp} {L : Log} (hp : tr[p]? = some (d, L)) (hr : L.ran = true) (ha : d.o.k.isAlloc = true) (h1 : p < q) (h2 : q ≤ l.length) : L.h.size < (stH tr h' q).size := by
  have hst := t.step _ _ _ hp
  rcases hst.is with ⟨h, _⟩ | ⟨_, _, hop⟩
  · rw [hr] at h; cases h
  · have hnc := calls_of_alloc ha
    rw [opA_nc hnc] at hop
    have := alloc_size ha hop
    have := sizes' hm t (p := p + 1) (q := q) (by omega) h2
    omega

theorem next_C (l : List DOp) : ∀ (m q : Nat), q + m = l.length → ∃ qs, q ≤ qs ∧ qs ≤ l.length ∧ (qs = l.length ∨ ∃ d, l[qs]? = some d ∧ d.o.k.isC = true) ∧ ∀ c d, q ≤ c → c < qs → l[c]? = some d → d.o.k.isC = false
  | 0, q, h => ⟨q, Nat.le_refl _, by omega, .inl (by omega), fun c d h1 h2 => by omega⟩
  | m + 1, q, h => by
    have hlt : q < l.length := by omega
    cases hC : (l[q]'hlt).o.k.isC with
    | true => exact ⟨q, Nat.le_refl _, by omega, .inr ⟨_, List.getElem?_eq_getElem hlt, hC⟩, fun c d h1 h2 => by omega⟩
    | false =>
      obtain ⟨qs, h1, h2, h3, h4⟩ := next_C l m (q + 1) (by omega)
      refine ⟨qs, by omega, h2, h3, fun c d g1 g2 g3 => ?_⟩
      by_cases e : c = q
      · subst e
        rw [List.getElem?_eq_getElem hlt] at g3
        cases g3
        exact hC
      · exact h4 c d (by omega) g2 g3

/-- One operation of a drawn region, where it is ready. -/
theorem inv_step {ops : Array Oper} (hc : CallOk P B w0 call) (hm : CallHM call) (t : TrOk call l tr tm tm' h0 h') (hk : Chk ops l) (hok : okAll 0 tr h' = true) {nt : Nat} (hops : ∀ (q : Nat) (d : DOp), l[q]? = some d → ∃ o, ops[d.idx]? = some o ∧ opC P ops nt o = some d.o)
    {ro : Option Nat} {n : Nat} {ρ0 : Rho} {ds : List Deferred} {D D' : Nat → Bool} {a : Act} {w : World} {ρ : Rho} {qs : Nat} (inv : Inv P B w0 l tr tm h0 h' ρ0 nt ds D a w ρ qs)
    {p : Nat} {d : DOp} (hp : l[p]? = some d) (hD : D p = false) (hanc : ∀ x ∈ d.anc, D x = true) (hD' : ∀ q, D' q = (D q || q == p)) {Q : Exit → Act → World → Prop} {K : Act → World → Prop}
    (hK : ∀ a' w' ρ' qs', Inv P B w0 l tr tm h0 h' ρ0 nt ds D' a' w' ρ' qs' → K a' w') : wpOpIn (Fw ro) n P ops Q d.idx K a w := by
  obtain ⟨L, hL⟩ := t.get hp
  obtain ⟨o, ho, hoc⟩ := hops p d hp
  obtain ⟨hkc, hgc, hdst, hdo⟩ := opC_parts hoc
  have hst := t.step _ _ _ hL
  have hplt : p < l.length := (List.getElem?_eq_some_iff.1 hp).1
  have hrd := reads_same t hk hL hD hanc inv.closed
  have hrdk : ∀ x ∈ d.o.k.reads, (tmD tr D tm l.length).get x = TM.get L.tm x := fun x hx => hrd x (by simp [AOp.reads, hx])
  have hwant : wantedA (tmD tr D tm l.length) d.o.guard = wantedA L.tm d.o.guard := wantedA_congr (o := d.o) hrd
  -- where it stands
  have hple : p ≤ qs := by
    rcases Nat.lt_or_ge qs p with hlt | hge
    · rcases inv.edge with e | ⟨dq, hq1, hq2, hq3⟩
      · omega
      · rcases (hk.pair p d qs dq hp hq1 hlt).2 with h1 | h1
        · have := hanc qs h1; rw [hq3] at this; cases this
        · rw [hq2] at h1; cases h1.2
    · exact hge
  have hclosed' : ∀ q dq, l[q]? = some dq → D' q = true → ∀ x ∈ dq.anc, D' x = true := by
    intro q dq hq hDq x hx
    rw [hD'] at hDq ⊢
    by_cases e : q = p
    · subst e
      rw [hp] at hq; cases hq
      rw [hanc x hx]; rfl
    · have : D q = true := by simpa [e] using hDq
      rw [inv.closed q dq hq this x hx]; rfl
  have hmore := tmD_more t hk hL hD hD' inv.closed
  have tmr' : ∀ {ρ' : Rho} {a2 : Act} {u : Value}, RLe ρ ρ' → VR ρ' L.v u → a2.tmps = (a.put o.dst u).tmps → TMR ρ' nt (tmD tr D' tm l.length) a2.tmps := by
    intro ρ' a2 u hle hv ha2
    have h1 := TMR.put (a := a) (inv.tms.mono hle) hdo hv
    rw [ha2]
    refine ⟨h1.1, fun x v hxne hx => ?_⟩
    refine h1.2 x v hxne ?_
    rw [put_get]
    have hx2 : (tmD tr D' tm l.length).get x = some v := hx
    rw [hmore x, hdst] at hx2
    exact hx2
  -- the next place, behind one that calls or writes
  have movedOn : ∀ {a2 : Act} {w2 : World} {ρ2 : Rho}, p = qs → Rel P B w0 ρ2 (stH tr h' (p + 1)) w2 → TMR ρ2 nt (tmD tr D' tm l.length) a2.tmps → a2.defers = ds → New ρ ρ2 L.h.size → K a2 w2 := by
    intro a2 w2 ρ2 epq hr2 ht2 hd2 hn2
    have hCp : d.o.k.isC = true := by
      rcases inv.edge with e | ⟨dq, hq1, hq2, hq3⟩
      · omega
      · rw [← epq, hp] at hq1; cases hq1; exact hq2
    obtain ⟨qs', g1, g2, g3, g4⟩ := next_C l (l.length - (p + 1)) (p + 1) (by omega)
    have hup := (rel_up hm t hr2 (qs' - (p + 1)) (by omega) (fun c dc h1 h2 h3 => g4 c dc h1 (by omega) h3)).1
    rw [show p + 1 + (qs' - (p + 1)) = qs' by omega] at hup
    have hDlate : ∀ q dq, p < q → l[q]? = some dq → D q = false := by
      intro q dq hq1 hq2
      cases hDq : D q with
      | false => rfl
      | true =>
        rcases (hk.pair q dq p d hq2 hp hq1).2 with h1 | h1
        · have := inv.closed q dq hq2 hDq p h1
          rw [hD] at this; cases this
        · rw [hCp] at h1; cases h1.2
    refine hK a2 w2 ρ2 qs' ⟨hclosed', g2, ?_, ?_, hup, ht2, ?_, hd2, ?_⟩
    · rcases g3 with e | ⟨dq, hq1, hq2⟩
      · exact .inl e
      · refine .inr ⟨dq, hq1, hq2, ?_⟩
        rw [hD', hDlate qs' dq (by omega) hq1]
        have : (qs' == p) = false := by simp; omega
        rw [this]; rfl
    · intro c dc hc1 hc2 hc3
      rw [hD']
      by_cases e : c = p
      · subst e; simp
      · rcases Nat.lt_or_ge c p with h1 | h1
        · rw [inv.before c dc (by omega) hc2 hc3]; rfl
        · rw [g4 c dc (by omega) hc1 hc2] at hc3; cases hc3
    · intro p2 d2 L2 hp1 hp2 hran hall hD2
      rw [hD'] at hD2
      simp only [Bool.or_eq_false_iff, beq_eq_false_iff_ne] at hD2
      have hlt2 : p2 < l.length := (List.getElem?_eq_some_iff.1 (t.back hp2)).1
      rcases Nat.lt_or_ge p2 p with h1 | h1
      · have hold := inv.pend p2 d2 L2 (by omega) hp2 hran hall hD2.1
        cases hx : ρ2 L2.h.size with
        | none => rfl
        | some e =>
          rcases hn2.2 _ _ hx with h3 | h3
          · rw [hold] at h3; cases h3
          · have := id_lt hm t hp2 hran hall h1 (by omega)
            rw [(t.at_ hL).2] at this
            omega
      · cases hx : ρ2 L2.h.size with
        | none => rfl
        | some e =>
          have h3 := hr2.dom _ _ hx
          have h4 := sizes' hm t (p := p + 1) (q := p2) (by omega) (by omega)
          rw [(t.at_ hp2).2] at h4
          omega
    · refine inv.new.trans hn2 ?_
      have := sizes' hm t (p := 0) (q := p) (by omega) (by omega)
      rwa [t.h0, (t.at_ hL).2] at this
  -- what stays, where it calls and writes nothing
  have stay : ∀ {a2 : Act} {w2 : World} {ρ2 : Rho}, p < qs → Rel P B w0 ρ2 (stH tr h' qs) w2 → TMR ρ2 nt (tmD tr D' tm l.length) a2.tmps → a2.defers = ds → New ρ0 ρ2 h0.size →
      (∀ p2 d2 L2, p2 < qs → tr[p2]? = some (d2, L2) → L2.ran = true → d2.o.k.isAlloc = true → D p2 = false → p2 ≠ p → ρ2 L2.h.size = none) → K a2 w2 := by
    intro a2 w2 ρ2 hlt hr2 ht2 hd2 hn2 hpend
    refine hK a2 w2 ρ2 qs ⟨hclosed', inv.le, ?_, ?_, hr2, ht2, ?_, hd2, hn2⟩
    · rcases inv.edge with e | ⟨dq, hq1, hq2, hq3⟩
      · exact .inl e
      · refine .inr ⟨dq, hq1, hq2, ?_⟩
        rw [hD', hq3]
        have : (qs == p) = false := by simp; omega
        rw [this]; rfl
    · intro c dc hc1 hc2 hc3
      rw [hD', inv.before c dc hc1 hc2 hc3]; rfl
    · intro p2 d2 L2 hp1 hp2 hran hall hD2
      rw [hD'] at hD2
      simp only [Bool.or_eq_false_iff, beq_eq_false_iff_ne] at hD2
      exact hpend p2 d2 L2 hp1 hp2 hran hall hD2.1 hD2.2
  have hpdef : ∀ u, (a.put o.dst u).defers = ds := fun u => by rw [put_defers, inv.defers]
  have hCd : p < qs → d.o.k.isC = false := by
    intro hlt
    cases hC : d.o.k.isC with
    | false => rfl
    | true => have := inv.before p d hlt hp hC; rw [hD] at this; cases this
  unfold wpOpIn
  rw [ho]
  simp only
  rcases hst.is with ⟨hran, hw, hh, hv⟩ | ⟨hran, hw, hop⟩
  · -- passed over
    rw [← hwant] at hw
    rw [wanted_sound hgc inv.tms hw]
    simp only [Bool.false_eq_true, if_false]
    refine ⟨about_ok, ?_⟩
    have hvu : VR ρ L.v undef := by rw [hv]; exact undef_sound _
    rcases Nat.lt_or_ge p qs with hlt | hge
    · exact stay hlt inv.rel (tmr' (RLe.refl _) hvu rfl) (hpdef _) inv.new (fun p2 d2 L2 h1 h2 h3 h4 h5 _ => inv.pend p2 d2 L2 h1 h2 h3 h4 h5)
    · have epq : p = qs := by omega
      refine movedOn epq ?_ (tmr' (RLe.refl _) hvu rfl) (hpdef _) (New.refl _ _)
      have := inv.rel
      rw [← epq, (t.at_ hL).2, ← hh] at this
      exact this
  · rw [← hwant] at hw
    rw [wanted_sound hgc inv.tms hw, if_pos rfl]
    have hkc := hkc (opA_bad hop)
    rcases Nat.lt_or_ge p qs with hlt | hge
    · have hC := hCd hlt
      have hnc := calls_of_isC hC
      have hlater : okLater L (stH tr h' qs) = true := by
        refine later_at hok hL hC hlt (by rw [t.len]; exact inv.le) ?_ ?_
        · rcases inv.edge with e | ⟨dq, hq1, hq2, hq3⟩
          · exact .inl (by rw [t.len]; exact e)
          · obtain ⟨Lq, hLq⟩ := t.get hq1
            exact .inr ⟨dq, Lq, hLq, hq2⟩
        · intro c' d' L' h1 h2 h3 h4
          have h5 := inv.before c' d' h2 (t.back h3) h4
          cases hcc : d'.anc.contains p with
          | false => rfl
          | true =>
            have := inv.closed c' d' (t.back h3) h5 p (by simpa using hcc)
            rw [hD] at this; cases this
      unfold okLater at hlater
      rw [if_pos hran, hst.o] at hlater
      rw [opA_nc hnc] at hop
      cases ha : d.o.k.isAlloc with
      | true =>
        rw [ha, if_pos rfl, hop] at hlater
        simp only at hlater
        have hop2 : opK d.o.k (tmD tr D tm l.length) L.h = some (L.v, stH tr h' (p + 1)) := by rw [opK_congr hrdk]; exact hop
        obtain ⟨ob, e1, e2⟩ := alloc_sound (B := B) (w0 := w0) hkc ha hop2
        obtain ⟨e3, o3, e4⟩ := sameObj_eq hlater
        have hget : (stH tr h' qs).get L.h.size = some ob := by
          rw [e3, e1, Heap.get_push, if_pos rfl]
        have hnone := inv.pend p d L hlt hL hran ha hD
        have hlt2 : L.h.size < (stH tr h' qs).size := by
          rcases Nat.lt_or_ge L.h.size (stH tr h' qs).size with h1 | h1
          · exact h1
          · rw [inv.rel.fresh _ h1] at hget; cases hget
        obtain ⟨u, w2, em, g1, g2, g3⟩ := e2 inv.tms inv.rel hnone hlt2 hget
        refine up_done (not_defer hkc) g1 ?_
        have hh0 : h0.size ≤ L.h.size := by
          have := sizes' hm t (p := 0) (q := p) (by omega) (by omega)
          rwa [t.h0, (t.at_ hL).2] at this
        refine stay hlt g3 (tmr' (with_le hnone) g2 rfl) (hpdef _) (inv.new.trans (New.with_ hnone (Nat.le_refl _)) hh0) ?_
        intro p2 d2 L2 h1 h2 h3 h4 h5 h6
        have hne : L2.h.size ≠ L.h.size := by
          rcases Nat.lt_or_ge p2 p with h7 | h7
          · have := id_lt hm t h2 h3 h4 h7 (by omega)
            rw [(t.at_ hL).2] at this; omega
          · have := id_lt hm t hL hran ha (show p < p2 by omega) (by have := (List.getElem?_eq_some_iff.1 (t.back h2)).1; omega)
            rw [(t.at_ h2).2] at this; omega
        unfold Rho.with_
        rw [if_neg hne]
        exact inv.pend p2 d2 L2 h1 h2 h3 h4 h5
      | false =>
        rw [ha] at hlater
        simp only [Bool.false_eq_true, if_false] at hlater
        split at hlater
        · rename_i v2 hx2 hopq
          have hvv := V.beq_eq _ _ hlater
          subst hvv
          have hpure := pure_heap hC ha hopq
          subst hpure
          have hopq2 : opK d.o.k (tmD tr D tm l.length) (stH tr h' qs) = some (L.v, stH tr h' qs) := by rw [opK_congr hrdk]; exact hopq
          obtain ⟨u, w2, ρ2, g1, g2, g3, g4⟩ := opK_sound hkc ha inv.tms inv.rel hopq2
          refine up_done (not_defer hkc) g1 ?_
          have hss : h0.size ≤ (stH tr h' qs).size := by
            have := sizes' hm t (p := 0) (q := qs) (by omega) inv.le
            rwa [t.h0] at this
          refine stay hlt g3 (tmr' g4.1 g2 rfl) (hpdef _) (inv.new.trans g4 hss) ?_
          intro p2 d2 L2 h1 h2 h3 h4 h5 h6
          cases hx : ρ2 L2.h.size with
          | none => rfl
          | some e =>
            rcases g4.2 _ _ hx with h7 | h7
            · rw [inv.pend p2 d2 L2 h1 h2 h3 h4 h5] at h7; cases h7
            · have := id_lt hm t h2 h3 h4 h1 inv.le; omega
        · cases hlater
    · have epq : p = qs := by omega
      have hrel := inv.rel
      rw [← epq, (t.at_ hL).2] at hrel
      have hop2 : opA call d.o.k (tmD tr D tm l.length) L.h = some (L.v, stH tr h' (p + 1)) := by rw [opA_congr hrdk]; exact hop
      refine op_here hc hkc inv.tms hrel hop2 fun u w2 hret => ?_
      obtain ⟨ρ2, q1, q2, q3⟩ := hret
      exact movedOn epq q2 (tmr' q3.1 q1 rfl) (hpdef _) q3

theorem ready_of {ops : Array Oper} {listed : Array Bool} {i : Nat} (h : i ∈ Region.ready .any ops listed) : i < ops.size ∧ listed.getD i true = false ∧ ∀ o, ops[i]? = some o → ∀ e ∈ o.after.toList, Region.binds .any e = true → listed.getD e.on false = true := by
  unfold Region.ready at h
  rw [List.mem_filter] at h
  obtain ⟨h1, h2⟩ := h
  simp only [Bool.and_eq_true, Bool.not_eq_true'] at h2
  refine ⟨by simpa using h1, h2.1, fun o ho e he hb => ?_⟩
  have h3 := h2.2
  rw [ho] at h3
  simp only [Option.map_some, Option.getD_some, Array.all_eq_true, Bool.or_eq_true, Bool.not_eq_true'] at h3
  obtain ⟨j, hj, rfl⟩ := List.getElem_of_mem he
  rcases h3 j (by simpa using hj) with h4 | h4
  · have : Region.binds .any (o.after.toList[j]) = false := by simpa using h4
    rw [this] at hb; cases hb
  · simpa using h4

theorem ready_mk {ops : Array Oper} {listed : Array Bool} {i : Nat} {o : Oper} (ho : ops[i]? = some o) (h1 : listed.getD i true = false) (h2 : ∀ e ∈ o.after.toList, Region.binds .any e = true → listed.getD e.on false = true) : i ∈ Region.ready .any ops listed := by
  have hlt : i < ops.size := (Array.getElem?_eq_some_iff.1 ho).1
  unfold Region.ready
  rw [List.mem_filter]
  refine ⟨by simpa using hlt, ?_⟩
  rw [ho]
  simp only [h1, Bool.not_false, Option.map_some, Option.getD_some, Bool.true_and, Array.all_eq_true, Bool.or_eq_true, Bool.not_eq_true']
  intro j hj
  cases hb : Region.binds .any o.after[j] with
  | false => exact .inl rfl
  | true => exact .inr (h2 _ (by rw [← Array.getElem_toList]; exact List.getElem_mem _) hb)

def left (ops : Array Oper) (listed : Array Bool) : Nat := ((List.range ops.size).filter fun i => !listed.getD i false).length

theorem getD_set (listed : Array Bool) (i j : Nat) (hi : i < listed.size) (b : Bool) : (listed.setIfInBounds i true).getD j b = if j = i then true else listed.getD j b := by
  simp only [Array.getD_eq_getD_getElem?]
  by_cases e : j = i
  · subst e; rw [Array.getElem?_setIfInBounds_self_of_lt hi, if_pos rfl]; rfl
  · rw [Array.getElem?_setIfInBounds_ne (Ne.symm e), if_neg e]

theorem filter_less {α : Type} (p q : α → Bool) : ∀ (l : List α) (x : α), x ∈ l → p x = true → q x = false → (∀ y ∈ l, q y = true → p y = true) → (l.filter q).length < (l.filter p).length
  | [], x, h, _, _, _ => by cases h
  | y :: l, x, h, hp, hq, himp => by
    have hle : ∀ l : List α, (∀ y ∈ l, q y = true → p y = true) → (l.filter q).length ≤ (l.filter p).length := by
      intro l
      induction l with
      | nil => intro _; simp
      | cons z l ih =>
        intro hi
        have ih' := ih fun y hy => hi y (by simp [hy])
        cases hqz : q z with
        | true => simp [List.filter_cons, hqz, hi z (by simp) hqz, ih']
        | false =>
          cases hpz : p z with
          | true => simp [List.filter_cons, hqz, hpz]; omega
          | false => simp [List.filter_cons, hqz, hpz, ih']
    rcases List.mem_cons.1 h with e | e
    · subst e
      have := hle l fun z hz => himp z (by simp [hz])
      simp [List.filter_cons, hp, hq]; omega
    · have ih := filter_less p q l x e hp hq fun z hz => himp z (by simp [hz])
      cases hqy : q y with
      | true => simp [List.filter_cons, hqy, himp y (by simp) hqy]; omega
      | false =>
        cases hpy : p y with
        | true => simp [List.filter_cons, hqy, hpy]; omega
        | false => simp [List.filter_cons, hqy, hpy]; omega

theorem left_less {ops : Array Oper} {listed : Array Bool} {i : Nat} (hi : i < ops.size) (hs : listed.size = ops.size) (h : listed.getD i false = false) : left ops (listed.setIfInBounds i true) < left ops listed := by
  refine filter_less _ _ _ i (by simpa using hi) (by rw [h]; rfl) (by rw [getD_set _ _ _ (by omega), if_pos rfl]; rfl) ?_
  intro y hy hq
  rw [getD_set _ _ _ (by omega)] at hq
  by_cases e : y = i
  · subst e; rw [h]; rfl
  · rw [if_neg e] at hq; exact hq

theorem tmD_all (t : TrOk call l tr tm tm' h0 h') {D : Nat → Bool} (hall : ∀ q, q < l.length → D q = true) : ∀ q, q ≤ l.length → ∀ x, (tmD tr D tm q).get x = (stTm tr tm' q).get x := by
  intro q
  induction q with
  | zero => intro _ x; rw [t.tm0]; rfl
  | succ q ih =>
    intro hq x
    obtain ⟨L, hL⟩ := t.get (List.getElem?_eq_getElem (show q < l.length by omega))
    have hst := t.step _ _ _ hL
    rw [hst.put, ← (t.at_ hL).1]
    simp only [tmD, hL, hall q (by omega), if_true]
    rw [put_get, put_get, ih (by omega)]

theorem draw_any {ops : Array Oper} (hc : CallOk P B w0 call) (hm : CallHM call) (t : TrOk call l tr tm tm' h0 h') (hk : Chk ops l) (hok : okAll 0 tr h' = true) {nt : Nat} (hops : ∀ (q : Nat) (d : DOp), l[q]? = some d → ∃ o, ops[d.idx]? = some o ∧ opC P ops nt o = some d.o)
    {ro : Option Nat} {n : Nat} {ρ0 : Rho} {ds : List Deferred} {Q : Exit → Act → World → Prop}
    (hq : ∀ a' w' ρ', a'.defers = ds → TMR ρ' nt tm' a'.tmps → Rel P B w0 ρ' h' w' → New ρ0 ρ' h0.size → Q .normal a' w') :
    ∀ (fuel : Nat) (listed : Array Bool) (a : Act) (w : World) (ρ : Rho) (qs : Nat), listed.size = ops.size → left ops listed ≤ fuel → Inv P B w0 l tr tm h0 h' ρ0 nt ds (DoneAt l listed) a w ρ qs → wpAnyIn (Fw ro) n P .any ops Q fuel listed a w := by
  -- nothing is ready: all is done
  have fin : ∀ (listed : Array Bool) (a : Act) (w : World) (ρ : Rho) (qs : Nat), listed.size = ops.size → Inv P B w0 l tr tm h0 h' ρ0 nt ds (DoneAt l listed) a w ρ qs → Region.ready .any ops listed = [] → Q .normal a w := by
    intro listed a w ρ qs hs inv hnil
    have hall : ∀ q, q < l.length → DoneAt l listed q = true := by
      intro q
      induction q using Nat.strongRecOn with
      | _ q ih =>
        intro hq
        cases hD : DoneAt l listed q with
        | true => rfl
        | false =>
          obtain ⟨o, ho, hoc⟩ := hops q l[q] (List.getElem?_eq_getElem hq)
          have hlist : listed.getD (l[q]).idx false = false := by
            unfold DoneAt at hD
            rw [List.getElem?_eq_getElem hq] at hD
            exact hD
          have hidx := hk.lt q l[q] (List.getElem?_eq_getElem hq)
          have hlist2 : listed.getD (l[q]).idx true = false := by
            rw [Array.getD_eq_getD_getElem?] at hlist ⊢
            rw [Array.getElem?_eq_getElem (by omega)] at hlist ⊢
            exact hlist
          have : (l[q]).idx ∈ Region.ready .any ops listed := by
            refine ready_mk ho hlist2 fun e he hb => ?_
            obtain ⟨p, d', hp1, hp2, hp3⟩ := hk.edge q l[q] o (List.getElem?_eq_getElem hq) ho e he hb
            have hpq := hk.anc q l[q] (List.getElem?_eq_getElem hq) p hp1
            have := ih p hpq (by omega)
            unfold DoneAt at this
            rw [hp2] at this
            rw [← hp3]; exact this
          rw [hnil] at this
          cases this
    have hqs : qs = l.length := by
      rcases inv.edge with e | ⟨d, hd1, hd2, hd3⟩
      · exact e
      · have hlt := (List.getElem?_eq_some_iff.1 hd1).1
        rw [hall qs hlt] at hd3; cases hd3
    have hend : stH tr h' l.length = h' ∧ stTm tr tm' l.length = tm' := by
      unfold stH stTm
      rw [List.getElem?_eq_none (by rw [t.len]; exact Nat.le_refl _)]
      exact ⟨rfl, rfl⟩
    have hrel := inv.rel
    rw [hqs, hend.1] at hrel
    refine hq a w ρ inv.defers ⟨inv.tms.1, fun x v hxne hx => ?_⟩ hrel inv.new
    refine inv.tms.2 x v hxne ?_
    rw [tmD_all t hall l.length (Nat.le_refl _) x, hend.2]
    exact hx
  intro fuel
  induction fuel with
  | zero =>
    intro listed a w ρ qs hs hleft inv
    have hnil : Region.ready .any ops listed = [] := by
      cases hr : Region.ready .any ops listed with
      | nil => rfl
      | cons i r =>
        obtain ⟨h1, h2, _⟩ := ready_of (ops := ops) (listed := listed) (i := i) (by rw [hr]; simp)
        have : i ∈ (List.range ops.size).filter fun i => !listed.getD i false := by
          rw [List.mem_filter]
          refine ⟨by simpa using h1, ?_⟩
          rw [Array.getD_eq_getD_getElem?] at h2 ⊢
          rw [Array.getElem?_eq_getElem (by omega)] at h2 ⊢
          simpa using h2
        have hpos := List.length_pos_of_mem this
        unfold left at hleft
        omega
    exact ⟨hnil, fin listed a w ρ qs hs inv hnil⟩
  | succ fuel ih =>
    intro listed a w ρ qs hs hleft inv
    refine ⟨fun hnil => fin listed a w ρ qs hs inv hnil, fun i hi => ?_⟩
    obtain ⟨h1, h2, h3⟩ := ready_of hi
    obtain ⟨p, d, hp, rfl⟩ := hk.all i h1
    obtain ⟨o, ho, hoc⟩ := hops p d hp
    have h2' : listed.getD d.idx false = false := by
      rw [Array.getD_eq_getD_getElem?] at h2 ⊢
      rw [Array.getElem?_eq_getElem (by omega)] at h2 ⊢
      exact h2
    have hDp : DoneAt l listed p = false := by unfold DoneAt; rw [hp]; exact h2'
    have hanc : ∀ x ∈ d.anc, DoneAt l listed x = true := by
      intro x hx
      obtain ⟨e, r, d', e1, e2, e3, e4, e5⟩ := hk.from_ p d o hp ho x hx
      have hr : DoneAt l listed r = true := by unfold DoneAt; rw [e3]; simp only; rw [e4]; exact h3 o ho e e1 e2
      rcases e5 with e5 | e5
      · subst e5; exact hr
      · exact inv.closed r d' e3 hr x e5
    refine inv_step hc hm t hk hok hops inv hp hDp hanc (D' := DoneAt l (listed.setIfInBounds d.idx true)) ?_ ?_
    · intro q
      unfold DoneAt
      cases hq : l[q]? with
      | none =>
        have : (q == p) = false := by
          simp only [beq_eq_false_iff_ne]
          intro e; subst e; rw [hp] at hq; cases hq
        rw [this]; rfl
      | some dq =>
        simp only
        rw [getD_set _ _ _ (by omega)]
        by_cases e : q = p
        · subst e
          rw [hp] at hq; cases hq
          simp
        · have hne : dq.idx ≠ d.idx := by
            rcases Nat.lt_or_ge q p with h4 | h4
            · exact (hk.pair p d q dq hp hq h4).1
            · exact Ne.symm (hk.pair q dq p d hq hp (by omega)).1
          have : (q == p) = false := by simpa using e
          rw [if_neg hne, this, Bool.or_false]
    · intro a' w' ρ' qs' inv'
      exact ih (listed.setIfInBounds d.idx true) a' w' ρ' qs' (by simpa using hs) (by have := left_less h1 hs h2'; omega) inv'

theorem trace_DX {call : CallF} {nt : Nat} : ∀ (l : List DOp) (hd : ∀ d ∈ l, dstOk nt d.o.dst = true) {tr : List (DOp × Log)} {tm tm' : TM} {h h' : Heap}, traceDraw call l tm h = some (tr, tm', h') → tm'.get DX = tm.get DX
  | [], _, _, _, _, _, _, hx => by cases hx; rfl
  | d :: l, hd, tr, tm, tm', h, h', hx => by
    have h0 := hd d List.mem_cons_self
    have h1 : ∀ d ∈ l, dstOk nt d.o.dst = true := fun d hm => hd d (List.mem_cons_of_mem _ hm)
    unfold traceDraw at hx
    split at hx
    · split at hx
      · rename_i hh; cases hx; rw [trace_DX l h1 hh, put_DX h0]
      · cases hx
    · split at hx
      · split at hx
        · rename_i hh; cases hx; rw [trace_DX l h1 hh, put_DX h0]
        · cases hx
      · cases hx
    · cases hx

/-- A region whose order is drawn. -/
theorem draw_sound {call : CallF} (hc : CallOk P B w0 call) (hm : CallHM call) {ro : Option Nat} {n nt id : Nat} {ops : Array Oper} {l : List DOp} (hmix : P.follows .mixedOrders = true) (hl : drawC P nt ops = some l)
    {ρ : Rho} {tm : TM} {a : Act} {h : Heap} {w : World} (hta : ActR ρ nt ro tm a) (r : Rel P B w0 ρ h w) {tm' : TM} {h' : Heap} (hx : runDraw call l tm h = some (tm', h')) {Q : Exit → Act → World → Prop}
    (hq0 : ∀ a' w' ρ', ActR ρ' nt ro tm' a' → Rel P B w0 ρ' h' w' → New ρ ρ' h.size → Q .normal a' w') : (Code.region id ops true).wpIn (Fw ro) n P Q a w := by
  unfold runDraw at hx
  split at hx
  · rename_i tr tm2 h2 htr
    split at hx
    · rename_i hok
      cases hx
      unfold drawC at hl
      simp only at hl
      split at hl
      · rename_i l2 hdl
        split at hl
        · rename_i hchk
          cases hl
          obtain ⟨t1, t2, t3, t4⟩ := trace_ok l htr
          have t : TrOk call l tr tm tm' h h' := ⟨t1, t2, t3, t4⟩
          have hk := chk_of hchk
          have hops := drawList_ok _ _ hdl
          have ht := hta.1
          have hdx : tm'.get DX = tm.get DX := trace_DX (nt := nt) l (fun d hm => by
            obtain ⟨q, hq1, hq2⟩ := List.mem_iff_getElem.1 hm
            obtain ⟨o, _, ho⟩ := hops q d (by rw [List.getElem?_eq_getElem hq1, hq2])
            have := opC_parts ho
            rw [this.2.2.1]; exact this.2.2.2) htr
          have hq : ∀ a' w' ρ', a'.defers = a.defers → TMR ρ' nt tm' a'.tmps → Rel P B w0 ρ' h' w' → New ρ ρ' h.size → Q .normal a' w' := fun a' w' ρ' q1 q2 q3 q4 => hq0 a' w' ρ' (hta.next q2 q4.1 q1 hdx) q3 q4
          refine wpIn_region_any hmix ?_
          obtain ⟨qs, g1, g2, g3, g4⟩ := next_C l l.length 0 (by omega)
          have hup := (rel_up (ρ := ρ) (w := w.drew) hm t (q := 0) (by rw [t2]; exact r.drew) qs (by omega) (fun c d h1 h2 h3 => g4 c d h1 (by omega) h3)).1
          rw [Nat.zero_add] at hup
          have hfalse : ∀ q, DoneAt l (Array.replicate ops.size false) q = false := by
            intro q
            unfold DoneAt
            split
            · rw [Array.getD_eq_getD_getElem?]
              rename_i d _
              by_cases hlt : d.idx < ops.size
              · simp [hlt]
              · simp [hlt]
            · rfl
          have tm0 : ∀ q, tmD tr (DoneAt l (Array.replicate ops.size false)) tm q = tm := by
            intro q
            induction q with
            | zero => rfl
            | succ q ih =>
              simp only [tmD, hfalse, Bool.false_eq_true, if_false, ih]
              split <;> rfl
          refine draw_any hc hm t hk hok hops (ρ0 := ρ) (ds := a.defers) hq ops.size _ a w.drew ρ qs (by simp) ?_ ⟨?_, g2, ?_, ?_, hup, by rw [tm0]; exact ht, ?_, rfl, New.refl _ _⟩
          · unfold left
            refine Nat.le_trans (List.length_filter_le _ _) (by simp)
          · intro q d h1 h2; rw [hfalse] at h2; cases h2
          · rcases g3 with e | ⟨d, e1, e2⟩
            · exact .inl e
            · exact .inr ⟨d, e1, e2, hfalse _⟩
          · intro c d h1 h2 h3
            rw [g4 c d (Nat.zero_le _) h1 h2] at h3; cases h3
          · intro p d L h1 h2 h3 h4 h5
            cases hx : ρ L.h.size with
            | none => rfl
            | some e =>
              have h6 := r.dom _ _ hx
              have h7 := sizes' hm t (p := 0) (q := p) (by omega) (by have := (List.getElem?_eq_some_iff.1 (t.back h2)).1; omega)
              rw [t2, (t.at_ h2).2] at h7
              omega
        · cases hl
      · cases hl
    · cases hx
  · cases hx
end
end Abs
end Go.Proofs.YtbjpoelgcehidaaGreatDoor
