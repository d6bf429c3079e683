/- The abstract machine's memory alone: what a run leaves as it was. -/
import Derived.Test.YtmgbcaboljilnaaGreatDoorA13
namespace Go.Proofs.YtmgbcaboljilnaaGreatDoor
namespace Abs
set_option linter.unusedVariables false
set_option linter.unusedSimpArgs false
open Go.RowKit

/-- What lies below the mark is as it was. -/
structure HM (h h' : Heap) : Prop where
  size : h.size ≤ h'.size
  low : h'.low ≤ h.low
  get : ∀ b, b < h'.low → b < h.size → h'.get b = h.get b

theorem HM.refl (h : Heap) : HM h h := ⟨Nat.le_refl _, Nat.le_refl _, fun _ _ _ => rfl⟩
theorem HM.trans {a b c : Heap} (h : HM a b) (k : HM b c) : HM a c :=
  ⟨Nat.le_trans h.size k.size, Nat.le_trans k.low h.low, fun x h1 h2 => (k.get x h1 (Nat.lt_of_lt_of_le h2 h.size)).trans (h.get x (Nat.lt_of_lt_of_le h1 k.low) h2)⟩
theorem HM.put (h : Heap) (b : Nat) (o : Obj) : HM h (h.put b o) :=
  ⟨Nat.le_refl _, Nat.min_le_left _ _, fun x h1 h2 => by
    have : x < min h.low b := h1
    rw [Heap.get_put, if_neg (by omega)]⟩
theorem HM.push (h : Heap) (o : Obj) : HM h (h.push o) :=
  ⟨Nat.le_succ _, Nat.le_refl _, fun x h1 h2 => by rw [Heap.get_push, if_neg (by omega)]⟩
theorem HM.kill : ∀ (S : List Nat) (h : Heap), HM h (h.kill S)
  | [], h => HM.refl h
  | b :: r, h => by
    unfold Heap.kill
    split
    · exact (HM.put h b .dead).trans (HM.kill r _)
    · exact HM.kill r h
theorem HM.wr {h h' : Heap} {b o : Nat} {vs : List V} (hw : h.wr b o vs = some h') : HM h h' := by
  unfold Heap.wr at hw
  split at hw
  · split at hw
    · cases hw; exact (HM.kill _ h).trans (HM.put _ _ _)
    · cases hw
  · cases hw

theorem HM.core {h h' : Heap} {sz bytes n : Nat} {tyK : Option Nat} {x v : V} {items : List V} (hc : appendCore h sz bytes tyK x n items = some (v, h')) : HM h h' := by
  unfold appendCore at hc
  split at hc
  · split at hc
    · cases hc; exact HM.refl _
    · split at hc
      · cases hc; exact HM.push _ _
      · cases hc
  · split at hc
    · split at hc
      · cases hc; exact HM.refl _
      · split at hc
        · rename_i h2 hw; cases hc; exact HM.wr hw
        · cases hc
    · split at hc
      · split at hc
        · cases hc; exact HM.push _ _
        · cases hc
      · cases hc
  · split at hc
    · split at hc
      · cases hc; exact HM.refl _
      · split at hc
        · rename_i h2 hw; cases hc; exact HM.wr hw
        · cases hc
    · split at hc
      · split at hc
        · split at hc
          · cases hc; exact (HM.put _ _ _).trans (HM.push _ _)
          · cases hc
        · cases hc
      · cases hc
  · cases hc

theorem HM.op {k : K} {tm : TM} {h h' : Heap} {v : V} (hx : opK k tm h = some (v, h')) : HM h h' := by
  cases k <;> simp only [opK] at hx
  case store n a x =>
    split at hx
    · split at hx
      · rename_i h2 hh
        cases hx
        unfold storeA at hh
        split at hh
        · split at hh
          · exact HM.wr hh
          · cases hh
        · cases hh
      · cases hx
    · cases hx
  case append sz bt ty x y =>
    split at hx
    · unfold appendA at hx
      split at hx
      · split at hx
        · split at hx
          · exact HM.core hx
          · cases hx
        · cases hx
      · cases hx
    · cases hx
  case unsStr bt x n =>
    split at hx
    · unfold unsStrA at hx
      split at hx
      · split at hx
        · split at hx
          · cases hx; exact HM.refl _
          · cases hx
        · split at hx
          · cases hx; exact HM.refl _
          · split at hx
            · split at hx
              · split at hx
                · cases hx; exact HM.put _ _ _
                · cases hx
              · cases hx
            · cases hx
        · cases hx
      · cases hx
    · cases hx
  case appendS ty x y =>
    split at hx
    · unfold appendSA at hx
      split at hx
      · exact HM.core hx
      · cases hx
    · cases hx
  case copy sz x y =>
    split at hx
    · unfold copyA at hx
      split at hx
      · split at hx
        · split at hx
          · split at hx
            · cases hx; exact HM.refl _
            · split at hx
              · rename_i h2 hw; cases hx; exact HM.wr hw
              · cases hx
          · split at hx
            · cases hx; exact HM.refl _
            · split at hx
              · rename_i h2 hw; cases hx; exact HM.wr hw
              · cases hx
          · cases hx; exact HM.refl _
          · cases hx
        · cases hx
      · cases hx
    · cases hx
  case clear sz z x =>
    split at hx
    · unfold clearA at hx
      split at hx
      · cases hx
      · cases hx; exact HM.refl _
      · split at hx
        · split at hx
          · rename_i h2 hw; cases hx; exact HM.wr hw
          · cases hx
        · split at hx
          · rename_i h2 hw; cases hx; exact HM.wr hw
          · cases hx
        · cases hx
    · cases hx
  case makeSl sz bt z l c =>
    split at hx
    · unfold makeSlA at hx
      split at hx
      · split at hx
        · cases hx; exact HM.push _ _
        · cases hx
      · cases hx
    · cases hx
  case mapUpd kk m k v2 =>
    split at hx
    · split at hx
      · rename_i h2 hh
        cases hx
        unfold mapUpdA at hh
        split at hh
        · split at hh
          · split at hh
            · cases hh; exact HM.put _ _ _
            · cases hh
          · cases hh
        · cases hh
      · cases hx
    · cases hx
  case mapDel kk m k =>
    split at hx
    · split at hx
      · rename_i h2 hh
        cases hx
        unfold mapDelA at hh
        split at hh
        · cases hh; exact HM.refl _
        · split at hh
          · split at hh
            · cases hh; exact HM.put _ _ _
            · cases hh
          · cases hh
        · cases hh
      · cases hx
    · cases hx
  case mapEnt kk z m k =>
    split at hx
    · unfold mapEntA at hx
      split at hx
      · split at hx
        · split at hx
          · split at hx
            · cases hx; exact HM.put _ _ _
            · cases hx; exact HM.put _ _ _
            · cases hx
          · cases hx
        · cases hx
      · cases hx
    · cases hx
  case entSt m s x =>
    split at hx
    · split at hx
      · rename_i h2 hh
        cases hx
        unfold entStA at hh
        split at hh
        · split at hh
          · split at hh
            · split at hh
              · cases hh; exact HM.put _ _ _
              · cases hh
            · cases hh
          · cases hh
        · cases hh
      · cases hx
    · cases hx
  all_goals first
    | (cases hx; done)
    | (cases hx; exact HM.push _ _)
    | ((repeat' split at hx) <;> first | (cases hx; done) | (cases hx; exact HM.refl _) | (cases hx; exact HM.push _ _))

def CallHM (call : CallF) : Prop := ∀ f args h v h', call f args h = some (v, h') → HM h h'
def LoopHM (L : LoopF) : Prop := ∀ c tm h ex tm' h', L c tm h = some (ex, tm', h') → HM h h'

theorem HM.opA {call : CallF} (hc : CallHM call) {k : K} {tm : TM} {h h' : Heap} {v : V} (hx : opA call k tm h = some (v, h')) : HM h h' := by
  unfold Abs.opA at hx
  split at hx
  · split at hx
    · exact hc _ _ _ _ _ hx
    · exact hc _ _ _ _ _ hx
    · cases hx
  · split at hx
    · split at hx
      · exact hc _ _ _ _ _ hx
      · cases hx
    · cases hx
  · exact HM.op hx

theorem HM.step {call : CallF} (hc : CallHM call) {o : AOp} {tm tm' : TM} {h h' : Heap} (hx : stepOp call o tm h = some (tm', h')) : HM h h' := by
  unfold stepOp at hx
  split at hx
  · split at hx
    · rename_i v h2 hh; cases hx; exact HM.opA hc hh
    · cases hx
  · cases hx; exact HM.refl _
  · cases hx

theorem HM.ops {call : CallF} (hc : CallHM call) : ∀ (l : List AOp) {tm tm' : TM} {h h' : Heap} (hx : runOps call l tm h = some (tm', h')), HM h h'
  | [], _, _, _, _, hx => by cases hx; exact HM.refl _
  | o :: r, tm, tm', h, h', hx => by
    unfold runOps at hx
    split at hx
    · rename_i tm2 h2 hh
      exact (HM.step hc hh).trans (HM.ops hc r hx)
    · cases hx

theorem HM.trace {call : CallF} (hc : CallHM call) : ∀ (l : List DOp) {tr : List (DOp × Log)} {tm tm' : TM} {h h' : Heap} (hx : traceDraw call l tm h = some (tr, tm', h')), HM h h'
  | [], _, _, _, _, _, hx => by cases hx; exact HM.refl _
  | o :: r, tr, tm, tm', h, h', hx => by
    unfold traceDraw at hx
    split at hx
    · split at hx
      · rename_i q1 q2 q3 hh; cases hx; exact HM.trace hc r hh
      · cases hx
    · split at hx
      · rename_i v h2 hh
        split at hx
        · rename_i q1 q2 q3 hh2; cases hx; exact (HM.opA hc hh).trans (HM.trace hc r hh2)
        · cases hx
      · cases hx
    · cases hx
theorem HM.draw {call : CallF} (hc : CallHM call) (l : List DOp) {tm tm' : TM} {h h' : Heap} (hx : runDraw call l tm h = some (tm', h')) : HM h h' := by
  unfold runDraw at hx
  split at hx
  · rename_i tr q1 q2 hh
    split at hx
    · cases hx; exact HM.trace hc l hh
    · cases hx
  · cases hx

theorem HM.exec {call : CallF} {L : LoopF} (hc : CallHM call) (hl : LoopHM L) : ∀ (c : AC) {tm tm' : TM} {h h' : Heap} {ex : Ex} (hx : execC call L c tm h = some (ex, tm', h')), HM h h'
  | .skip, _, _, _, _, _, hx => by cases hx; exact HM.refl _
  | .ops l, tm, tm', h, h', ex, hx => by
    unfold execC at hx
    split at hx
    · rename_i a b hh; cases hx; exact HM.ops hc l hh
    · cases hx
  | .draw l, tm, tm', h, h', ex, hx => by
    unfold execC at hx
    split at hx
    · rename_i a b hh; cases hx; exact HM.draw hc l hh
    · cases hx
  | .seq a b, tm, tm', h, h', ex, hx => by
    unfold execC at hx
    split at hx
    · rename_i tm2 h2 hh
      exact (HM.exec hc hl a hh).trans (HM.exec hc hl b hx)
    · exact HM.exec hc hl a hx
  | .cond x a b, tm, tm', h, h', ex, hx => by
    unfold execC at hx
    split at hx
    · split at hx
      · exact HM.exec hc hl a hx
      · exact HM.exec hc hl b hx
    · cases hx
  | .block id c, tm, tm', h, h', ex, hx => by
    unfold execC at hx
    split at hx
    · rename_i i tm2 h2 hh; cases hx; exact HM.exec hc hl c hh
    · exact HM.exec hc hl c hx
  | .loop c, tm, tm', h, h', ex, hx => by
    unfold execC at hx
    split at hx
    · rename_i tm2 h2 hh
      exact (HM.exec hc hl c hh).trans (hl _ _ _ _ _ _ hx)
    · exact HM.exec hc hl c hx
  | .exit id, _, _, _, _, _, hx => by cases hx; exact HM.refl _
  | .ret, _, _, _, _, _, hx => by cases hx; exact HM.refl _
  | .bad, _, _, _, _, _, hx => by cases hx
  | .range nt f ps a b, tm, tm', h, h', ex, hx => by
    unfold execC at hx
    split at hx
    · split at hx
      · rename_i v h2 hh
        have h3 := ((HM.push h .dfr).trans (HM.push _ _)).trans (hc _ _ _ _ _ hh)
        split at hx
        · split at hx
          · cases hx
          · cases hx; exact h3.trans (HM.put _ _ _)
        · cases hx
      · cases hx
    · cases hx
  | .defr f args, tm, tm', h, h', ex, hx => by
    unfold execC at hx
    split at hx
    · cases hx; exact HM.refl _
    · cases hx

theorem HM.yield {exec : LoopF} (he : LoopHM exec) {b : Nat} {vs : List V} {h h' : Heap} {v : V} (hx : yieldBody exec b vs h = some (v, h')) : HM h h' := by
  unfold yieldBody at hx
  split at hx
  · split at hx
    · split at hx
      · rename_i h2 hh
        have q1 := he _ _ _ _ _ _ hh
        split at hx
        · split at hx
          · rename_i h3 hh3
            have q2 := q1.trans ((HM.put h2 b _).trans (he _ _ _ _ _ _ hh3))
            split at hx
            · split at hx
              · cases hx; exact q2.trans (HM.put _ _ _)
              · cases hx; exact q2.trans (HM.put _ _ _)
            · cases hx
          · cases hx
        · cases hx
      · cases hx
    · cases hx
  · cases hx

theorem HM.defers {C : Cfg} {exec : LoopF} (he : LoopHM exec) : ∀ (l : List V) {h h' : Heap} (hx : runDefers C exec l h = some h'), HM h h' := by
  intro l
  induction l with
  | nil => intro h h' hx; simp only [runDefers] at hx; cases hx; exact HM.refl _
  | cons x r ih =>
    intro h h' hx
    unfold runDefers at hx
    split at hx
    · rename_i he2; cases he2
    · rename_i he2
      cases he2
      split at hx
      · exact (HM.put _ _ _).trans (ih hx)
      · cases hx
    · rename_i he2
      cases he2
      split at hx
      · exact ih hx
      · split at hx
        · split at hx
          · split at hx
            · cases hx
            · rename_i hh
              split at hx
              · exact (he _ _ _ _ _ _ hh).trans (ih hx)
              · cases hx
            · cases hx
          · cases hx
        · cases hx
    · cases hx

theorem HM.close {h h1 : Heap} (hm : HM { h with low := h.size } h1) (v : V) : HM h (closeCall h v h1).2 := by
  unfold closeCall
  split
  · exact HM.refl _
  · exact ⟨hm.size, Nat.min_le_left _ _, fun b h2 h3 => by
      have : b < min h.low h1.low := h2
      exact hm.get b (by omega) h3⟩

theorem HM.body {C : Cfg} {exec : LoopF} (he : LoopHM exec) {af : AFunc} {args : List V} {h h' : Heap} {v : V} (hx : callBody C exec af args h = some (v, h')) : HM h h' := by
  unfold callBody at hx
  split at hx
  · split at hx
    · cases hx
    · rename_i ex tm h1 hne hh
      split at hx
      · rename_i h2 hd
        split at hx
        · rename_i vs hvs
          have := HM.close ((he _ _ _ _ _ _ hh).trans (HM.defers he _ hd)) (oneOf vs)
          have e : (closeCall h (oneOf vs) h2).2 = h' := by
            have := Option.some.inj hx
            rw [this]
          rw [← e]; exact this
        · cases hx
      · cases hx
    · cases hx
  · cases hx

theorem HM.runF (C : Cfg) (hS : ∀ f args h v h', C.S f args h = some (some (v, h')) → HM h h') {exec : LoopF} (he : LoopHM exec) {f : Nat} {args : List V} {h h' : Heap} {v : V} (hx : Abs.runF C exec f args h = some (v, h')) : HM h h' := by
  unfold Abs.runF at hx
  split at hx
  · rename_i r hr
    subst hx
    exact hS _ _ _ _ _ hr
  · split at hx
    · exact HM.body he hx
    · cases hx

theorem HM.run (C : Cfg) (hS : ∀ f args h v h', C.S f args h = some (some (v, h')) → HM h h') : ∀ n, CallHM (Abs.run C n).1 ∧ LoopHM (Abs.run C n).2
  | 0 => by
    refine ⟨?_, ?_⟩
    · intro f args h v h' hx; simp [Abs.run] at hx
    · intro c tm h ex tm' h' hx; simp [Abs.run] at hx
  | n + 1 => by
    obtain ⟨h1, h2⟩ := HM.run C hS n
    have hl : LoopHM (Abs.run C (n + 1)).2 := fun c tm h ex tm' h' hx => HM.exec h1 h2 c hx
    refine ⟨fun f args h v h' hx => ?_, hl⟩
    simp only [Abs.run] at hx
    split at hx
    · exact HM.runF C hS hl hx
    · exact HM.yield hl hx
end Abs
end Go.Proofs.YtmgbcaboljilnaaGreatDoor
