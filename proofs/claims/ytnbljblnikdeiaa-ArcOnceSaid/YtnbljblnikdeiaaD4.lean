/- Layer 11: the cache's room, fresh, Ask. -/
import Derived.Test.YtnbljblnikdeiaaD3
namespace Go.Proofs.Ytnbljblnikdeiaa
namespace Abs
set_option linter.unusedVariables false
set_option linter.unusedSimpArgs false
set_option maxHeartbeats 1600000
open Go.RowKit
attribute [local irreducible] WO WC WD StepK Ans Does Runs DoesD

theorem WC.seqM {C : Cfg} {a b : AC} {e : List (Nat × V)} {h : Heap} {Q : Ex → List (Nat × V) → Heap → Prop} {M : List (Nat × V) → Heap → Prop}
    (hx : WC C a e h (fun x e' h' => match x with | .normal => M e' h' | x => Q x e' h')) (hm : ∀ e' h', M e' h' → WC C b e' h' Q) : WC C (.seq a b) e h Q :=
  WC.seq (hx.mono fun x e' h' q => by
    cases x with
    | normal => exact hm _ _ q
    | exit id => exact q
    | ret => exact q)
theorem WC.seqCut {C : Cfg} {l : List AOp} {b : AC} {e : List (Nat × V)} {h : Heap} {Q : Ex → List (Nat × V) → Heap → Prop} {M : List (Nat × V) → Heap → Prop}
    (hx : WO C l e h M) (hm : ∀ e' h', M e' h' → WC C b e' h' Q) : WC C (.seq (.ops l) b) e h Q := WC.seqO (hx.mono hm)

theorem eql_nn (m n : Int) : binA .eql (iv m) (iv n) = some (.bool (decide (m = n))) := by
  simp only [binA, if_true]
  congr 2
theorem as_tail1 {s : AS} (h : s.t1 = []) : ({ s with t1 := s.t1.tail } : AS) = s := by cases s; simp only at h; subst h; rfl
theorem as_tail2 {s : AS} (h : s.t2 = []) : ({ s with t2 := s.t2.tail } : AS) = s := by cases s; simp only at h; subst h; rfl
theorem as_tail3 {s : AS} (h : s.b1 = []) : ({ s with b1 := s.b1.tail } : AS) = s := by cases s; simp only at h; subst h; rfl
theorem as_tail4 {s : AS} (h : s.b2 = []) : ({ s with b2 := s.b2.tail } : AS) = s := by cases s; simp only at h; subst h; rfl

def condS (s : AS) (b : Bool) : Bool := decide (0 < s.t1.length ∧ ((s.t1.length : Int) > s.p ∨ (b = true ∧ (s.t1.length : Int) = s.p) ∨ s.t2.length = 0))
/-- Room is made; what leaves. -/
def roomS (s : AS) (b : Bool) : List Nat × AS :=
  if condS s b = true then (s.t1.headD [], { s with t1 := s.t1.tail, b1 := s.b1 ++ [s.t1.headD []] })
  else if s.t2.headD [] = [] then (s.t2.headD [], { s with t2 := s.t2.tail })
  else (s.t2.headD [], { s with t2 := s.t2.tail, b2 := s.b2 ++ [s.t2.headD []] })
def freshS (s : AS) : List Nat × AS :=
  if (s.t1.length : Int) = s.c ∧ s.b1.length = 0 then (s.t1.headD [], { s with t1 := s.t1.tail })
  else if (s.t1.length : Int) + s.b1.length = s.c then roomS { s with b1 := s.b1.tail } false
  else if (s.t1.length : Int) + s.b1.length + s.t2.length + s.b2.length < s.c then ([], s)
  else if (s.t1.length : Int) + s.b1.length + s.t2.length + s.b2.length = 2 * s.c then roomS { s with b2 := s.b2.tail } false
  else roomS s false
def upS (s : AS) (x y : Nat) : AS :=
  let q : Int := (y / x : Nat)
  let t : Int := s.p + (if 1 > q then 1 else q)
  { s with p := if t < s.c then t else s.c }
def downS (s : AS) (x y : Nat) : AS :=
  let q : Int := (x / y : Nat)
  let t : Int := s.p - (if 1 > q then 1 else q)
  { s with p := if t > 0 then t else 0 }
def askS (s : AS) (k : List Nat) : Bool × List Nat × AS :=
  let s1 := dropS s k
  if hasS s k = true then (true, [], { s1 with t2 := s1.t2 ++ [k] })
  else if s.b1.length > s1.b1.length then
    let r := roomS (upS s1 s.b1.length s.b2.length) false
    (false, r.1, { r.2 with t2 := r.2.t2 ++ [k] })
  else if s.b2.length > s1.b2.length then
    let r := roomS (downS s1 s.b1.length s.b2.length) true
    (false, r.1, { r.2 with t2 := r.2.t2 ++ [k] })
  else
    let r := freshS s1
    (false, r.1, { r.2 with t1 := r.2.t1 ++ [k] })
def askF (s : AS) (k : List Nat) : Bool × List Nat × AS := if k = [] then (false, [], s) else askS s k
/-- All lists, the target and the size are small. -/
structure OkS (s : AS) : Prop where
  bd : ∀ i, (s.get i).length ≤ 50000
  p : 0 ≤ s.p ∧ s.p ≤ 1000000
  c : 0 ≤ s.c ∧ s.c ≤ 1000000
theorem OkS.b {s : AS} (o : OkS s) : Bd s := fun i => by have := o.bd i; omega

theorem tail_len (l : List (List Nat)) (n : Nat) (h : l.length ≤ n) : l.tail.length ≤ n := by rw [List.length_tail]; omega
theorem roomS_bd {s : AS} (h : Bd s) (hl : ∀ i, (s.get i).length + 1 ≤ 100000) (b : Bool) : Bd (roomS s b).2 := by
  have h0 : s.t1.length + 1 ≤ 100000 := hl 0
  have h1 : s.t2.length + 1 ≤ 100000 := hl 1
  have h2 : s.b1.length + 1 ≤ 100000 := hl 2
  have h3 : s.b2.length + 1 ≤ 100000 := hl 3
  intro i
  unfold roomS
  split
  · match i with
    | 0 => simp only [AS.get, List.length_tail]; omega
    | 1 => simp only [AS.get]; omega
    | 2 => simp only [AS.get, List.length_append, List.length_singleton]; omega
    | _ + 3 => simp only [AS.get]; omega
  · split
    · match i with
      | 0 => simp only [AS.get]; omega
      | 1 => simp only [AS.get, List.length_tail]; omega
      | 2 => simp only [AS.get]; omega
      | _ + 3 => simp only [AS.get]; omega
    · match i with
      | 0 => simp only [AS.get]; omega
      | 1 => simp only [AS.get, List.length_tail]; omega
      | 2 => simp only [AS.get]; omega
      | _ + 3 => simp only [AS.get, List.length_append, List.length_singleton]; omega

variable {C : Cfg} (S : Std C)
include S
section
variable {h : Heap} (hw : Wf h) {a : Nat} {s : AS} {F : List Nat} (A : ArcAt h a s F)
include hw A

theorem room_ans (hb : Bd s) (b : Bool) : Ans C 25 [.ptr (some (a, 0)), .bool b] h fun v h' => v = .str (roomS s b).1 ∧ APost h h' a F (roomS s b).2 ∧ (h'.low ≤ a ∨ (roomS s b).2 = s) := by
  have hF : C.F 25 = some a25 := S.f rfl
  unfold a25 at hF
  refine Ans.fnM (fun _ _ => S.s _ _ _ (by decide)) hF rfl rfl hw fun h2 g0 hsz hge => ?_
  clear hF
  have A2 := A.grow g0
  have ha := A.at_lt hw
  refine WC.seqO ?_
  (repeat (first | refine WO.ops (StepK.mv rfl) ?_ | refine WO.ops (StepK.lenSl rfl (by first | with_reducible assumption | rfl)) ?_ | refine WO.ops (StepK.fieldAddr rfl) ?_ | refine WO.ops (StepK.add rfl rfl (by omega)) ?_ | refine WO.ops (StepK.sub rfl rfl (by omega)) ?_ | refine WO.ops (StepK.bin rfl rfl rfl) ?_ | refine WO.ops (StepK.pickT rfl rfl) ?_ | refine WO.ops (StepK.pickF rfl rfl) ?_ | refine WO.ops (StepK.not rfl) ?_ | refine WO.ops (StepK.eq rfl rfl rfl) ?_ | refine WO.ops (StepK.extract rfl rfl) ?_ | refine WO.ops (StepK.build rfl rfl) ?_ | refine WO.ops (StepK.mkFn rfl rfl) ?_ | refine WO.ops (StepK.field rfl rfl) ?_ | refine WO.ops (StepK.lenStr rfl) ?_ | refine WO.ops (StepK.nilck rfl) ?_ | refine WO.ops (StepK.min2 rfl rfl) ?_ | refine WO.ops (StepK.max2 rfl rfl) ?_ | refine WO.ops (StepK.load1 rfl (by first | with_reducible assumption | rfl)) ?_ | refine WO.run rfl ?_ | refine WO.skip rfl rfl ?_ | refine WO.skipu rfl ?_))
  refine WO.nil (WC.seqO ?_)
  (repeat (first | refine WO.ops (StepK.mv rfl) ?_ | refine WO.ops (StepK.lenSl rfl (by first | with_reducible assumption | rfl)) ?_ | refine WO.ops (StepK.fieldAddr rfl) ?_ | refine WO.ops (StepK.add rfl rfl (by omega)) ?_ | refine WO.ops (StepK.sub rfl rfl (by omega)) ?_ | refine WO.ops (StepK.bin rfl rfl rfl) ?_ | refine WO.ops (StepK.pickT rfl rfl) ?_ | refine WO.ops (StepK.pickF rfl rfl) ?_ | refine WO.ops (StepK.not rfl) ?_ | refine WO.ops (StepK.eq rfl rfl rfl) ?_ | refine WO.ops (StepK.extract rfl rfl) ?_ | refine WO.ops (StepK.build rfl rfl) ?_ | refine WO.ops (StepK.mkFn rfl rfl) ?_ | refine WO.ops (StepK.field rfl rfl) ?_ | refine WO.ops (StepK.lenStr rfl) ?_ | refine WO.ops (StepK.nilck rfl) ?_ | refine WO.ops (StepK.min2 rfl rfl) ?_ | refine WO.ops (StepK.max2 rfl rfl) ?_ | refine WO.ops (StepK.load1 rfl (by first | with_reducible assumption | rfl)) ?_ | refine WO.run rfl ?_ | refine WO.skip rfl rfl ?_ | refine WO.skipu rfl ?_))
  refine WO.call rfl rfl (lenA S g0.wf A2 0 (by decide)) ?_
  rintro v h3 ⟨rfl, g3⟩
  have A3 := A2.grow g3
  have g3 := g0.trans g3
  have hp := A3.rdp
  (repeat (first | refine WO.ops (StepK.mv rfl) ?_ | refine WO.ops (StepK.lenSl rfl (by first | with_reducible assumption | rfl)) ?_ | refine WO.ops (StepK.fieldAddr rfl) ?_ | refine WO.ops (StepK.add rfl rfl (by omega)) ?_ | refine WO.ops (StepK.sub rfl rfl (by omega)) ?_ | refine WO.ops (StepK.bin rfl rfl rfl) ?_ | refine WO.ops (StepK.pickT rfl rfl) ?_ | refine WO.ops (StepK.pickF rfl rfl) ?_ | refine WO.ops (StepK.not rfl) ?_ | refine WO.ops (StepK.eq rfl rfl rfl) ?_ | refine WO.ops (StepK.extract rfl rfl) ?_ | refine WO.ops (StepK.build rfl rfl) ?_ | refine WO.ops (StepK.mkFn rfl rfl) ?_ | refine WO.ops (StepK.field rfl rfl) ?_ | refine WO.ops (StepK.lenStr rfl) ?_ | refine WO.ops (StepK.nilck rfl) ?_ | refine WO.ops (StepK.min2 rfl rfl) ?_ | refine WO.ops (StepK.max2 rfl rfl) ?_ | refine WO.ops (StepK.load1 rfl (by first | with_reducible assumption | rfl)) ?_ | refine WO.run rfl ?_ | refine WO.skip rfl rfl ?_ | refine WO.skipu rfl ?_))
  have e1 : s.get 0 = s.t1 := rfl
  have e2 : s.get 1 = s.t2 := rfl
  rw [e1]
  refine WO.nil (WC.seqM (M := fun e' h' => Cov [(0, .ptr (some (a, 0)))] e' ∧ Grow h h' ∧ condS s b = false) ?_ ?_)
  · refine WC.seqCut (M := fun e' h' => Cov [(0, .ptr (some (a, 0))), (39, .bool (condS s b))] e' ∧ Grow h h') ?_ ?_
    · have lenc : ∀ (e : List (Nat × V)) (Q : List (Nat × V) → Heap → Prop), evE e (.t 35) = some (.ptr (some (a, 0 + 1))) → (∀ h4, Grow h h4 → WO C [⟨(some 37), (some (32, false)), .bin .eql (.t 36) (.c (.int .i64 (0)))⟩, ⟨(some 38), (some (14, true)), .pick (.t 32) (.c (.bool true)) (.t 37)⟩, ⟨(some 39), none, .pick (.t 14) (.t 38) (.c (.bool false))⟩] ((36, iv s.t2.length) :: e) h4 Q) → WO C [⟨(some 36), none, .call (.c (.func (.func 23) [] [])) [(.t 35)]⟩, ⟨(some 37), (some (32, false)), .bin .eql (.t 36) (.c (.int .i64 (0)))⟩, ⟨(some 38), (some (14, true)), .pick (.t 32) (.c (.bool true)) (.t 37)⟩, ⟨(some 39), none, .pick (.t 14) (.t 38) (.c (.bool false))⟩] e h3 Q := by
        intro e Q he hq
        refine WO.call (vs := [.ptr (some (a, 0 + 1))]) rfl (by simp only [evsE, he]) (lenA S g3.wf A3 1 (by decide)) ?_
        rintro v h4 ⟨rfl, g4⟩
        exact hq h4 (g3.trans g4)
      have el := eql_nn (s.t2.length : Int) 0
      have ep := eql_nn (s.t1.length : Int) s.p
      (repeat (first | refine WO.ops (StepK.mv rfl) ?_ | refine WO.ops (StepK.lenSl rfl (by first | with_reducible assumption | rfl)) ?_ | refine WO.ops (StepK.fieldAddr rfl) ?_ | refine WO.ops (StepK.add rfl rfl (by omega)) ?_ | refine WO.ops (StepK.sub rfl rfl (by omega)) ?_ | refine WO.ops (StepK.bin rfl rfl rfl) ?_ | refine WO.ops (StepK.pickT rfl rfl) ?_ | refine WO.ops (StepK.pickF rfl rfl) ?_ | refine WO.ops (StepK.not rfl) ?_ | refine WO.ops (StepK.eq rfl rfl rfl) ?_ | refine WO.ops (StepK.extract rfl rfl) ?_ | refine WO.ops (StepK.build rfl rfl) ?_ | refine WO.ops (StepK.mkFn rfl rfl) ?_ | refine WO.ops (StepK.field rfl rfl) ?_ | refine WO.ops (StepK.lenStr rfl) ?_ | refine WO.ops (StepK.nilck rfl) ?_ | refine WO.ops (StepK.min2 rfl rfl) ?_ | refine WO.ops (StepK.max2 rfl rfl) ?_ | refine WO.ops (StepK.load1 rfl (by first | with_reducible assumption | rfl)) ?_ | refine WO.run rfl ?_ | refine WO.skip rfl rfl ?_ | refine WO.skipu rfl ?_))
      refine WO.splitG rfl (fun hc1 => ?_) (fun hc1 => ?_)
      rotate_left
      · have hc1 := of_decide_eq_false hc1
        have hcn : condS s b = false := decide_eq_false (by omega)
        (repeat (first | refine WO.ops (StepK.mv rfl) ?_ | refine WO.ops (StepK.lenSl rfl (by first | with_reducible assumption | rfl)) ?_ | refine WO.ops (StepK.fieldAddr rfl) ?_ | refine WO.ops (StepK.add rfl rfl (by omega)) ?_ | refine WO.ops (StepK.sub rfl rfl (by omega)) ?_ | refine WO.ops (StepK.bin rfl rfl rfl) ?_ | refine WO.ops (StepK.pickT rfl rfl) ?_ | refine WO.ops (StepK.pickF rfl rfl) ?_ | refine WO.ops (StepK.not rfl) ?_ | refine WO.ops (StepK.eq rfl rfl rfl) ?_ | refine WO.ops (StepK.extract rfl rfl) ?_ | refine WO.ops (StepK.build rfl rfl) ?_ | refine WO.ops (StepK.mkFn rfl rfl) ?_ | refine WO.ops (StepK.field rfl rfl) ?_ | refine WO.ops (StepK.lenStr rfl) ?_ | refine WO.ops (StepK.nilck rfl) ?_ | refine WO.ops (StepK.min2 rfl rfl) ?_ | refine WO.ops (StepK.max2 rfl rfl) ?_ | refine WO.ops (StepK.load1 rfl (by first | with_reducible assumption | rfl)) ?_ | refine WO.run rfl ?_ | refine WO.skip rfl rfl ?_ | refine WO.skipu rfl ?_))
        rw [hcn]
        exact WO.nil ⟨Cov.cons rfl (Cov.cons rfl (Cov.nil _)), g3⟩
      have hc1 := of_decide_eq_true hc1
      (repeat (first | refine WO.ops (StepK.mv rfl) ?_ | refine WO.ops (StepK.lenSl rfl (by first | with_reducible assumption | rfl)) ?_ | refine WO.ops (StepK.fieldAddr rfl) ?_ | refine WO.ops (StepK.add rfl rfl (by omega)) ?_ | refine WO.ops (StepK.sub rfl rfl (by omega)) ?_ | refine WO.ops (StepK.bin rfl rfl rfl) ?_ | refine WO.ops (StepK.pickT rfl rfl) ?_ | refine WO.ops (StepK.pickF rfl rfl) ?_ | refine WO.ops (StepK.not rfl) ?_ | refine WO.ops (StepK.eq rfl rfl rfl) ?_ | refine WO.ops (StepK.extract rfl rfl) ?_ | refine WO.ops (StepK.build rfl rfl) ?_ | refine WO.ops (StepK.mkFn rfl rfl) ?_ | refine WO.ops (StepK.field rfl rfl) ?_ | refine WO.ops (StepK.lenStr rfl) ?_ | refine WO.ops (StepK.nilck rfl) ?_ | refine WO.ops (StepK.min2 rfl rfl) ?_ | refine WO.ops (StepK.max2 rfl rfl) ?_ | refine WO.ops (StepK.load1 rfl (by first | with_reducible assumption | rfl)) ?_ | refine WO.run rfl ?_ | refine WO.skip rfl rfl ?_ | refine WO.skipu rfl ?_))
      refine WO.splitG rfl (fun hc2 => ?_) (fun hc2 => ?_)
      · have hc2 := of_decide_eq_true hc2
        have hcn : condS s b = true := decide_eq_true ⟨by omega, .inl hc2⟩
        (repeat (first | refine WO.ops (StepK.mv rfl) ?_ | refine WO.ops (StepK.lenSl rfl (by first | with_reducible assumption | rfl)) ?_ | refine WO.ops (StepK.fieldAddr rfl) ?_ | refine WO.ops (StepK.add rfl rfl (by omega)) ?_ | refine WO.ops (StepK.sub rfl rfl (by omega)) ?_ | refine WO.ops (StepK.bin rfl rfl rfl) ?_ | refine WO.ops (StepK.pickT rfl rfl) ?_ | refine WO.ops (StepK.pickF rfl rfl) ?_ | refine WO.ops (StepK.not rfl) ?_ | refine WO.ops (StepK.eq rfl rfl rfl) ?_ | refine WO.ops (StepK.extract rfl rfl) ?_ | refine WO.ops (StepK.build rfl rfl) ?_ | refine WO.ops (StepK.mkFn rfl rfl) ?_ | refine WO.ops (StepK.field rfl rfl) ?_ | refine WO.ops (StepK.lenStr rfl) ?_ | refine WO.ops (StepK.nilck rfl) ?_ | refine WO.ops (StepK.min2 rfl rfl) ?_ | refine WO.ops (StepK.max2 rfl rfl) ?_ | refine WO.ops (StepK.load1 rfl (by first | with_reducible assumption | rfl)) ?_ | refine WO.run rfl ?_ | refine WO.skip rfl rfl ?_ | refine WO.skipu rfl ?_))
        rw [hcn]
        exact WO.nil ⟨Cov.cons rfl (Cov.cons rfl (Cov.nil _)), g3⟩
      have hc2 := of_decide_eq_false hc2
      cases b with
      | true =>
        refine WO.run rfl (WO.ops (StepK.mv rfl) ?_)
        refine WO.run rfl (WO.ops (StepK.mv rfl) ?_)
        refine WO.run rfl (WO.ops (StepK.mv rfl) ?_)
        refine WO.run rfl (WO.ops (StepK.mv rfl) ?_)
        refine WO.run rfl (WO.ops (StepK.nilck rfl) ?_)
        refine WO.run rfl (WO.ops (StepK.fieldAddr rfl) ?_)
        refine WO.run rfl (WO.ops (StepK.load1 rfl hp) ?_)
        refine WO.run rfl (WO.ops (StepK.bin rfl rfl ep) ?_)
        (repeat (first | refine WO.ops (StepK.mv rfl) ?_ | refine WO.ops (StepK.lenSl rfl (by first | with_reducible assumption | rfl)) ?_ | refine WO.ops (StepK.fieldAddr rfl) ?_ | refine WO.ops (StepK.add rfl rfl (by omega)) ?_ | refine WO.ops (StepK.sub rfl rfl (by omega)) ?_ | refine WO.ops (StepK.bin rfl rfl rfl) ?_ | refine WO.ops (StepK.pickT rfl rfl) ?_ | refine WO.ops (StepK.pickF rfl rfl) ?_ | refine WO.ops (StepK.not rfl) ?_ | refine WO.ops (StepK.eq rfl rfl rfl) ?_ | refine WO.ops (StepK.extract rfl rfl) ?_ | refine WO.ops (StepK.build rfl rfl) ?_ | refine WO.ops (StepK.mkFn rfl rfl) ?_ | refine WO.ops (StepK.field rfl rfl) ?_ | refine WO.ops (StepK.lenStr rfl) ?_ | refine WO.ops (StepK.nilck rfl) ?_ | refine WO.ops (StepK.min2 rfl rfl) ?_ | refine WO.ops (StepK.max2 rfl rfl) ?_ | refine WO.ops (StepK.load1 rfl (by first | with_reducible assumption | rfl)) ?_ | refine WO.run rfl ?_ | refine WO.skip rfl rfl ?_ | refine WO.skipu rfl ?_))
        refine WO.splitG rfl (fun hc3 => ?_) (fun hc3 => ?_)
        · have hc3 := of_decide_eq_true hc3
          have hcn : condS s true = true := decide_eq_true ⟨by omega, .inr (.inl ⟨rfl, hc3⟩)⟩
          (repeat (first | refine WO.ops (StepK.mv rfl) ?_ | refine WO.ops (StepK.lenSl rfl (by first | with_reducible assumption | rfl)) ?_ | refine WO.ops (StepK.fieldAddr rfl) ?_ | refine WO.ops (StepK.add rfl rfl (by omega)) ?_ | refine WO.ops (StepK.sub rfl rfl (by omega)) ?_ | refine WO.ops (StepK.bin rfl rfl rfl) ?_ | refine WO.ops (StepK.pickT rfl rfl) ?_ | refine WO.ops (StepK.pickF rfl rfl) ?_ | refine WO.ops (StepK.not rfl) ?_ | refine WO.ops (StepK.eq rfl rfl rfl) ?_ | refine WO.ops (StepK.extract rfl rfl) ?_ | refine WO.ops (StepK.build rfl rfl) ?_ | refine WO.ops (StepK.mkFn rfl rfl) ?_ | refine WO.ops (StepK.field rfl rfl) ?_ | refine WO.ops (StepK.lenStr rfl) ?_ | refine WO.ops (StepK.nilck rfl) ?_ | refine WO.ops (StepK.min2 rfl rfl) ?_ | refine WO.ops (StepK.max2 rfl rfl) ?_ | refine WO.ops (StepK.load1 rfl (by first | with_reducible assumption | rfl)) ?_ | refine WO.run rfl ?_ | refine WO.skip rfl rfl ?_ | refine WO.skipu rfl ?_))
          rw [hcn]
          exact WO.nil ⟨Cov.cons rfl (Cov.cons rfl (Cov.nil _)), g3⟩
        have hc3 := of_decide_eq_false hc3
        have hcn : condS s true = decide ((s.t2.length : Int) = 0) := by
          unfold condS
          by_cases hz : (s.t2.length : Int) = 0
          · rw [decide_eq_true hz]; exact decide_eq_true ⟨by omega, .inr (.inr (by omega))⟩
          · rw [decide_eq_false hz]; exact decide_eq_false (by omega)
        (repeat (first | refine WO.ops (StepK.mv rfl) ?_ | refine WO.ops (StepK.lenSl rfl (by first | with_reducible assumption | rfl)) ?_ | refine WO.ops (StepK.fieldAddr rfl) ?_ | refine WO.ops (StepK.add rfl rfl (by omega)) ?_ | refine WO.ops (StepK.sub rfl rfl (by omega)) ?_ | refine WO.ops (StepK.bin rfl rfl rfl) ?_ | refine WO.ops (StepK.pickT rfl rfl) ?_ | refine WO.ops (StepK.pickF rfl rfl) ?_ | refine WO.ops (StepK.not rfl) ?_ | refine WO.ops (StepK.eq rfl rfl rfl) ?_ | refine WO.ops (StepK.extract rfl rfl) ?_ | refine WO.ops (StepK.build rfl rfl) ?_ | refine WO.ops (StepK.mkFn rfl rfl) ?_ | refine WO.ops (StepK.field rfl rfl) ?_ | refine WO.ops (StepK.lenStr rfl) ?_ | refine WO.ops (StepK.nilck rfl) ?_ | refine WO.ops (StepK.min2 rfl rfl) ?_ | refine WO.ops (StepK.max2 rfl rfl) ?_ | refine WO.ops (StepK.load1 rfl (by first | with_reducible assumption | rfl)) ?_ | refine WO.run rfl ?_ | refine WO.skip rfl rfl ?_ | refine WO.skipu rfl ?_))
        refine lenc _ _ rfl fun h4 g4 => ?_
        refine WO.run rfl (WO.ops (StepK.bin rfl rfl el) ?_)
        (repeat (first | refine WO.ops (StepK.mv rfl) ?_ | refine WO.ops (StepK.lenSl rfl (by first | with_reducible assumption | rfl)) ?_ | refine WO.ops (StepK.fieldAddr rfl) ?_ | refine WO.ops (StepK.add rfl rfl (by omega)) ?_ | refine WO.ops (StepK.sub rfl rfl (by omega)) ?_ | refine WO.ops (StepK.bin rfl rfl rfl) ?_ | refine WO.ops (StepK.pickT rfl rfl) ?_ | refine WO.ops (StepK.pickF rfl rfl) ?_ | refine WO.ops (StepK.not rfl) ?_ | refine WO.ops (StepK.eq rfl rfl rfl) ?_ | refine WO.ops (StepK.extract rfl rfl) ?_ | refine WO.ops (StepK.build rfl rfl) ?_ | refine WO.ops (StepK.mkFn rfl rfl) ?_ | refine WO.ops (StepK.field rfl rfl) ?_ | refine WO.ops (StepK.lenStr rfl) ?_ | refine WO.ops (StepK.nilck rfl) ?_ | refine WO.ops (StepK.min2 rfl rfl) ?_ | refine WO.ops (StepK.max2 rfl rfl) ?_ | refine WO.ops (StepK.load1 rfl (by first | with_reducible assumption | rfl)) ?_ | refine WO.run rfl ?_ | refine WO.skip rfl rfl ?_ | refine WO.skipu rfl ?_))
        rw [hcn]
        exact WO.nil ⟨Cov.cons rfl (Cov.cons rfl (Cov.nil _)), g4⟩
      | false =>
        have hcn : condS s false = decide ((s.t2.length : Int) = 0) := by
          unfold condS
          by_cases hz : (s.t2.length : Int) = 0
          · rw [decide_eq_true hz]; exact decide_eq_true ⟨by omega, .inr (.inr (by omega))⟩
          · rw [decide_eq_false hz]
            refine decide_eq_false ?_
            rintro ⟨_, q | ⟨q, _⟩ | q⟩
            · omega
            · cases q
            · omega
        (repeat (first | refine WO.ops (StepK.mv rfl) ?_ | refine WO.ops (StepK.lenSl rfl (by first | with_reducible assumption | rfl)) ?_ | refine WO.ops (StepK.fieldAddr rfl) ?_ | refine WO.ops (StepK.add rfl rfl (by omega)) ?_ | refine WO.ops (StepK.sub rfl rfl (by omega)) ?_ | refine WO.ops (StepK.bin rfl rfl rfl) ?_ | refine WO.ops (StepK.pickT rfl rfl) ?_ | refine WO.ops (StepK.pickF rfl rfl) ?_ | refine WO.ops (StepK.not rfl) ?_ | refine WO.ops (StepK.eq rfl rfl rfl) ?_ | refine WO.ops (StepK.extract rfl rfl) ?_ | refine WO.ops (StepK.build rfl rfl) ?_ | refine WO.ops (StepK.mkFn rfl rfl) ?_ | refine WO.ops (StepK.field rfl rfl) ?_ | refine WO.ops (StepK.lenStr rfl) ?_ | refine WO.ops (StepK.nilck rfl) ?_ | refine WO.ops (StepK.min2 rfl rfl) ?_ | refine WO.ops (StepK.max2 rfl rfl) ?_ | refine WO.ops (StepK.load1 rfl (by first | with_reducible assumption | rfl)) ?_ | refine WO.run rfl ?_ | refine WO.skip rfl rfl ?_ | refine WO.skipu rfl ?_))
        refine lenc _ _ rfl fun h4 g4 => ?_
        refine WO.run rfl (WO.ops (StepK.bin rfl rfl el) ?_)
        (repeat (first | refine WO.ops (StepK.mv rfl) ?_ | refine WO.ops (StepK.lenSl rfl (by first | with_reducible assumption | rfl)) ?_ | refine WO.ops (StepK.fieldAddr rfl) ?_ | refine WO.ops (StepK.add rfl rfl (by omega)) ?_ | refine WO.ops (StepK.sub rfl rfl (by omega)) ?_ | refine WO.ops (StepK.bin rfl rfl rfl) ?_ | refine WO.ops (StepK.pickT rfl rfl) ?_ | refine WO.ops (StepK.pickF rfl rfl) ?_ | refine WO.ops (StepK.not rfl) ?_ | refine WO.ops (StepK.eq rfl rfl rfl) ?_ | refine WO.ops (StepK.extract rfl rfl) ?_ | refine WO.ops (StepK.build rfl rfl) ?_ | refine WO.ops (StepK.mkFn rfl rfl) ?_ | refine WO.ops (StepK.field rfl rfl) ?_ | refine WO.ops (StepK.lenStr rfl) ?_ | refine WO.ops (StepK.nilck rfl) ?_ | refine WO.ops (StepK.min2 rfl rfl) ?_ | refine WO.ops (StepK.max2 rfl rfl) ?_ | refine WO.ops (StepK.load1 rfl (by first | with_reducible assumption | rfl)) ?_ | refine WO.run rfl ?_ | refine WO.skip rfl rfl ?_ | refine WO.skipu rfl ?_))
        rw [hcn]
        exact WO.nil ⟨Cov.cons rfl (Cov.cons rfl (Cov.nil _)), g4⟩
    · rintro e4 h4 ⟨cv, g4⟩
      refine WC.cov cv ?_
      have A4 := A.grow g4
      refine WC.cond rfl (fun hc => ?_) (fun hc => WC.skip ⟨Cov.cons rfl (Cov.nil _), g4, hc⟩)
      have hrs : roomS s b = (s.t1.headD [], { s with t1 := s.t1.tail, b1 := s.b1 ++ [s.t1.headD []] }) := by rw [roomS, if_pos hc]
      refine WC.seqO ?_
      (repeat (first | refine WO.ops (StepK.mv rfl) ?_ | refine WO.ops (StepK.lenSl rfl (by first | with_reducible assumption | rfl)) ?_ | refine WO.ops (StepK.fieldAddr rfl) ?_ | refine WO.ops (StepK.add rfl rfl (by omega)) ?_ | refine WO.ops (StepK.sub rfl rfl (by omega)) ?_ | refine WO.ops (StepK.bin rfl rfl rfl) ?_ | refine WO.ops (StepK.pickT rfl rfl) ?_ | refine WO.ops (StepK.pickF rfl rfl) ?_ | refine WO.ops (StepK.not rfl) ?_ | refine WO.ops (StepK.eq rfl rfl rfl) ?_ | refine WO.ops (StepK.extract rfl rfl) ?_ | refine WO.ops (StepK.build rfl rfl) ?_ | refine WO.ops (StepK.mkFn rfl rfl) ?_ | refine WO.ops (StepK.field rfl rfl) ?_ | refine WO.ops (StepK.lenStr rfl) ?_ | refine WO.ops (StepK.nilck rfl) ?_ | refine WO.ops (StepK.min2 rfl rfl) ?_ | refine WO.ops (StepK.max2 rfl rfl) ?_ | refine WO.ops (StepK.load1 rfl (by first | with_reducible assumption | rfl)) ?_ | refine WO.run rfl ?_ | refine WO.skip rfl rfl ?_ | refine WO.skipu rfl ?_))
      refine WO.call rfl rfl (oldestA S g4.wf A4 0 (by decide) (hb 0)) ?_
      rintro v h5 ⟨rfl, p5, lo5⟩
      (repeat (first | refine WO.ops (StepK.mv rfl) ?_ | refine WO.ops (StepK.lenSl rfl (by first | with_reducible assumption | rfl)) ?_ | refine WO.ops (StepK.fieldAddr rfl) ?_ | refine WO.ops (StepK.add rfl rfl (by omega)) ?_ | refine WO.ops (StepK.sub rfl rfl (by omega)) ?_ | refine WO.ops (StepK.bin rfl rfl rfl) ?_ | refine WO.ops (StepK.pickT rfl rfl) ?_ | refine WO.ops (StepK.pickF rfl rfl) ?_ | refine WO.ops (StepK.not rfl) ?_ | refine WO.ops (StepK.eq rfl rfl rfl) ?_ | refine WO.ops (StepK.extract rfl rfl) ?_ | refine WO.ops (StepK.build rfl rfl) ?_ | refine WO.ops (StepK.mkFn rfl rfl) ?_ | refine WO.ops (StepK.field rfl rfl) ?_ | refine WO.ops (StepK.lenStr rfl) ?_ | refine WO.ops (StepK.nilck rfl) ?_ | refine WO.ops (StepK.min2 rfl rfl) ?_ | refine WO.ops (StepK.max2 rfl rfl) ?_ | refine WO.ops (StepK.load1 rfl (by first | with_reducible assumption | rfl)) ?_ | refine WO.run rfl ?_ | refine WO.skip rfl rfl ?_ | refine WO.skipu rfl ?_))
      refine WO.nil (WC.seqO ?_)
      (repeat (first | refine WO.ops (StepK.mv rfl) ?_ | refine WO.ops (StepK.lenSl rfl (by first | with_reducible assumption | rfl)) ?_ | refine WO.ops (StepK.fieldAddr rfl) ?_ | refine WO.ops (StepK.add rfl rfl (by omega)) ?_ | refine WO.ops (StepK.sub rfl rfl (by omega)) ?_ | refine WO.ops (StepK.bin rfl rfl rfl) ?_ | refine WO.ops (StepK.pickT rfl rfl) ?_ | refine WO.ops (StepK.pickF rfl rfl) ?_ | refine WO.ops (StepK.not rfl) ?_ | refine WO.ops (StepK.eq rfl rfl rfl) ?_ | refine WO.ops (StepK.extract rfl rfl) ?_ | refine WO.ops (StepK.build rfl rfl) ?_ | refine WO.ops (StepK.mkFn rfl rfl) ?_ | refine WO.ops (StepK.field rfl rfl) ?_ | refine WO.ops (StepK.lenStr rfl) ?_ | refine WO.ops (StepK.nilck rfl) ?_ | refine WO.ops (StepK.min2 rfl rfl) ?_ | refine WO.ops (StepK.max2 rfl rfl) ?_ | refine WO.ops (StepK.load1 rfl (by first | with_reducible assumption | rfl)) ?_ | refine WO.run rfl ?_ | refine WO.skip rfl rfl ?_ | refine WO.skipu rfl ?_))
      have w5 := p5.wf
      have p5 := p5.growl g4
      obtain ⟨F5, A5, c5, m5⟩ := p5
      refine WO.call rfl rfl (addA S w5 A5 2 (by decide) _ (hb 2)) ?_
      rintro v h6 ⟨rfl, p6, lo6⟩
      refine WO.nil (WC.seqO ?_)
      (repeat (first | refine WO.ops (StepK.mv rfl) ?_ | refine WO.ops (StepK.lenSl rfl (by first | with_reducible assumption | rfl)) ?_ | refine WO.ops (StepK.fieldAddr rfl) ?_ | refine WO.ops (StepK.add rfl rfl (by omega)) ?_ | refine WO.ops (StepK.sub rfl rfl (by omega)) ?_ | refine WO.ops (StepK.bin rfl rfl rfl) ?_ | refine WO.ops (StepK.pickT rfl rfl) ?_ | refine WO.ops (StepK.pickF rfl rfl) ?_ | refine WO.ops (StepK.not rfl) ?_ | refine WO.ops (StepK.eq rfl rfl rfl) ?_ | refine WO.ops (StepK.extract rfl rfl) ?_ | refine WO.ops (StepK.build rfl rfl) ?_ | refine WO.ops (StepK.mkFn rfl rfl) ?_ | refine WO.ops (StepK.field rfl rfl) ?_ | refine WO.ops (StepK.lenStr rfl) ?_ | refine WO.ops (StepK.nilck rfl) ?_ | refine WO.ops (StepK.min2 rfl rfl) ?_ | refine WO.ops (StepK.max2 rfl rfl) ?_ | refine WO.ops (StepK.load1 rfl (by first | with_reducible assumption | rfl)) ?_ | refine WO.run rfl ?_ | refine WO.skip rfl rfl ?_ | refine WO.skipu rfl ?_))
      have post : APost h h6 a F (roomS s b).2 := by
        rw [hrs]
        obtain ⟨F6, A6, c6, m6⟩ := p6
        exact ⟨F6, A6, c5.trans c6 hw m5, m5.trans m6 c5.size⟩
      refine WO.nil (WC.ret ⟨trivial, _, rfl, fun n hn => ⟨by rw [hrs]; rfl, post.low n, .inl (Nat.le_trans hn lo6)⟩, fun hc2 _ => by omega⟩)
  rintro e4 h4 ⟨cv, g4, hc⟩
  refine WC.cov cv ?_
  have A4 := A.grow g4
  refine WC.seqO ?_
  (repeat (first | refine WO.ops (StepK.mv rfl) ?_ | refine WO.ops (StepK.lenSl rfl (by first | with_reducible assumption | rfl)) ?_ | refine WO.ops (StepK.fieldAddr rfl) ?_ | refine WO.ops (StepK.add rfl rfl (by omega)) ?_ | refine WO.ops (StepK.sub rfl rfl (by omega)) ?_ | refine WO.ops (StepK.bin rfl rfl rfl) ?_ | refine WO.ops (StepK.pickT rfl rfl) ?_ | refine WO.ops (StepK.pickF rfl rfl) ?_ | refine WO.ops (StepK.not rfl) ?_ | refine WO.ops (StepK.eq rfl rfl rfl) ?_ | refine WO.ops (StepK.extract rfl rfl) ?_ | refine WO.ops (StepK.build rfl rfl) ?_ | refine WO.ops (StepK.mkFn rfl rfl) ?_ | refine WO.ops (StepK.field rfl rfl) ?_ | refine WO.ops (StepK.lenStr rfl) ?_ | refine WO.ops (StepK.nilck rfl) ?_ | refine WO.ops (StepK.min2 rfl rfl) ?_ | refine WO.ops (StepK.max2 rfl rfl) ?_ | refine WO.ops (StepK.load1 rfl (by first | with_reducible assumption | rfl)) ?_ | refine WO.run rfl ?_ | refine WO.skip rfl rfl ?_ | refine WO.skipu rfl ?_))
  refine WO.call rfl rfl (oldestA S g4.wf A4 1 (by decide) (hb 1)) ?_
  rintro v h5 ⟨rfl, p5, lo5⟩
  (repeat (first | refine WO.ops (StepK.mv rfl) ?_ | refine WO.ops (StepK.lenSl rfl (by first | with_reducible assumption | rfl)) ?_ | refine WO.ops (StepK.fieldAddr rfl) ?_ | refine WO.ops (StepK.add rfl rfl (by omega)) ?_ | refine WO.ops (StepK.sub rfl rfl (by omega)) ?_ | refine WO.ops (StepK.bin rfl rfl rfl) ?_ | refine WO.ops (StepK.pickT rfl rfl) ?_ | refine WO.ops (StepK.pickF rfl rfl) ?_ | refine WO.ops (StepK.not rfl) ?_ | refine WO.ops (StepK.eq rfl rfl rfl) ?_ | refine WO.ops (StepK.extract rfl rfl) ?_ | refine WO.ops (StepK.build rfl rfl) ?_ | refine WO.ops (StepK.mkFn rfl rfl) ?_ | refine WO.ops (StepK.field rfl rfl) ?_ | refine WO.ops (StepK.lenStr rfl) ?_ | refine WO.ops (StepK.nilck rfl) ?_ | refine WO.ops (StepK.min2 rfl rfl) ?_ | refine WO.ops (StepK.max2 rfl rfl) ?_ | refine WO.ops (StepK.load1 rfl (by first | with_reducible assumption | rfl)) ?_ | refine WO.run rfl ?_ | refine WO.skip rfl rfl ?_ | refine WO.skipu rfl ?_))
  refine WO.nil (WC.seq (WC.seqO ?_))
  rw [e2] at lo5 ⊢
  have hne : binA .neq (.str (s.t2.headD [])) (.str []) = some (.bool (!decide (s.t2.headD [] = []))) := by
    simp only [binA]
    congr 3
    rw [Bool.eq_iff_iff, beqL_iff]; simp
  refine WO.ops (StepK.mv rfl) ?_
  refine WO.ops (StepK.bin rfl rfl hne) ?_
  have w5 := p5.wf
  have p5 := p5.growl g4
  obtain ⟨F5, A5, c5, m5⟩ := p5
  refine WO.nil (WC.cond rfl (fun hc1 => WC.ops ?_) (fun hc1 => WC.skip (WC.seqO ?_)))
  · have hk : s.t2.headD [] ≠ [] := by simpa using hc1
    have hrs : roomS s b = (s.t2.headD [], { s with t2 := s.t2.tail, b2 := s.b2 ++ [s.t2.headD []] }) := by rw [roomS, if_neg (by rw [hc]; decide), if_neg hk]
    (repeat (first | refine WO.ops (StepK.mv rfl) ?_ | refine WO.ops (StepK.lenSl rfl (by first | with_reducible assumption | rfl)) ?_ | refine WO.ops (StepK.fieldAddr rfl) ?_ | refine WO.ops (StepK.add rfl rfl (by omega)) ?_ | refine WO.ops (StepK.sub rfl rfl (by omega)) ?_ | refine WO.ops (StepK.bin rfl rfl rfl) ?_ | refine WO.ops (StepK.pickT rfl rfl) ?_ | refine WO.ops (StepK.pickF rfl rfl) ?_ | refine WO.ops (StepK.not rfl) ?_ | refine WO.ops (StepK.eq rfl rfl rfl) ?_ | refine WO.ops (StepK.extract rfl rfl) ?_ | refine WO.ops (StepK.build rfl rfl) ?_ | refine WO.ops (StepK.mkFn rfl rfl) ?_ | refine WO.ops (StepK.field rfl rfl) ?_ | refine WO.ops (StepK.lenStr rfl) ?_ | refine WO.ops (StepK.nilck rfl) ?_ | refine WO.ops (StepK.min2 rfl rfl) ?_ | refine WO.ops (StepK.max2 rfl rfl) ?_ | refine WO.ops (StepK.load1 rfl (by first | with_reducible assumption | rfl)) ?_ | refine WO.run rfl ?_ | refine WO.skip rfl rfl ?_ | refine WO.skipu rfl ?_))
    refine WO.call rfl rfl (addA S w5 A5 3 (by decide) _ (hb 3)) ?_
    rintro v h6 ⟨rfl, p6, lo6⟩
    refine WO.nil (WC.seqO ?_)
    (repeat (first | refine WO.ops (StepK.mv rfl) ?_ | refine WO.ops (StepK.lenSl rfl (by first | with_reducible assumption | rfl)) ?_ | refine WO.ops (StepK.fieldAddr rfl) ?_ | refine WO.ops (StepK.add rfl rfl (by omega)) ?_ | refine WO.ops (StepK.sub rfl rfl (by omega)) ?_ | refine WO.ops (StepK.bin rfl rfl rfl) ?_ | refine WO.ops (StepK.pickT rfl rfl) ?_ | refine WO.ops (StepK.pickF rfl rfl) ?_ | refine WO.ops (StepK.not rfl) ?_ | refine WO.ops (StepK.eq rfl rfl rfl) ?_ | refine WO.ops (StepK.extract rfl rfl) ?_ | refine WO.ops (StepK.build rfl rfl) ?_ | refine WO.ops (StepK.mkFn rfl rfl) ?_ | refine WO.ops (StepK.field rfl rfl) ?_ | refine WO.ops (StepK.lenStr rfl) ?_ | refine WO.ops (StepK.nilck rfl) ?_ | refine WO.ops (StepK.min2 rfl rfl) ?_ | refine WO.ops (StepK.max2 rfl rfl) ?_ | refine WO.ops (StepK.load1 rfl (by first | with_reducible assumption | rfl)) ?_ | refine WO.run rfl ?_ | refine WO.skip rfl rfl ?_ | refine WO.skipu rfl ?_))
    have post : APost h h6 a F (roomS s b).2 := by
      rw [hrs]
      obtain ⟨F6, A6, c6, m6⟩ := p6
      exact ⟨F6, A6, c5.trans c6 hw m5, m5.trans m6 c5.size⟩
    refine WO.nil (WC.ret ⟨trivial, _, rfl, fun n hn => ⟨by rw [hrs]; rfl, post.low n, .inl (Nat.le_trans hn lo6)⟩, fun hc2 _ => by omega⟩)
  · have hk : s.t2.headD [] = [] := by simpa using hc1
    have hrs : roomS s b = (s.t2.headD [], { s with t2 := s.t2.tail }) := by rw [roomS, if_neg (by rw [hc]; decide), if_pos hk]
    (repeat (first | refine WO.ops (StepK.mv rfl) ?_ | refine WO.ops (StepK.lenSl rfl (by first | with_reducible assumption | rfl)) ?_ | refine WO.ops (StepK.fieldAddr rfl) ?_ | refine WO.ops (StepK.add rfl rfl (by omega)) ?_ | refine WO.ops (StepK.sub rfl rfl (by omega)) ?_ | refine WO.ops (StepK.bin rfl rfl rfl) ?_ | refine WO.ops (StepK.pickT rfl rfl) ?_ | refine WO.ops (StepK.pickF rfl rfl) ?_ | refine WO.ops (StepK.not rfl) ?_ | refine WO.ops (StepK.eq rfl rfl rfl) ?_ | refine WO.ops (StepK.extract rfl rfl) ?_ | refine WO.ops (StepK.build rfl rfl) ?_ | refine WO.ops (StepK.mkFn rfl rfl) ?_ | refine WO.ops (StepK.field rfl rfl) ?_ | refine WO.ops (StepK.lenStr rfl) ?_ | refine WO.ops (StepK.nilck rfl) ?_ | refine WO.ops (StepK.min2 rfl rfl) ?_ | refine WO.ops (StepK.max2 rfl rfl) ?_ | refine WO.ops (StepK.load1 rfl (by first | with_reducible assumption | rfl)) ?_ | refine WO.run rfl ?_ | refine WO.skip rfl rfl ?_ | refine WO.skipu rfl ?_))
    have post : APost h h5 a F (roomS s b).2 := by
      rw [hrs]
      exact ⟨F5, A5, c5, m5⟩
    refine WO.nil (WC.ret ⟨trivial, _, rfl, fun n hn => ⟨by rw [hrs]; rfl, post.low n, ?_⟩, fun hc2 _ => ⟨by rw [hrs]; rfl, ?_⟩⟩)
    · rcases lo5 with e | e
      · exact .inl (Nat.le_trans hn e)
      · rw [hrs]; exact .inr (as_tail2 e)
    · rcases lo5 with e | e
      · omega
      · have hss : (roomS s b).2 = s := by rw [hrs]; exact as_tail2 e
        rw [hss]; exact ⟨A.post (Grow.refl hw), .inr rfl⟩
end
end Abs
end Go.Proofs.Ytnbljblnikdeiaa
