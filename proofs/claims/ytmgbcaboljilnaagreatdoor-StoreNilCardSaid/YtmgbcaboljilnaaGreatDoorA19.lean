/- The abstract machine: reasoning with what is known of the variables; memory that grows. -/
import Derived.Test.YtmgbcaboljilnaaGreatDoorA18
namespace Go.Proofs.YtmgbcaboljilnaaGreatDoor
namespace Abs
noncomputable section
set_option linter.unusedVariables false
set_option linter.unusedSimpArgs false
open Go.RowKit

/-! ### What is known of the variables -/
abbrev Env := List (Nat × V)
def Env.get : List (Nat × V) → Nat → Option V
  | [], _ => none
  | (k, v) :: r, n => if n = k then some v else Env.get r n
def Env.put (e : List (Nat × V)) : Option Nat → V → List (Nat × V)
  | none, _ => e
  | some d, v => (d, v) :: e
def Sub (e : List (Nat × V)) (tm : TM) : Prop := ∀ k v, Env.get e k = some v → tm.get k = some v
def Cov (e e' : List (Nat × V)) : Prop := ∀ k v, Env.get e k = some v → Env.get e' k = some v

theorem Sub.nil (tm : TM) : Sub [] tm := by intro k v h; cases h
theorem Sub.set {e : List (Nat × V)} {tm : TM} (h : Sub e tm) (d : Nat) (v : V) : Sub ((d, v) :: e) (tm.set d v) := by
  intro k u hk
  simp only [Env.get] at hk
  rw [TM.get_set]
  split at hk
  · rename_i q; rw [if_pos q]; exact hk
  · rename_i q; rw [if_neg q]; exact h k u hk
theorem Sub.put {e : List (Nat × V)} {tm : TM} (h : Sub e tm) (d : Option Nat) (v : V) : Sub (Env.put e d v) (TM.put tm d v) := by
  cases d with
  | none => exact h
  | some d => exact h.set d v
theorem Sub.same {e : List (Nat × V)} {tm : TM} (h : Sub e tm) {d : Nat} {v : V} (hg : Env.get e d = some v) : Sub ((d, v) :: e) tm := by
  intro k u hk
  simp only [Env.get] at hk
  split at hk
  · rename_i q; cases hk; rw [q]; exact h d v hg
  · exact h k u hk
theorem Sub.cov {e e' : List (Nat × V)} {tm : TM} (h : Sub e' tm) (hc : Cov e e') : Sub e tm := fun k v hk => h k v (hc k v hk)
theorem Cov.nil (e : List (Nat × V)) : Cov [] e := by intro k v h; cases h
theorem Cov.cons {e e' : List (Nat × V)} {d : Nat} {v : V} (hg : Env.get e' d = some v) (h : Cov e e') : Cov ((d, v) :: e) e' := by
  intro k u hk
  simp only [Env.get] at hk
  split at hk
  · rename_i q; cases hk; rw [q]; exact hg
  · exact h k u hk
theorem Cov.refl (e : List (Nat × V)) : Cov e e := fun _ _ h => h

def evE (e : List (Nat × V)) : Opd → Option V
  | .t i => Env.get e i
  | .c v => some v
def evsE (e : List (Nat × V)) : List Opd → Option (List V)
  | [] => some []
  | x :: r => match evE e x, evsE e r with
    | some v, some vs => some (v :: vs)
    | _, _ => none
def evoE (e : List (Nat × V)) : Option Opd → Option (Option V)
  | none => some none
  | some x => match evE e x with
    | some v => some (some v)
    | none => none
def evPartsE (e : List (Nat × V)) : List (Nat × Nat × Opd) → Option (List (Nat × Nat × V))
  | [] => some []
  | (o, s, x) :: r => match evE e x, evPartsE e r with
    | some v, some vs => some ((o, s, v) :: vs)
    | _, _ => none

section
variable {e : List (Nat × V)} {tm : TM}
theorem Sub.ev (hs : Sub e tm) {x : Opd} {v : V} (h : evE e x = some v) : Abs.ev tm x = some v := by
  cases x with
  | t i => exact hs i v h
  | c v => exact h
theorem Sub.evs (hs : Sub e tm) : ∀ {x : List Opd} {vs : List V}, evsE e x = some vs → Abs.evs tm x = some vs
  | [], _, h => h
  | x :: r, vs, h => by
    simp only [evsE] at h
    split at h
    · rename_i v us q1 q2
      simp only [Abs.evs, hs.ev q1, hs.evs q2]; exact h
    · cases h
theorem Sub.evo (hs : Sub e tm) {x : Option Opd} {v : Option V} (h : evoE e x = some v) : Abs.evo tm x = some v := by
  cases x with
  | none => exact h
  | some x =>
    simp only [evoE] at h
    split at h
    · rename_i v q1
      simp only [Abs.evo, hs.ev q1]; exact h
    · cases h
theorem Sub.evParts (hs : Sub e tm) : ∀ {x : List (Nat × Nat × Opd)} {vs : List (Nat × Nat × V)}, evPartsE e x = some vs → Abs.evParts tm x = some vs
  | [], _, h => h
  | (o, s, x) :: r, vs, h => by
    simp only [evPartsE] at h
    split at h
    · rename_i v us q1 q2
      simp only [Abs.evParts, hs.ev q1, hs.evParts q2]; exact h
    · cases h
end

/-! ### One operation -/
def StepK (e : List (Nat × V)) (h : Heap) (k : K) (v : V) (h' : Heap) : Prop := ∀ tm, Sub e tm → opK k tm h = some (v, h')

namespace StepK
variable {e : List (Nat × V)} {h h' : Heap} {x y z : Opd} {a b c v w : V}
theorem mv (hx : evE e x = some v) : StepK e h (.mv x) v h := fun tm hs => by simp only [opK, hs.ev hx]
theorem pickT (hx : evE e x = some (.bool true)) (hy : evE e y = some v) : StepK e h (.pick x y z) v h := fun tm hs => by simp only [opK, hs.ev hx, hs.ev hy, if_true]
theorem pickF (hx : evE e x = some (.bool false)) (hy : evE e z = some v) : StepK e h (.pick x y z) v h := fun tm hs => by simp only [opK, hs.ev hx, hs.ev hy, Bool.false_eq_true, if_false]
theorem alloc {ty : Option Nat} {zs : List V} : StepK e h (.alloc ty zs) (.ptr (some (h.size, 0))) (h.push (.cells zs (.tip [] 0 ty))) := fun tm hs => by simp only [opK]
theorem box (hx : evE e x = some v) : StepK e h (.box x) (.ptr (some (h.size, 0))) (h.push (.cells v.cellsOf (.tip [] 0 none))) := fun tm hs => by simp only [opK, hs.ev hx]
theorem build {zs cs : List V} {ps : List (Nat × Nat × Opd)} {us : List (Nat × Nat × V)} (hp : evPartsE e ps = some us) (hf : fillV zs us = some cs) : StepK e h (.build zs ps) (.agg cs) h := fun tm hs => by simp only [opK, hs.evParts hp, hf]
theorem buildSl {n : Nat} {zs cs : List V} {ps : List (Nat × Nat × Opd)} {us : List (Nat × Nat × V)} (hp : evPartsE e ps = some us) (hf : fillV zs us = some cs) : StepK e h (.buildSl zs n ps) (.slice (some (h.size, 0)) n n) (h.push (.cells cs (.tip [] 0 none))) := fun tm hs => by simp only [opK, hs.evParts hp, hf]
theorem load1 {b o : Nat} (hx : evE e x = some (.ptr (some (b, o)))) (hl : h.rd b o = some v) : StepK e h (.load none x) v h := fun tm hs => by simp only [opK, hs.ev hx, loadA, hl]
theorem loadN {b o n : Nat} {cs : List V} (hx : evE e x = some (.ptr (some (b, o)))) (hl : h.rds b o n = some cs) : StepK e h (.load (some n) x) (.agg cs) h := fun tm hs => by simp only [opK, hs.ev hx, loadA, hl]
theorem store {b o n : Nat} (hx : evE e x = some (.ptr (some (b, o)))) (hy : evE e y = some v) (hn : v.cellsOf.length = n) (hw : h.wr b o v.cellsOf = some h') : StepK e h (.store n x y) undefV h' := fun tm hs => by simp only [opK, hs.ev hx, hs.ev hy, storeA, if_pos hn, hw]
theorem nilck {p : Nat × Nat} (hx : evE e x = some (.ptr (some p))) : StepK e h (.nilck x) (.ptr (some p)) h := fun tm hs => by simp only [opK, hs.ev hx]
theorem bin {op : BinOp} (hx : evE e x = some a) (hy : evE e y = some b) (hb : binA op a b = some v) : StepK e h (.bin op x y) v h := fun tm hs => by simp only [opK, hs.ev hx, hs.ev hy, hb]
theorem wrap64 {n : Int} (h1 : -9223372036854775808 ≤ n) (h2 : n < 9223372036854775808) : IntKind.i64.wrap n = n := by
  have hd : IntKind.i64.wrap n = if n % 18446744073709551616 ≥ 9223372036854775808 then n % 18446744073709551616 - 18446744073709551616 else n % 18446744073709551616 := by
    simp [IntKind.wrap, IntKind.signed, IntKind.bits]
  rw [hd]
  split <;> omega
theorem add {m n : Int} (hx : evE e x = some (.int .i64 m)) (hy : evE e y = some (.int .i64 n)) (h1 : -9223372036854775808 ≤ m + n ∧ m + n < 9223372036854775808) : StepK e h (.bin .add x y) (.int .i64 (m + n)) h :=
  bin hx hy (by simp only [binA, if_true, wrap64 h1.1 h1.2])
theorem sub {m n : Int} (hx : evE e x = some (.int .i64 m)) (hy : evE e y = some (.int .i64 n)) (h1 : -9223372036854775808 ≤ m - n ∧ m - n < 9223372036854775808) : StepK e h (.bin .sub x y) (.int .i64 (m - n)) h :=
  bin hx hy (by simp only [binA, if_true, wrap64 h1.1 h1.2])
theorem eq {neg t : Bool} {d : EqD} (hx : evE e x = some a) (hy : evE e y = some b) (hb : eqA d a b = some t) : StepK e h (.eq neg d x y) (.bool (if neg then !t else t)) h := fun tm hs => by simp only [opK, hs.ev hx, hs.ev hy, hb]
theorem not {t : Bool} (hx : evE e x = some (.bool t)) : StepK e h (.not x) (.bool (!t)) h := fun tm hs => by simp only [opK, hs.ev hx]
theorem sliceSl {sz : Nat} {lo hi mx : Option Opd} {l' h2 m' : Option V} (hx : evE e x = some a) (h1 : evoE e lo = some l') (h3 : evoE e hi = some h2) (h4 : evoE e mx = some m') (h5 : sliceSlA sz a l' h2 m' = some v) : StepK e h (.sliceSl sz x lo hi mx) v h := fun tm hs => by simp only [opK, hs.ev hx, hs.evo h1, hs.evo h3, hs.evo h4, h5]
theorem fieldAddr {b o off : Nat} (hx : evE e x = some (.ptr (some (b, o)))) : StepK e h (.fieldAddr off x) (.ptr (some (b, o + off))) h := fun tm hs => by simp only [opK, hs.ev hx]
theorem field {off : Nat} {n : Option Nat} {cs : List V} (hx : evE e x = some (.agg cs)) (hf : aggOf n cs off = some v) : StepK e h (.field off n x) v h := fun tm hs => by simp only [opK, hs.ev hx, hf]
theorem idxSl {sz : Nat} (hx : evE e x = some a) (hy : evE e y = some b) (hi : idxSlA sz a b = some v) : StepK e h (.idxSl sz x y) v h := fun tm hs => by simp only [opK, hs.ev hx, hs.ev hy, hi]
theorem lenStr {s : List Nat} (hx : evE e x = some (.str s)) : StepK e h (.lenStr x) (.int .i64 s.length) h := fun tm hs => by simp only [opK, hs.ev hx]
theorem lenSl {n : Nat} (hx : evE e x = some a) (hl : slLen a = some n) : StepK e h (.lenSl x) (.int .i64 n) h := fun tm hs => by simp only [opK, hs.ev hx, hl]
theorem min2 {k k' : IntKind} {m n : Int} (hx : evE e x = some (.int k m)) (hy : evE e y = some (.int k' n)) : StepK e h (.min2 x y) (.int k (if n < m then n else m)) h := fun tm hs => by simp only [opK, hs.ev hx, hs.ev hy]
theorem max2 {k k' : IntKind} {m n : Int} (hx : evE e x = some (.int k m)) (hy : evE e y = some (.int k' n)) : StepK e h (.max2 x y) (.int k (if n > m then n else m)) h := fun tm hs => by simp only [opK, hs.ev hx, hs.ev hy]
theorem append {sz bytes : Nat} {tyK : Option Nat} (hx : evE e x = some a) (hy : evE e y = some b) (ha : appendA h sz bytes tyK a b = some (v, h')) : StepK e h (.append sz bytes tyK x y) v h' := fun tm hs => by simp only [opK, hs.ev hx, hs.ev hy, ha]
theorem copy {sz : Nat} (hx : evE e x = some a) (hy : evE e y = some b) (ha : copyA h sz a b = some (v, h')) : StepK e h (.copy sz x y) v h' := fun tm hs => by simp only [opK, hs.ev hx, hs.ev hy, ha]
theorem clear {sz : Nat} {zs : List V} (hx : evE e x = some a) (ha : clearA h sz zs a = some (v, h')) : StepK e h (.clear sz zs x) v h' := fun tm hs => by simp only [opK, hs.ev hx, ha]
theorem mkFn {fn : Fn} {f1 c1 : List Opd} {fs cs : List V} (h1 : evsE e f1 = some fs) (h2 : evsE e c1 = some cs) : StepK e h (.mkFn fn f1 c1) (.func fn fs cs) h := fun tm hs => by simp only [opK, hs.evs h1, hs.evs h2]
theorem extract {i : Nat} {vs : List V} (hx : evE e x = some (.tuple vs)) (hi : vs[i]? = some v) : StepK e h (.extract i x) v h := fun tm hs => by simp only [opK, hs.ev hx, hi]
theorem toInt {k k' : IntKind} {n m : Int} (hx : evE e x = some (.int k' n)) (hw : k.wrap n = m) : StepK e h (.toInt k x) (.int k m) h := fun tm hs => by simp only [opK, hs.ev hx, hw]
theorem toStr (hx : evE e x = some a) (hw : toStrA h a = some v) : StepK e h (.toStr x) v h := fun tm hs => by simp only [opK, hs.ev hx, hw]
end StepK

/-! ### Pieces of code -/
section
variable (C : Cfg)
def Ans (f : Nat) (args : List V) (h : Heap) (R : V → Heap → Prop) : Prop := ∃ v h', Gives C f args h v h' ∧ R v h'
def WO (l : List AOp) (e : List (Nat × V)) (h : Heap) (Q : List (Nat × V) → Heap → Prop) : Prop := ∀ tm, Sub e tm → Does C l tm h fun tm' h' => ∃ e', Sub e' tm' ∧ Q e' h'
def WC (a : AC) (e : List (Nat × V)) (h : Heap) (Q : Ex → List (Nat × V) → Heap → Prop) : Prop := ∀ tm, Sub e tm → Runs C a tm h fun x tm' h' => ∃ e', Sub e' tm' ∧ Q x e' h'
end

section
variable {C : Cfg} {e : List (Nat × V)} {h h' : Heap} {l : List AOp}

namespace WO
variable {Q : List (Nat × V) → Heap → Prop}
theorem nil (hq : Q e h) : WO C [] e h Q := fun tm hs => Does.nil ⟨e, hs, hq⟩
theorem op {k : K} {d : Option Nat} {v : V} (hk : StepK e h k v h') (hq : WO C l (Env.put e d v) h' Q) : WO C (⟨d, none, k⟩ :: l) e h Q :=
  fun tm hs => Does.op (o := ⟨d, none, k⟩) rfl (hk tm hs) (hq _ (hs.put d v))
theorem ops {k : K} {d : Nat} {v : V} (hk : StepK e h k v h') (hq : WO C l ((d, v) :: e) h' Q) : WO C (⟨some d, none, k⟩ :: l) e h Q := op hk hq
theorem run {k : K} {d : Option Nat} {t : Nat} {w : Bool} (hg : Env.get e t = some (.bool w)) (hq : WO C (⟨d, none, k⟩ :: l) e h Q) : WO C (⟨d, some (t, w), k⟩ :: l) e h Q := fun tm hs => by
  obtain ⟨n, t1, h1, q1, q2⟩ := hq tm hs
  refine ⟨n, t1, h1, ?_, q2⟩
  rw [← q1]
  have hg' : tm.get t = some (.bool w) := hs t _ hg
  simp only [runOps, stepOp, wantedA, hg', beq_self_eq_true]
theorem skip {k : K} {d : Nat} {t : Nat} {w w' : Bool} (hg : Env.get e t = some (.bool w')) (hw : (w' == w) = false) (hq : WO C l ((d, undefV) :: e) h Q) : WO C (⟨some d, some (t, w), k⟩ :: l) e h Q := fun tm hs =>
  Does.skip (o := ⟨some d, some (t, w), k⟩) (by have hg' : tm.get t = some (.bool w') := hs t _ hg
                                                simp only [wantedA, hg', hw]) (hq _ (hs.put (some d) undefV))
theorem skipu {k : K} {d : Nat} {t : Nat} {w : Bool} (hg : Env.get e t = some undefV) (hq : WO C l ((d, undefV) :: e) h Q) : WO C (⟨some d, some (t, w), k⟩ :: l) e h Q := fun tm hs =>
  Does.skip (o := ⟨some d, some (t, w), k⟩) (by have hg' : tm.get t = some (.tuple []) := hs t _ hg
                                                simp only [wantedA, hg']) (hq _ (hs.put (some d) undefV))
theorem split {t : Nat} {b : Bool} (hg : Env.get e t = some (.bool b)) (h1 : b = true → WO C l ((t, .bool true) :: e) h Q) (h2 : b = false → WO C l ((t, .bool false) :: e) h Q) : WO C l e h Q := by
  cases b with
  | true => exact fun tm hs => h1 rfl tm (hs.same hg)
  | false => exact fun tm hs => h2 rfl tm (hs.same hg)
theorem splitG {k : K} {d : Option Nat} {t : Nat} {w b : Bool} (hg : Env.get e t = some (.bool b)) (h1 : b = true → WO C (⟨d, some (t, w), k⟩ :: l) ((t, .bool true) :: e) h Q) (h2 : b = false → WO C (⟨d, some (t, w), k⟩ :: l) ((t, .bool false) :: e) h Q) : WO C (⟨d, some (t, w), k⟩ :: l) e h Q := split hg h1 h2
theorem call {d : Nat} {fx : Opd} {xs : List Opd} {f : Nat} {first caps vs : List V} {R : V → Heap → Prop} (hf : evE e fx = some (.func (.func f) first caps)) (hx : evsE e xs = some vs) (hc : Ans C f (first ++ vs ++ caps) h R)
    (hq : ∀ v h', R v h' → WO C l ((d, v) :: e) h' Q) : WO C (⟨some d, none, .call fx xs⟩ :: l) e h Q := fun tm hs => by
  obtain ⟨v, h', q1, q2⟩ := hc
  exact Does.call rfl (hs.ev hf) (hs.evs hx) q1 (hq v h' q2 _ (hs.put (some d) v))
theorem callN {fx : Opd} {xs : List Opd} {f : Nat} {first caps vs : List V} {R : V → Heap → Prop} (hf : evE e fx = some (.func (.func f) first caps)) (hx : evsE e xs = some vs) (hc : Ans C f (first ++ vs ++ caps) h R)
    (hq : ∀ v h', R v h' → WO C l e h' Q) : WO C (⟨none, none, .call fx xs⟩ :: l) e h Q := fun tm hs => by
  obtain ⟨v, h', q1, q2⟩ := hc
  exact Does.call (dst := none) rfl (hs.ev hf) (hs.evs hx) q1 (hq v h' q2 _ hs)
theorem mono {Q' : List (Nat × V) → Heap → Prop} (hx : WO C l e h Q) (hq : ∀ e h, Q e h → Q' e h) : WO C l e h Q' := fun tm hs =>
  let ⟨n, t, h1, q1, e1, q2, q3⟩ := hx tm hs; ⟨n, t, h1, q1, e1, q2, hq _ _ q3⟩
end WO

namespace WC
variable {a b : AC} {Q : Ex → List (Nat × V) → Heap → Prop}
theorem mono {Q' : Ex → List (Nat × V) → Heap → Prop} (hx : WC C a e h Q) (hq : ∀ x e h, Q x e h → Q' x e h) : WC C a e h Q' := fun tm hs =>
  (hx tm hs).mono fun x t h1 ⟨e1, q1, q2⟩ => ⟨e1, q1, hq _ _ _ q2⟩
theorem cov {e' : List (Nat × V)} (hc : Cov e' e) (hx : WC C a e' h Q) : WC C a e h Q := fun tm hs => hx tm (hs.cov hc)
theorem ops (hx : WO C l e h (Q .normal)) : WC C (.ops l) e h Q := fun tm hs => Runs.ops (hx tm hs)
theorem skip (hq : Q .normal e h) : WC C .skip e h Q := fun tm hs => Runs.skip ⟨e, hs, hq⟩
theorem ret (hq : Q .ret e h) : WC C .ret e h Q := fun tm hs => Runs.ret ⟨e, hs, hq⟩
theorem exit {id : Nat} (hq : Q (.exit id) e h) : WC C (.exit id) e h Q := fun tm hs => Runs.exit ⟨e, hs, hq⟩
theorem seq (hx : WC C a e h (fun x e' h' => match x with | .normal => WC C b e' h' Q | x => Q x e' h')) : WC C (.seq a b) e h Q := fun tm hs => by
  refine Runs.seq ((hx tm hs).mono fun x t h1 ⟨e1, q1, q2⟩ => ?_)
  cases x with
  | normal => exact q2 t q1
  | exit id => exact ⟨e1, q1, q2⟩
  | ret => exact ⟨e1, q1, q2⟩
theorem seqO (hx : WO C l e h (fun e' h' => WC C b e' h' Q)) : WC C (.seq (.ops l) b) e h Q := seq (ops hx)
theorem condT {x : Opd} (hv : evE e x = some (.bool true)) (hx : WC C a e h Q) : WC C (.cond x a b) e h Q := fun tm hs => Runs.cond (hs.ev hv) (hx tm hs)
theorem condF {x : Opd} (hv : evE e x = some (.bool false)) (hx : WC C b e h Q) : WC C (.cond x a b) e h Q := fun tm hs => Runs.cond (hs.ev hv) (hx tm hs)
theorem cond {x : Opd} {t : Bool} (hv : evE e x = some (.bool t)) (h1 : t = true → WC C a e h Q) (h2 : t = false → WC C b e h Q) : WC C (.cond x a b) e h Q := by
  cases t with
  | true => exact condT hv (h1 rfl)
  | false => exact condF hv (h2 rfl)
theorem block {id : Nat} (hx : WC C a e h (fun x e' h' => match x with | .exit i => if i = id then Q .normal e' h' else Q (.exit i) e' h' | x => Q x e' h')) : WC C (.block id a) e h Q := fun tm hs => by
  refine Runs.block ((hx tm hs).mono fun x t h1 ⟨e1, q1, q2⟩ => ?_)
  cases x with
  | normal => exact ⟨e1, q1, q2⟩
  | ret => exact ⟨e1, q1, q2⟩
  | exit i =>
    simp only [AtExit]
    simp only at q2
    split
    · rename_i g; rw [if_pos g] at q2; exact ⟨e1, q1, q2⟩
    · rename_i g; rw [if_neg g] at q2; exact ⟨e1, q1, q2⟩
theorem loop {σ : Type} (T : σ → List (Nat × V)) (I : σ → Heap → Prop) (μ : σ → Nat) (s0 : σ) (hc : Cov (T s0) e) (hi : I s0 h)
    (step : ∀ s h, I s h → WC C a (T s) h (fun x e' h' => match x with | .normal => ∃ s', Cov (T s') e' ∧ I s' h' ∧ μ s' < μ s | x => Q x e' h')) : WC C (.loop a) e h Q := fun tm hs => by
  refine Runs.loop (fun s t h => Sub (T s) t ∧ I s h) μ s0 ⟨hs.cov hc, hi⟩ fun s t h hi => ?_
  refine (step s h hi.2 t hi.1).mono fun x t' h' ⟨e1, q1, q2⟩ => ?_
  cases x with
  | normal =>
    obtain ⟨s', g1, g2, g3⟩ := q2
    exact ⟨s', ⟨q1.cov g1, g2⟩, g3⟩
  | exit id => exact ⟨e1, q1, q2⟩
  | ret => exact ⟨e1, q1, q2⟩
end WC

def resE (e : List (Nat × V)) (h : Heap) : Res → Option V
  | .tmp t => Env.get e t
  | .cell t n => match Env.get e t with
    | some a => loadA h n a
    | none => none
def ressE (e : List (Nat × V)) (h : Heap) : List Res → Option (List V)
  | [] => some []
  | r :: rs => match resE e h r, ressE e h rs with
    | some v, some vs => some (v :: vs)
    | _, _ => none
def argsE : Nat → List V → List (Nat × V) → List (Nat × V)
  | _, [], e => e
  | i, v :: r, e => argsE (i + 1) r ((i, v) :: e)

theorem Sub.res {tm : TM} (hs : Sub e tm) {r : Res} {v : V} (hr : resE e h r = some v) : resA tm h r = some v := by
  cases r with
  | tmp t => exact hs t v hr
  | cell t n =>
    simp only [resE] at hr
    split at hr
    · rename_i a q; simp only [resA, hs t _ q]; exact hr
    · cases hr
theorem Sub.ress {tm : TM} (hs : Sub e tm) : ∀ {r : List Res} {vs : List V}, ressE e h r = some vs → ressA tm h r = some vs
  | [], _, hr => hr
  | r :: rs, vs, hr => by
    simp only [ressE] at hr
    split at hr
    · rename_i v us q1 q2
      simp only [ressA, hs.res q1, hs.ress q2]; exact hr
    · cases hr
theorem Sub.args {tm : TM} (hs : Sub e tm) : ∀ (i : Nat) (vs : List V), Sub (argsE i vs e) (argsTM i vs tm) := by
  intro i vs
  induction vs generalizing i e tm with
  | nil => exact hs
  | cons v r ih => exact ih (hs.set i v) (i + 1)

/-- Memory that has grown: what was there is there. -/
structure Grow (h h' : Heap) : Prop where
  wf : ∀ b, h'.size ≤ b → h'.get b = none
  size : h.size ≤ h'.size
  ext : ∀ b o, h.get b = some o → h'.get b = some o
def Wf (h : Heap) : Prop := ∀ b, h.size ≤ b → h.get b = none
theorem Grow.refl (hw : Wf h) : Grow h h := ⟨hw, Nat.le_refl _, fun _ _ q => q⟩
theorem Grow.trans {h1 h2 : Heap} (g : Grow h h1) (g' : Grow h1 h2) : Grow h h2 := ⟨g'.wf, Nat.le_trans g.size g'.size, fun b o q => g'.ext b o (g.ext b o q)⟩
theorem Grow.low (g : Grow h h') (n m : Nat) : Grow { h with low := n } { h' with low := m } := ⟨g.wf, g.size, g.ext⟩
theorem Wf.lt (hw : Wf h) {b : Nat} {o : Obj} (hg : h.get b = some o) : b < h.size := by
  rcases Nat.lt_or_ge b h.size with q | q
  · exact q
  · rw [hw b q] at hg; cases hg
theorem get_push (h : Heap) (o : Obj) (b : Nat) : (h.push o).get b = if b = h.size then some o else h.get b := by simp only [Heap.get, Heap.push, HT.get_set]
theorem get_put (h : Heap) (o : Obj) (b c : Nat) : (h.put c o).get b = if b = c then some o else h.get b := by simp only [Heap.get, Heap.put, HT.get_set]
theorem Grow.push (g : Grow h h') (o : Obj) : Grow h (h'.push o) := by
  refine ⟨fun b hb => ?_, Nat.le_trans g.size (Nat.le_succ _), fun b o' q => ?_⟩
  · rw [get_push, if_neg (by simp only [Heap.push] at hb; omega)]; exact g.wf b (by simp only [Heap.push] at hb; omega)
  · have := g.ext b o' q
    rw [get_push, if_neg]
    · exact this
    · intro hb; subst hb; rw [g.wf _ (Nat.le_refl _)] at this; cases this
theorem Grow.put (g : Grow h h') {b : Nat} (hb : h.size ≤ b) (hb' : b < h'.size) (hw : Wf h) (o : Obj) : Grow h (h'.put b o) := by
  refine ⟨fun c hc => ?_, g.size, fun c o' q => ?_⟩
  · rw [get_put, if_neg (by simp only [Heap.put] at hc; omega)]; exact g.wf c hc
  · rw [get_put, if_neg]
    · exact g.ext c o' q
    · intro hcb; subst hcb; rw [hw _ hb] at q; cases q
theorem Grow.rd (g : Grow h h') {b o : Nat} {v : V} (hr : h.rd b o = some v) : h'.rd b o = some v := by
  simp only [Heap.rd] at hr ⊢
  split at hr
  · rename_i q; rw [g.ext _ _ q]; exact hr
  · cases hr
theorem Grow.rds (g : Grow h h') {b o n : Nat} {v : List V} (hr : h.rds b o n = some v) : h'.rds b o n = some v := by
  simp only [Heap.rds] at hr ⊢
  split at hr
  · rename_i q; rw [g.ext _ _ q]; exact hr
  · cases hr

/-- A call of a function of the table. -/
theorem Ans.body {f : Nat} {af : AFunc} {args : List V} {R : V → Heap → Prop} (hS : C.S f args h = none) (hF : C.F f = some af) (hl : args.length = af.nparams) (hpl : af.body.plain = true) (hdx : args.length ≤ DX)
    (hx : WC C af.body (argsE 0 args []) { h with low := h.size } fun x e' h1 => (∀ id, x ≠ .exit id) ∧ ∃ vs, ressE e' h1 af.results = some vs ∧ R (oneOf vs) { h1 with low := min h.low h1.low } ∧ ((oneOf vs).scopd h.size = true → R (oneOf vs) h)) : Ans C f args h R := by
  have hx := hx _ ((Sub.nil (.nil : TM)).args 0 args)
  have key : ∃ v h', (∃ n x t h1, execC (run C n).1 (run C n).2 af.body (argsTM 0 args .nil) { h with low := h.size } = some (x, t, h1) ∧ (∀ id, x ≠ .exit id) ∧ ∃ vs, ressA t h1 af.results = some vs ∧ closeCall h (oneOf vs) h1 = (v, h')) ∧ R v h' := by
    obtain ⟨n, x, t, h1, q1, e1, q2, q3, vs, q4, q5, q6⟩ := hx
    by_cases hc : h.size ≤ h1.low ∧ (oneOf vs).scopd h.size = true
    · exact ⟨oneOf vs, h, ⟨n, x, t, h1, q1, q3, vs, q2.ress q4, by simp only [closeCall, if_pos hc]⟩, q6 hc.2⟩
    · exact ⟨oneOf vs, _, ⟨n, x, t, h1, q1, q3, vs, q2.ress q4, by simp only [closeCall, if_neg hc]⟩, q5⟩
  obtain ⟨v, h', q1, q2⟩ := key
  exact ⟨v, h', Gives.body hS hF hl hpl hdx q1, q2⟩
theorem Ans.mono {f : Nat} {args : List V} {R R' : V → Heap → Prop} (hx : Ans C f args h R) (hr : ∀ v h', R v h' → R' v h') : Ans C f args h R' :=
  let ⟨v, h', q1, q2⟩ := hx; ⟨v, h', q1, hr _ _ q2⟩
end
end
end Abs
end Go.Proofs.YtmgbcaboljilnaaGreatDoor
