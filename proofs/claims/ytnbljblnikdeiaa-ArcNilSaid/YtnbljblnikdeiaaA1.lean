/- The abstract machine: its values, its memory, its code. Nothing here speaks of the model's memory. -/
import Derived.CallsIn
import Derived.OrdersIn
namespace Go.Proofs.Ytnbljblnikdeiaa
namespace Abs
set_option linter.unusedVariables false

/-! ### A table by numbers -/
inductive Tr (α : Type) where
  | nil
  | node (l : Tr α) (v : Option α) (r : Tr α)

def Tr.get {α : Type} : Tr α → Nat → Option α
  | .nil, _ => none
  | .node l v r, n => if n = 0 then v else if n % 2 = 1 then l.get (n / 2) else r.get (n / 2 - 1)

def Tr.left {α : Type} : Tr α → Tr α
  | .nil => .nil
  | .node l _ _ => l
def Tr.right {α : Type} : Tr α → Tr α
  | .nil => .nil
  | .node _ _ r => r
def Tr.val {α : Type} : Tr α → Option α
  | .nil => none
  | .node _ v _ => v

def Tr.setF {α : Type} : Nat → Tr α → Nat → Option α → Tr α
  | 0, t, _, _ => t
  | f + 1, t, n, x =>
    if n = 0 then .node t.left x t.right
    else if n % 2 = 1 then .node (Tr.setF f t.left (n / 2) x) t.val t.right
    else .node t.left t.val (Tr.setF f t.right (n / 2 - 1) x)

def Tr.set {α : Type} (t : Tr α) (n : Nat) (x : α) : Tr α := Tr.setF (n + 1) t n (some x)

theorem Tr.get_eq {α : Type} (t : Tr α) (n : Nat) : t.get n = if n = 0 then t.val else if n % 2 = 1 then t.left.get (n / 2) else t.right.get (n / 2 - 1) := by
  cases t with
  | nil => simp [Tr.get, Tr.val, Tr.left, Tr.right]
  | node l v r => simp [Tr.get, Tr.val, Tr.left, Tr.right]

theorem Tr.get_node {α : Type} (l : Tr α) (v : Option α) (r : Tr α) (n : Nat) : (Tr.node l v r).get n = if n = 0 then v else if n % 2 = 1 then l.get (n / 2) else r.get (n / 2 - 1) := by
  simp [Tr.get]

theorem Tr.get_setF {α : Type} (f : Nat) : ∀ (t : Tr α) (n m : Nat) (x : Option α), n < f → (Tr.setF f t n x).get m = if m = n then x else t.get m := by
  induction f with
  | zero => intro t n m x h; omega
  | succ f ih =>
    intro t n m x h
    unfold Tr.setF
    by_cases h0 : n = 0
    · subst h0
      rw [if_pos rfl, Tr.get_node]
      by_cases hm : m = 0
      · simp [hm]
      · rw [if_neg hm, if_neg hm, Tr.get_eq t m, if_neg hm]
    · rw [if_neg h0]
      by_cases h1 : n % 2 = 1
      · rw [if_pos h1, Tr.get_node]
        by_cases hm : m = 0
        · subst hm; rw [if_pos rfl, if_neg (Ne.symm h0), Tr.get_eq t 0, if_pos rfl]
        · rw [if_neg hm]
          by_cases hm1 : m % 2 = 1
          · rw [if_pos hm1, ih _ _ _ _ (by omega), Tr.get_eq t m, if_neg hm, if_pos hm1]
            by_cases e : m = n
            · rw [if_pos e, if_pos (by omega)]
            · rw [if_neg e, if_neg (by omega)]
          · rw [if_neg hm1, if_neg (by omega), Tr.get_eq t m, if_neg hm, if_neg hm1]
      · rw [if_neg h1, Tr.get_node]
        by_cases hm : m = 0
        · subst hm; rw [if_pos rfl, if_neg (Ne.symm h0), Tr.get_eq t 0, if_pos rfl]
        · rw [if_neg hm]
          by_cases hm1 : m % 2 = 1
          · rw [if_pos hm1, if_neg (by omega), Tr.get_eq t m, if_neg hm, if_pos hm1]
          · rw [if_neg hm1, ih _ _ _ _ (by omega), Tr.get_eq t m, if_neg hm, if_neg hm1]
            by_cases e : m = n
            · rw [if_pos e, if_pos (by omega)]
            · rw [if_neg e, if_neg (by omega)]

theorem Tr.get_set {α : Type} (t : Tr α) (n m : Nat) (x : α) : (t.set n x).get m = if m = n then some x else t.get m := by
  unfold Tr.set
  exact Tr.get_setF _ _ _ _ _ (Nat.lt_succ_self n)
theorem Tr.get_set_same {α : Type} (t : Tr α) (n : Nat) (x : α) : (t.set n x).get n = some x := by rw [Tr.get_set, if_pos rfl]
theorem Tr.get_set_ne {α : Type} (t : Tr α) (n m : Nat) (x : α) (h : m ≠ n) : (t.set n x).get m = t.get m := by rw [Tr.get_set, if_neg h]

/-! ### Values -/
inductive V where
  | bool (b : Bool)
  | int (k : IntKind) (n : Int)
  | str (s : List Nat)
  | ptr (a : Option (Nat × Nat))
  | slice (a : Option (Nat × Nat)) (len cap : Nat)
  | oslice (b o len cap sz : Nat)
  | map (r : Option Nat)
  | func (fn : Fn) (first caps : List V)
  | nilFunc
  | iface (t : Nat) (v : V)
  | nilIface
  | agg (vs : List V)
  | tuple (vs : List V)

abbrev TM := Tr V

/-! ### Memory -/
inductive St where
  | ro
  | tip (sups : List Nat) (fz : Nat)
  | sup

inductive Obj where
  | cells (cs : List V) (st : St)
  | map (es : List (V × V))
  | dead

structure Heap where
  objs : Tr Obj
  size : Nat
  low : Nat

def Heap.get (h : Heap) (b : Nat) : Option Obj := h.objs.get b
/-- A block that is there is changed. -/
def Heap.put (h : Heap) (b : Nat) (o : Obj) : Heap := ⟨h.objs.set b o, h.size, min h.low b⟩
/-- A new block. -/
def Heap.push (h : Heap) (o : Obj) : Heap := ⟨h.objs.set h.size o, h.size + 1, h.low⟩

def Heap.kill (h : Heap) : List Nat → Heap
  | [] => h
  | b :: r => if b < h.size then (h.put b .dead).kill r else h.kill r

def Heap.cells (h : Heap) (b : Nat) : Option (List V) :=
  match h.get b with
  | some (.cells cs _) => some cs
  | _ => none

def Heap.rd (h : Heap) (b o : Nat) : Option V :=
  match h.get b with
  | some (.cells cs _) => cs[o]?
  | _ => none

def Heap.rds (h : Heap) (b o n : Nat) : Option (List V) :=
  match h.get b with
  | some (.cells cs _) => if o + n ≤ cs.length then some ((cs.drop o).take n) else none
  | _ => none

def splice {α : Type} : List α → Nat → List α → List α
  | cs, _, [] => cs
  | cs, o, v :: vs => splice (cs.set o v) (o + 1) vs

def V.one : V → Bool
  | .agg _ | .tuple _ => false
  | _ => true

def Heap.wr (h : Heap) (b o : Nat) (vs : List V) : Option Heap :=
  match h.get b with
  | some (.cells cs (.tip S fz)) =>
    if fz ≤ o ∧ o + vs.length ≤ cs.length ∧ vs.all V.one = true then some ((h.kill S).put b (.cells (splice cs o vs) (.tip [] fz))) else none
  | _ => none

def newCells (h : Heap) (cs : List V) : Nat × Heap := (h.size, h.push (.cells cs (.tip [] 0)))

/-! ### Comparing -/
def beqL : List Nat → List Nat → Bool
  | [], [] => true
  | a :: x, b :: y => a == b && beqL x y
  | _, _ => false
theorem beqL_iff : ∀ (x y : List Nat), beqL x y = true ↔ x = y
  | [], [] => by simp [beqL]
  | [], _ :: _ => by simp [beqL]
  | _ :: _, [] => by simp [beqL]
  | a :: x, b :: y => by simp [beqL, beqL_iff x y]
def lessL : List Nat → List Nat → Bool
  | _, [] => false
  | [], _ :: _ => true
  | a :: x, b :: y => decide (a < b) || (a == b && lessL x y)

mutual
def V.beq : V → V → Bool
  | .bool a, .bool b => a == b
  | .int k a, .int k' b => decide (k = k') && a == b
  | .str a, .str b => beqL a b
  | .ptr a, .ptr b => decide (a = b)
  | .slice a l c, .slice a' l' c' => decide (a = a') && l == l' && c == c'
  | .oslice a b l c z, .oslice a' b' l' c' z' => a == a' && b == b' && l == l' && c == c' && z == z'
  | .map a, .map b => decide (a = b)
  | .func f x y, .func f' x' y' => decide (f = f') && V.beqs x x' && V.beqs y y'
  | .nilFunc, .nilFunc => true
  | .iface t v, .iface t' v' => t == t' && V.beq v v'
  | .nilIface, .nilIface => true
  | .agg x, .agg y => V.beqs x y
  | .tuple x, .tuple y => V.beqs x y
  | _, _ => false
def V.beqs : List V → List V → Bool
  | [], [] => true
  | a :: x, b :: y => V.beq a b && V.beqs x y
  | _, _ => false
end

mutual
theorem V.beq_eq : ∀ (x y : V), V.beq x y = true → x = y
  | .bool a, y, h => by cases y <;> simp_all [V.beq]
  | .int k a, y, h => by cases y <;> simp_all [V.beq]
  | .str a, y, h => by cases y <;> simp_all [V.beq, beqL_iff]
  | .ptr a, y, h => by cases y <;> simp_all [V.beq]
  | .slice a l c, y, h => by cases y <;> simp_all [V.beq]
  | .oslice a b l c z, y, h => by cases y <;> simp_all [V.beq]
  | .map a, y, h => by cases y <;> simp_all [V.beq]
  | .func f x z, y, h => by
    cases y <;> simp only [V.beq, Bool.and_eq_true, decide_eq_true_eq] at h <;> try (cases h; done)
    rename_i f' x' z'
    rw [h.1.1, V.beqs_eq _ _ h.1.2, V.beqs_eq _ _ h.2]
  | .nilFunc, y, h => by cases y <;> simp_all [V.beq]
  | .iface t v, y, h => by
    cases y <;> simp only [V.beq, Bool.and_eq_true, beq_iff_eq] at h <;> try (cases h; done)
    rw [h.1, V.beq_eq _ _ h.2]
  | .nilIface, y, h => by cases y <;> simp_all [V.beq]
  | .agg x, y, h => by
    cases y <;> simp only [V.beq] at h <;> try (cases h; done)
    rw [V.beqs_eq _ _ h]
  | .tuple x, y, h => by
    cases y <;> simp only [V.beq] at h <;> try (cases h; done)
    rw [V.beqs_eq _ _ h]
theorem V.beqs_eq : ∀ (x y : List V), V.beqs x y = true → x = y
  | [], [], _ => rfl
  | [], _ :: _, h => by simp [V.beqs] at h
  | _ :: _, [], h => by simp [V.beqs] at h
  | a :: x, b :: y, h => by
    simp only [V.beqs, Bool.and_eq_true] at h
    rw [V.beq_eq a b h.1, V.beqs_eq x y h.2]
end

theorem beqL_refl (x : List Nat) : beqL x x = true := (beqL_iff x x).2 rfl
mutual
theorem V.beq_refl : ∀ x : V, V.beq x x = true
  | .bool a => by simp [V.beq]
  | .int k a => by simp [V.beq]
  | .str a => by simp [V.beq, beqL_refl]
  | .ptr a => by simp [V.beq]
  | .slice a l c => by simp [V.beq]
  | .oslice a b l c z => by simp [V.beq]
  | .map a => by simp [V.beq]
  | .func f x z => by simp [V.beq, V.beqs_refl x, V.beqs_refl z]
  | .nilFunc => rfl
  | .iface t v => by simp [V.beq, V.beq_refl v]
  | .nilIface => rfl
  | .agg x => by simp [V.beq, V.beqs_refl x]
  | .tuple x => by simp [V.beq, V.beqs_refl x]
theorem V.beqs_refl : ∀ x : List V, V.beqs x x = true
  | [] => rfl
  | a :: x => by simp [V.beqs, V.beq_refl a, V.beqs_refl x]
end

/-! ### Are a value's addresses all below n? -/
mutual
def V.scopd (n : Nat) : V → Bool
  | .ptr (some (b, _)) => decide (b < n)
  | .slice (some (b, _)) _ _ => decide (b < n)
  | .oslice b _ _ _ _ => decide (b < n)
  | .map (some b) => decide (b < n)
  | .func _ x y => V.scopeds n x && V.scopeds n y
  | .iface _ v => V.scopd n v
  | .agg x => V.scopeds n x
  | .tuple x => V.scopeds n x
  | _ => true
def V.scopeds (n : Nat) : List V → Bool
  | [] => true
  | a :: x => V.scopd n a && V.scopeds n x
end
end Abs
end Go.Proofs.Ytnbljblnikdeiaa
