/- The abstract machine's memory and the model's: what it is that they agree. -/
import Derived.Test.YtmgbcaboljilnaaGreatDoorA3
import Derived.RowKit3
import Derived.Below
import Derived.Laws.Sem
import Derived.Laws.World
import Derived.Laws.Cells
namespace Go.Proofs.YtmgbcaboljilnaaGreatDoor
namespace Abs
set_option linter.unusedVariables false
open Go.RowKit

/-- Where an abstract block lies: a block, the place of its first cell, how many cells that block has. -/
structure Emb where
  blk : Nat
  off : Nat
  lim : Nat

abbrev Rho := Nat → Option Emb
variable {P : Program}

def RLe (ρ ρ' : Rho) : Prop := ∀ b e, ρ b = some e → ρ' b = some e
theorem RLe.refl (ρ : Rho) : RLe ρ ρ := fun _ _ h => h
theorem RLe.trans {a b c : Rho} (h : RLe a b) (k : RLe b c) : RLe a c := fun x e hx => k x e (h x e hx)

def at_ (e : Emb) (o : Nat) : Addr := ⟨e.blk, e.off + o, none⟩
theorem at_add (e : Emb) (o n : Nat) : (at_ e o).add n = at_ e (o + n) := by
  unfold at_ Addr.add
  split
  · rename_i h; subst h; rfl
  · simp [Nat.add_assoc]

mutual
inductive VR (ρ : Rho) : V → Value → Prop where
  | bool (b : Bool) : VR ρ (.bool b) (.bool b)
  | int (k : IntKind) (n : Int) : VR ρ (.int k n) (.int k n)
  | str (s : ByteArray) (l : List Nat) (h : l = strOf s) : VR ρ (.str l) (.string s)
  | ptrNil : VR ρ (.ptr none) (.pointer none)
  | ptr (b o : Nat) (e : Emb) (a : Addr) (h : ρ b = some e) (ha : a = at_ e o) : VR ρ (.ptr (some (b, o))) (.pointer (some a))
  | sliceNil : VR ρ (.slice none 0 0) (.slice none 0 0)
  | slice (b o len cap : Nat) (e : Emb) (a : Addr) (h : ρ b = some e) (ha : cap ≠ 0 → a = at_ e o) (hl : len ≤ cap) : VR ρ (.slice (some (b, o)) len cap) (.slice (some a) len cap)
  | oslice (b o len cap sz cap' : Nat) (e : Emb) (a : Addr) (h : ρ b = some e) (ha : cap' ≠ 0 → a = at_ e o ∧ (sz = 0 ∨ e.off + o + cap' * sz ≤ e.lim)) (hl : len ≤ cap) (hc : cap ≤ cap') :
      VR ρ (.oslice b o len cap sz) (.slice (some a) len cap')
  | mapNil : VR ρ (.map none) (.map none)
  | map (b : Nat) (e : Emb) (r : Nat) (h : ρ b = some e) (hr : r = e.blk) : VR ρ (.map (some b)) (.map (some r))
  | func (f : FuncId) (x y : List V) (a c : Array Value) (hx : VRs ρ x a.toList) (hy : VRs ρ y c.toList) : VR ρ (.func (.func f) x y) (.func (.func f) a c)
  | nilFunc : VR ρ .nilFunc .nilFunc
  | iface (t : TypeId) (v : V) (u : Value) (h : VR ρ v u) : VR ρ (.iface t v) (.iface t u)
  | nilIface : VR ρ .nilIface .nilIface
  | agg (x : List V) (a : Array Value) (h : VRs ρ x a.toList) : VR ρ (.agg x) (.agg a)
  | tuple (x : List V) (a : Array Value) (h : VRs ρ x a.toList) : VR ρ (.tuple x) (.tuple a)
  | yld (b : Nat) (e : Emb) (l : Nat) (h : ρ b = some e) (hl : l = e.blk) : VR ρ (.yld b) (.func (.yield l) #[] #[])
inductive VRs (ρ : Rho) : List V → List Value → Prop where
  | nil : VRs ρ [] []
  | cons (v : V) (u : Value) (x : List V) (a : List Value) (h : VR ρ v u) (t : VRs ρ x a) : VRs ρ (v :: x) (u :: a)
end

mutual
theorem VR.mono {ρ ρ' : Rho} (hρ : RLe ρ ρ') : ∀ {v : V} {u : Value}, VR ρ v u → VR ρ' v u
  | _, _, .bool b => .bool b
  | _, _, .int k n => .int k n
  | _, _, .str s l h => .str s l h
  | _, _, .ptrNil => .ptrNil
  | _, _, .ptr b o e a h ha => .ptr b o e a (hρ _ _ h) ha
  | _, _, .sliceNil => .sliceNil
  | _, _, .slice b o len cap e a h ha hl => .slice b o len cap e a (hρ _ _ h) ha hl
  | _, _, .oslice b o len cap sz cap' e a h ha hl hc => .oslice b o len cap sz cap' e a (hρ _ _ h) ha hl hc
  | _, _, .mapNil => .mapNil
  | _, _, .map b e r h hr => .map b e r (hρ _ _ h) hr
  | _, _, .func f x y a c hx hy => .func f x y a c (VRs.mono hρ hx) (VRs.mono hρ hy)
  | _, _, .nilFunc => .nilFunc
  | _, _, .iface t v u h => .iface t v u (VR.mono hρ h)
  | _, _, .nilIface => .nilIface
  | _, _, .agg x a h => .agg x a (VRs.mono hρ h)
  | _, _, .tuple x a h => .tuple x a (VRs.mono hρ h)
  | _, _, .yld b e l h hl => .yld b e l (hρ _ _ h) hl
theorem VRs.mono {ρ ρ' : Rho} (hρ : RLe ρ ρ') : ∀ {x : List V} {a : List Value}, VRs ρ x a → VRs ρ' x a
  | _, _, .nil => .nil
  | _, _, .cons v u x a h t => .cons v u x a (VR.mono hρ h) (VRs.mono hρ t)
end

mutual
/-- What names no block beyond n is the same by whatever agrees below n. -/
theorem VR.narrow {ρ ρ' : Rho} {n : Nat} (hρ : ∀ b e, b < n → ρ' b = some e → ρ b = some e) : ∀ {v : V} {u : Value}, VR ρ' v u → v.scopd n = true → VR ρ v u
  | _, _, .bool b, _ => .bool b
  | _, _, .int k n, _ => .int k n
  | _, _, .str s l h, _ => .str s l h
  | _, _, .ptrNil, _ => .ptrNil
  | _, _, .ptr b o e a h ha, hs => .ptr b o e a (hρ _ _ (by simpa [V.scopd] using hs) h) ha
  | _, _, .sliceNil, _ => .sliceNil
  | _, _, .slice b o len cap e a h ha hl, hs => .slice b o len cap e a (hρ _ _ (by simpa [V.scopd] using hs) h) ha hl
  | _, _, .oslice b o len cap sz cap' e a h ha hl hc, hs => .oslice b o len cap sz cap' e a (hρ _ _ (by simpa [V.scopd] using hs) h) ha hl hc
  | _, _, .mapNil, _ => .mapNil
  | _, _, .map b e r h hr, hs => .map b e r (hρ _ _ (by simpa [V.scopd] using hs) h) hr
  | _, _, .func f x y a c hx hy, hs => .func f x y a c
      (VRs.narrow hρ hx (by simp only [V.scopd, Bool.and_eq_true] at hs; exact hs.1)) (VRs.narrow hρ hy (by simp only [V.scopd, Bool.and_eq_true] at hs; exact hs.2))
  | _, _, .nilFunc, _ => .nilFunc
  | _, _, .iface t v u h, hs => .iface t v u (VR.narrow hρ h (by simpa [V.scopd] using hs))
  | _, _, .nilIface, _ => .nilIface
  | _, _, .agg x a h, hs => .agg x a (VRs.narrow hρ h (by simpa [V.scopd] using hs))
  | _, _, .tuple x a h, hs => .tuple x a (VRs.narrow hρ h (by simpa [V.scopd] using hs))
  | _, _, .yld b e l h hl, hs => .yld b e l (hρ _ _ (by simpa [V.scopd] using hs) h) hl
theorem VRs.narrow {ρ ρ' : Rho} {n : Nat} (hρ : ∀ b e, b < n → ρ' b = some e → ρ b = some e) : ∀ {x : List V} {a : List Value}, VRs ρ' x a → V.scopeds n x = true → VRs ρ x a
  | _, _, .nil, _ => .nil
  | _, _, .cons v u x a h t, hs => .cons v u x a
      (VR.narrow hρ h (by simp only [V.scopeds, Bool.and_eq_true] at hs; exact hs.1)) (VRs.narrow hρ t (by simp only [V.scopeds, Bool.and_eq_true] at hs; exact hs.2))
end

mutual
theorem VR.scope {ρ : Rho} {n : Nat} (hρ : ∀ b e, ρ b = some e → b < n) : ∀ {v : V} {u : Value}, VR ρ v u → v.scopd n = true
  | _, _, .bool b => rfl
  | _, _, .int k n => rfl
  | _, _, .str s l h => rfl
  | _, _, .ptrNil => rfl
  | _, _, .ptr b o e a h ha => by simp [V.scopd, hρ _ _ h]
  | _, _, .sliceNil => rfl
  | _, _, .slice b o len cap e a h ha hl => by simp [V.scopd, hρ _ _ h]
  | _, _, .oslice b o len cap sz cap' e a h ha hl hc => by simp [V.scopd, hρ _ _ h]
  | _, _, .mapNil => rfl
  | _, _, .map b e r h hr => by simp [V.scopd, hρ _ _ h]
  | _, _, .func f x y a c hx hy => by simp [V.scopd, VRs.scope hρ hx, VRs.scope hρ hy]
  | _, _, .nilFunc => rfl
  | _, _, .iface t v u h => by simp [V.scopd, VR.scope hρ h]
  | _, _, .nilIface => rfl
  | _, _, .agg x a h => by simp [V.scopd, VRs.scope hρ h]
  | _, _, .tuple x a h => by simp [V.scopd, VRs.scope hρ h]
  | _, _, .yld b e l h hl => by simp [V.scopd, hρ _ _ h]
theorem VRs.scope {ρ : Rho} {n : Nat} (hρ : ∀ b e, ρ b = some e → b < n) : ∀ {x : List V} {a : List Value}, VRs ρ x a → V.scopeds n x = true
  | _, _, .nil => rfl
  | _, _, .cons v u x a h t => by simp [V.scopeds, VR.scope hρ h, VRs.scope hρ t]
end

theorem VRs.length {ρ : Rho} : ∀ {x : List V} {a : List Value}, VRs ρ x a → x.length = a.length
  | _, _, .nil => rfl
  | _, _, .cons v u x a h t => by simp [VRs.length t]
theorem VRs.get {ρ : Rho} : ∀ {x : List V} {a : List Value}, VRs ρ x a → ∀ (i : Nat) (v : V), x[i]? = some v → ∃ u, a[i]? = some u ∧ VR ρ v u
  | _, _, .nil, i, v, h => by simp at h
  | _, _, .cons v u x a h t, 0, v', hv => by simp at hv; subst hv; exact ⟨u, by simp, h⟩
  | _, _, .cons v u x a h t, i + 1, v', hv => by simp at hv; simpa using VRs.get t i v' hv
theorem VRs.of_get {ρ : Rho} : ∀ {x : List V} {a : List Value}, x.length = a.length → (∀ (i : Nat) (v : V), x[i]? = some v → ∃ u, a[i]? = some u ∧ VR ρ v u) → VRs ρ x a
  | [], [], _, _ => .nil
  | [], _ :: _, h, _ => by simp at h
  | _ :: _, [], h, _ => by simp at h
  | v :: x, u :: a, h, hh => by
    obtain ⟨u', hu, hr⟩ := hh 0 v (by simp)
    simp at hu
    subst hu
    refine .cons v u x a hr (VRs.of_get (by simpa using h) fun i w hw => ?_)
    have := hh (i + 1) w (by simpa using hw)
    simpa using this
theorem VRs.append {ρ : Rho} : ∀ {x : List V} {a : List Value} {y : List V} {b : List Value}, VRs ρ x a → VRs ρ y b → VRs ρ (x ++ y) (a ++ b)
  | _, _, _, _, .nil, k => k
  | _, _, _, _, .cons v u x a h t, k => .cons v u _ _ h (VRs.append t k)
theorem VRs.take {ρ : Rho} : ∀ (n : Nat) {x : List V} {a : List Value}, VRs ρ x a → VRs ρ (x.take n) (a.take n)
  | 0, _, _, _ => by simpa using VRs.nil
  | n + 1, _, _, .nil => by simpa using VRs.nil
  | n + 1, _, _, .cons v u x a h t => by simpa using VRs.cons v u _ _ h (VRs.take n t)
theorem VRs.drop {ρ : Rho} : ∀ (n : Nat) {x : List V} {a : List Value}, VRs ρ x a → VRs ρ (x.drop n) (a.drop n)
  | 0, _, _, h => by simpa using h
  | n + 1, _, _, .nil => by simpa using VRs.nil
  | n + 1, _, _, .cons v u x a h t => by simpa using VRs.drop n t

theorem VR.cells {ρ : Rho} {v : V} {u : Value} (h : VR ρ v u) : VRs ρ v.cellsOf u.cells.toList := by
  cases h with
  | agg x a h => simpa [V.cellsOf, Value.cells] using h
  | _ =>
    simp only [V.cellsOf, Value.cells, List.toList_toArray]
    exact .cons _ _ _ _ (by first | constructor <;> assumption | constructor) .nil

theorem VR.one {ρ : Rho} {v : V} {u : Value} (h : VR ρ v u) (hv : v.one = true) : u.oneCell' = true := by
  cases h <;> simp_all [V.one, Value.oneCell']

/-! ### Temporaries -/
/-- Package variables lie where they lie. -/
def Glob (ρ : Rho) : Prop := ∀ g, g < GN → ρ g = some ⟨g, 0, 0⟩
theorem Glob.mono {ρ ρ' : Rho} (h : Glob ρ) (hρ : RLe ρ ρ') : Glob ρ' := fun g hg => hρ g _ (h g hg)

def TMR (ρ : Rho) (nt : Nat) (tm : TM) (a : Array Value) : Prop := (nt ≤ a.size ∧ Glob ρ) ∧ ∀ i v, i ≠ DX → tm.get i = some v → ∃ u, a[i]? = some u ∧ VR ρ v u

theorem TMR.mono {ρ ρ' : Rho} {nt : Nat} {tm : TM} {a : Array Value} (h : TMR ρ nt tm a) (hρ : RLe ρ ρ') : TMR ρ' nt tm a :=
  ⟨⟨h.1.1, h.1.2.mono hρ⟩, fun i v hi hv => let ⟨u, hu, hr⟩ := h.2 i v hi hv; ⟨u, hu, hr.mono hρ⟩⟩

theorem TMR.put {ρ : Rho} {nt : Nat} {tm : TM} {a : Act} (h : TMR ρ nt tm a.tmps) {dst : Option Tmp} (hd : dstOk nt dst = true) {v : V} {u : Value} (hv : VR ρ v u) :
    TMR ρ nt (TM.put tm dst v) (a.put dst u).tmps := by
  cases dst with
  | none => exact h
  | some d =>
    have hd' : d < nt := by simp [dstOk] at hd; exact hd.1
    refine ⟨⟨by simpa [Act.put] using h.1.1, h.1.2⟩, fun i w hi hw => ?_⟩
    simp only [TM.put, TM.get_set] at hw
    by_cases e : i = d
    · subst e
      rw [if_pos rfl] at hw
      cases hw
      exact ⟨u, by simp only [Act.put]; rw [Array.getElem?_setIfInBounds_self_of_lt (Nat.lt_of_lt_of_le hd' h.1.1)], hv⟩
    · rw [if_neg e] at hw
      obtain ⟨u', hu, hr⟩ := h.2 i w hi hw
      exact ⟨u', by simp only [Act.put]; rw [Array.getElem?_setIfInBounds_ne (Ne.symm e)]; exact hu, hr⟩

theorem ofV1_sound {x : Value} {v : V} (ρ : Rho) (h : ofV1 x = some v) : VR ρ v x := by
  unfold ofV1 at h
  split at h <;> cases h <;> first | (exact .str _ _ rfl) | constructor
theorem ofVs_sound (ρ : Rho) : ∀ {x : List Value} {v : List V}, ofVs x = some v → VRs ρ v x
  | [], v, h => by cases h; exact .nil
  | x :: r, v, h => by
    unfold ofVs at h
    split at h
    · rename_i a b ha hb
      cases h
      exact .cons _ _ _ _ (ofV1_sound ρ ha) (ofVs_sound ρ hb)
    · cases h
theorem ofV_sound {x : Value} {v : V} (ρ : Rho) (h : ofV x = some v) : VR ρ v x := by
  unfold ofV at h
  split at h
  · split at h
    · rename_i hb
      cases h
      exact .agg _ _ (ofVs_sound ρ hb)
    · cases h
  · split at h
    · rename_i f a b hh
      cases h
      obtain ⟨h1, h2⟩ := hh
      have ha : a = #[] := by simpa using h1
      have hb : b = #[] := by simpa using h2
      subst ha hb
      exact .func _ _ _ _ _ .nil .nil
    · cases h
  · exact ofV1_sound ρ h

theorem ev_sound {ρ : Rho} {nt : Nat} {tm : TM} {a : Act} (ht : TMR ρ nt tm a.tmps) {x : Operand} {y : Opd} (hc : opdC x = some y) {v : V} (hv : ev tm y = some v) : VR ρ v (a.eval x) := by
  unfold opdC at hc
  split at hc
  · split at hc
    · cases hc
    · rename_i hne
      cases hc
      obtain ⟨u, hu, hr⟩ := ht.2 _ _ hne hv
      simpa [Act.eval, hu] using hr
  · split at hc
    · rename_i w hw
      cases hc
      simp only [ev, Option.some.injEq] at hv
      subst hv
      exact ofV_sound ρ hw
    · cases hc
  · cases hc
    simp only [ev, Option.some.injEq] at hv
    subst hv
    exact .func _ _ _ _ _ .nil .nil
  · split at hc
    · rename_i hg
      cases hc
      simp only [ev, Option.some.injEq] at hv
      subst hv
      exact .ptr _ _ _ _ (ht.1.2 _ hg) rfl
    · cases hc

theorem evs_sound {ρ : Rho} {nt : Nat} {tm : TM} {a : Act} (ht : TMR ρ nt tm a.tmps) : ∀ {x : List Operand} {y : List Opd}, opdsC x = some y → ∀ {v : List V}, evs tm y = some v → VRs ρ v (x.map a.eval)
  | [], y, hc, v, hv => by cases hc; cases hv; exact .nil
  | x :: r, y, hc, v, hv => by
    unfold opdsC at hc
    split at hc
    · rename_i p q hp hq
      cases hc
      unfold evs at hv
      split at hv
      · rename_i s t hs ht'
        cases hv
        exact .cons _ _ _ _ (ev_sound ht hp hs) (evs_sound ht hq ht')
      · cases hv
    · cases hc

/-! ### Memory -/
def CellFacts (ρ : Rho) (w : World) (e : Emb) (cs : List V) : Prop := ∀ i v, cs[i]? = some v → ∃ u, w.cell? (at_ e i) = some u ∧ VR ρ v u

/-- A block of the program's own: how it lies. -/
structure Own (w : World) (e : Emb) (n fz : Nat) (ty : Option Nat) : Prop where
  shape : ∃ c el fr, w.heap[e.blk]? = some (.cells c el fr) ∧ c.size = e.lim ∧ (fr.1 = fr.2 ∨ fr.2 ≤ e.off + fz ∨ (ty = none ∧ e.lim ≤ fr.1)) ∧ ∀ t, ty = some t → el = t ∧ e.off = 0
  room : e.off + n ≤ e.lim

def MR (ρ : Rho) : List (V × V) → List MapEntry → Prop
  | [], [] => True
  | (k, v) :: r, m :: s => VR ρ k m.key ∧ VR ρ v m.val ∧ MR ρ r s
  | _, _ => False

def pendC : Option Ex → Option Code
  | some (.exit id) => some (.exit id)
  | some .ret => some .ret
  | _ => none
/-- A range's record, as the abstract machine has it. -/
structure LoopR (P : Program) (ρ : Rho) (r : Loop) (st : LoopState) (pend : Option Ex) (nt : Nat) (tm : TM) (ps : List Nat) (asg body : AC) : Prop where
  state : r.state = st
  pend : r.pending = pendC pend
  tmr : TMR ρ nt tm r.tmps
  pars : r.params.toList = ps
  psok : ∀ p ∈ ps, dstOk nt (some p) = true
  casg : codeC P nt r.assign = some asg
  cbody : codeC P nt r.body = some body
  nda : asg.noD = true
  ndb : body.noD = true
theorem LoopR.mono {ρ ρ' : Rho} {r : Loop} {st : LoopState} {pend : Option Ex} {nt : Nat} {tm : TM} {ps : List Nat} {asg body : AC} (h : LoopR P ρ r st pend nt tm ps asg body) (hρ : RLe ρ ρ') : LoopR P ρ' r st pend nt tm ps asg body :=
  { h with tmr := h.tmr.mono hρ }

def ORel (P : Program) (B : Nat) (ρ : Rho) (w : World) (e : Emb) : Obj → Prop
  | .cells cs .ro => e.blk < B ∧ CellFacts ρ w e cs
  | .cells cs .sup => CellFacts ρ w e cs
  | .cells cs (.tip _ fz ty) => B ≤ e.blk ∧ CellFacts ρ w e cs ∧ Own w e cs.length fz ty
  | .map es bs cl => B ≤ e.blk ∧ ∃ ces, w.heap[e.blk]? = some (.map ces cl) ∧ MR ρ es ces.toList ∧ bs = ces.toList.map MapEntry.born
  | .loop st pend nt tm ps asg body => B ≤ e.blk ∧ ∃ r, w.heap[e.blk]? = some (.loop r) ∧ LoopR P ρ r st pend nt tm ps asg body
  | .dfr => B ≤ e.blk ∧ w.heap[e.blk]? = some (.deferred (some []))
  | .dead => True

/-- The blocks that may share an object's place, if it may be written to. -/
def Obj.sups : Obj → Option (List Nat)
  | .cells _ (.tip S _ _) => some S
  | .map _ _ _ => some []
  | .loop .. => some []
  | .dfr => some []
  | _ => none
def Obj.len : Obj → Nat
  | .cells cs _ => cs.length
  | _ => 0
def Obj.alive : Obj → Bool
  | .dead => false
  | _ => true

structure Rel (P : Program) (B : Nat) (w0 : World) (ρ : Rho) (h : Heap) (w : World) : Prop where
  dom : ∀ b e, ρ b = some e → b < h.size
  obj : ∀ b e, ρ b = some e → ∃ o, h.get b = some o ∧ ORel P B ρ w e o
  sep : ∀ b b' e e' o o' S, ρ b = some e → ρ b' = some e' → b ≠ b' → h.get b = some o → o.sups = some S → h.get b' = some o' → o'.alive = true → e'.blk = e.blk →
    b' ∈ S ∧ o'.sups = none ∧ e'.off + o'.len ≤ e.off + o.len
  live : ∀ b e o, ρ b = some e → h.get b = some o → o.alive = true → e.blk < w.heap.size
  fresh : ∀ b, h.size ≤ b → h.get b = none
  below : Below B w0 w
  base : B ≤ w.heap.size
  glob : Glob ρ

theorem Rel.congr {B : Nat} {w0 w : World} {ρ : Rho} {h h' : Heap} (r : Rel P B w0 ρ h w) (hs : h'.size = h.size) (hg : ∀ b, h'.get b = h.get b) : Rel P B w0 ρ h' w :=
  ⟨fun b e hb => by rw [hs]; exact r.dom b e hb, fun b e hb => by rw [hg]; exact r.obj b e hb,
   fun b b' e e' o o' S h1 h2 h3 h4 h5 h6 h7 h8 => r.sep b b' e e' o o' S h1 h2 h3 (by rw [← hg]; exact h4) h5 (by rw [← hg]; exact h6) h7 h8,
   fun b e o h1 h2 => r.live b e o h1 (by rw [← hg]; exact h2), fun b hb => by rw [hg]; exact r.fresh b (by omega), r.below, r.base, r.glob⟩

theorem CellFacts.mono {ρ ρ' : Rho} {w : World} {e : Emb} {cs : List V} (h : CellFacts ρ w e cs) (hρ : RLe ρ ρ') : CellFacts ρ' w e cs :=
  fun i v hv => let ⟨u, hu, hr⟩ := h i v hv; ⟨u, hu, hr.mono hρ⟩
theorem MR.mono {ρ ρ' : Rho} (hρ : RLe ρ ρ') : ∀ {x : List (V × V)} {y : List MapEntry}, MR ρ x y → MR ρ' x y
  | [], [], _ => trivial
  | (k, v) :: r, m :: s, h => ⟨h.1.mono hρ, h.2.1.mono hρ, MR.mono hρ h.2.2⟩
  | [], _ :: _, h => h.elim
  | _ :: _, [], h => h.elim
theorem ORel.mono {B : Nat} {ρ ρ' : Rho} {w : World} {e : Emb} {o : Obj} (h : ORel P B ρ w e o) (hρ : RLe ρ ρ') : ORel P B ρ' w e o := by
  cases o with
  | cells cs st => cases st with
    | ro => exact ⟨h.1, h.2.mono hρ⟩
    | tip S fz ty => exact ⟨h.1, h.2.1.mono hρ, h.2.2⟩
    | sup => exact CellFacts.mono h hρ
  | map es bs cl => obtain ⟨h0, ces, h1, h2, h3⟩ := h; exact ⟨h0, ces, h1, h2.mono hρ, h3⟩
  | loop st pend nt tm ps asg body => obtain ⟨h0, r, h1, h2⟩ := h; exact ⟨h0, r, h1, h2.mono hρ⟩
  | dfr => exact h
  | dead => trivial

/-- A world whose old blocks are as they were. -/
theorem cell_of_heap {w w' : World} {a : Addr} (h : w'.heap[a.block]? = w.heap[a.block]?) : w'.cell? a = w.cell? a := by
  unfold World.cell?; rw [h]
theorem CellFacts.heap {ρ : Rho} {w w' : World} {e : Emb} {cs : List V} (h : CellFacts ρ w e cs) (hh : w'.heap[e.blk]? = w.heap[e.blk]?) : CellFacts ρ w' e cs :=
  fun i v hv => let ⟨u, hu, hr⟩ := h i v hv; ⟨u, by rw [cell_of_heap (a := at_ e i) hh]; exact hu, hr⟩
theorem ORel.heap {B : Nat} {ρ : Rho} {w w' : World} {e : Emb} {o : Obj} (h : ORel P B ρ w e o) (hh : w'.heap[e.blk]? = w.heap[e.blk]?) : ORel P B ρ w' e o := by
  cases o with
  | cells cs st => cases st with
    | ro => exact ⟨h.1, h.2.heap hh⟩
    | tip S fz ty =>
      obtain ⟨h1, h2, ⟨c, el, fr, hc, hs, hf⟩, hr⟩ := h
      exact ⟨h1, h2.heap hh, ⟨⟨c, el, fr, hh.trans hc, hs, hf⟩, hr⟩⟩
    | sup => exact CellFacts.heap h hh
  | map es bs cl => obtain ⟨h0, ces, h1, h2, h3⟩ := h; exact ⟨h0, ces, hh.trans h1, h2, h3⟩
  | loop st pend nt tm ps asg body => obtain ⟨h0, r, h1, h2⟩ := h; exact ⟨h0, r, hh.trans h1, h2⟩
  | dfr => exact ⟨h.1, hh.trans h.2⟩
  | dead => trivial

theorem Rel.drew {B : Nat} {w0 w : World} {ρ : Rho} {h : Heap} (r : Rel P B w0 ρ h w) : Rel P B w0 ρ h w.drew :=
  ⟨r.dom, fun b e hb => let ⟨o, h1, h2⟩ := r.obj b e hb; ⟨o, h1, h2.heap rfl⟩, r.sep, r.live, r.fresh, r.below.drew, r.base, r.glob⟩

/-! #### New blocks -/
theorem Rel.push {B : Nat} {w0 w : World} {ρ : Rho} {h : Heap} (r : Rel P B w0 ρ h w) (o : Obj) : Rel P B w0 ρ (h.push o) w := by
  have hg : ∀ b, b < h.size → (h.push o).get b = h.get b := fun b hb => HT.get_set_ne _ _ _ _ (by omega)
  refine ⟨fun b e hb => Nat.lt_succ_of_lt (r.dom b e hb), fun b e hb => ?_, ?_, fun b e o h1 h2 => r.live b e o h1 (by rw [← hg b (r.dom b e h1)]; exact h2), fun b hb => ?_, r.below, r.base, r.glob⟩
  · rw [hg b (r.dom b e hb)]; exact r.obj b e hb
  · intro b b' e e' o1 o2 S h1 h2 h3 h4 h5 h6 h7 h8
    rw [hg b (r.dom b e h1)] at h4
    rw [hg b' (r.dom b' e' h2)] at h6
    exact r.sep b b' e e' o1 o2 S h1 h2 h3 h4 h5 h6 h7 h8
  · have hb' : h.size + 1 ≤ b := hb
    rw [show (h.push o).get b = h.get b from HT.get_set_ne _ _ _ _ (by omega)]
    exact r.fresh b (by omega)

def Rho.with_ (ρ : Rho) (b : Nat) (e : Emb) : Rho := fun x => if x = b then some e else ρ x
theorem with_le {ρ : Rho} {b : Nat} {e : Emb} (h : ρ b = none) : RLe ρ (Rho.with_ ρ b e) := by
  intro x e' hx
  unfold Rho.with_
  by_cases hb : x = b
  · subst hb; rw [h] at hx; cases hx
  · rw [if_neg hb]; exact hx
theorem with_same {ρ : Rho} {b : Nat} {e : Emb} : Rho.with_ ρ b e b = some e := by simp [Rho.with_]

/-- An abstract block that has no place yet is given a new one. -/
theorem Rel.lay {B : Nat} {w0 w : World} {ρ : Rho} {h : Heap} (r : Rel P B w0 ρ h w) {b : Nat} {o : Obj} (hb : ρ b = none) (hlt : b < h.size) (hg : h.get b = some o)
    (ob : Go.Obj) (lim : Nat)
    (hrel : ORel P B (Rho.with_ ρ b ⟨w.heap.size, 0, lim⟩) (w.alloc ob) ⟨w.heap.size, 0, lim⟩ o) :
    Rel P B w0 (Rho.with_ ρ b ⟨w.heap.size, 0, lim⟩) h (w.alloc ob) := by
  have hle : RLe ρ (Rho.with_ ρ b ⟨w.heap.size, 0, lim⟩) := with_le hb
  have old : ∀ {x : Nat} {e : Emb}, Rho.with_ ρ b ⟨w.heap.size, 0, lim⟩ x = some e → x ≠ b → ρ x = some e := by
    intro x e hx hne
    unfold Rho.with_ at hx
    rwa [if_neg hne] at hx
  have new : ∀ {e : Emb}, Rho.with_ ρ b ⟨w.heap.size, 0, lim⟩ b = some e → e = ⟨w.heap.size, 0, lim⟩ := by
    intro e hx
    rw [with_same] at hx
    cases hx; rfl
  have hlive : ∀ b' e' o', ρ b' = some e' → h.get b' = some o' → o'.alive = true → e'.blk ≠ w.heap.size := fun b' e' o' h1 h2 h3 => Nat.ne_of_lt (r.live b' e' o' h1 h2 h3)
  refine ⟨fun x e hx => ?_, fun x e hx => ?_, ?_, fun x e o' h1 h2 h3 => ?_, r.fresh, r.below.alloc r.base ob, by simp; have := r.base; omega, r.glob.mono hle⟩
  · by_cases hne : x = b
    · subst hne; exact hlt
    · exact r.dom x e (old hx hne)
  · by_cases hne : x = b
    · subst hne
      rw [new hx]
      exact ⟨o, hg, hrel⟩
    · obtain ⟨o', h1, h2⟩ := r.obj x e (old hx hne)
      refine ⟨o', h1, ?_⟩
      cases ha : o'.alive with
      | false => cases o' <;> simp_all [Obj.alive]; trivial
      | true =>
        have hn := (hlive x e o' (old hx hne) h1 ha)
        refine (h2.mono hle).heap ?_
        show (w.heap.push ob)[e.blk]? = _
        rw [Array.getElem?_push, if_neg hn]
  · intro x x' e e' o1 o2 S h1 h2 h3 h4 h5 h6 h7 h8
    by_cases hx : x = b
    · subst hx
      have hx' : x' ≠ x := Ne.symm h3
      rw [new h1] at h8
      exact absurd h8 ((hlive x' e' o2 (old h2 hx') h6 h7))
    · by_cases hx' : x' = b
      · subst hx'
        rw [new h2] at h8
        obtain ⟨o3, g1, g2⟩ := r.obj x e (old h1 hx)
        rw [h4] at g1
        cases g1
        have ha : o1.alive = true := by cases o1 <;> simp_all [Obj.alive, Obj.sups]
        exact absurd h8.symm ((hlive x e o1 (old h1 hx) h4 ha))
      · exact r.sep x x' e e' o1 o2 S (old h1 hx) (old h2 hx') h3 h4 h5 h6 h7 h8
  · by_cases hx : x = b
    · subst hx
      rw [new h1]; simp
    · have := r.live x e o' (old h1 hx) h2 h3
      simp; omega
end Abs
end Go.Proofs.YtmgbcaboljilnaaGreatDoor
