/- The abstract machine, run in pieces: a call that Lean's kernel has run in a memory of a few blocks serves as a summary wherever these blocks are as they were there. The abstract machine: arguments that are handed on unread: values of flat types (numbers, texts, a slice among them); a law's run with a summary of its own closed part. -/
import Derived.Test.YtbjpoelgcehidaaGreatDoorA30
import Derived.ChangeArms
import Derived.WideShapes
namespace Go.Proofs.YtbjpoelgcehidaaGreatDoor
namespace Abs
noncomputable section
set_option linter.unusedVariables false
set_option linter.unusedSimpArgs false
open Go.RowKit

/-- A call: its function, its arguments, the memory's size and the blocks that it needs; its answer, the size behind, and the blocks that are needed later. -/
structure Cut where
  f : Nat
  args : List V
  n0 : Nat
  l0 : List (Nat × Obj)
  v : V
  n1 : Nat
  l1 : List (Nat × Obj)

def optB : Option Nat → Option Nat → Bool
  | none, none => true
  | some a, some b => Nat.beq a b
  | _, _ => false
theorem optB_eq : ∀ {a b : Option Nat}, optB a b = true → a = b
  | none, none, _ => rfl
  | some a, some b, h => by rw [Nat.eq_of_beq_eq_true h]
  | none, some _, h => by cases h
  | some _, none, h => by cases h
def natsB : List Nat → List Nat → Bool
  | [], [] => true
  | a :: r, b :: s => Nat.beq a b && natsB r s
  | _, _ => false
theorem natsB_eq : ∀ {a b : List Nat}, natsB a b = true → a = b
  | [], [], _ => rfl
  | a :: r, b :: s, h => by
    simp only [natsB, Bool.and_eq_true] at h
    rw [Nat.eq_of_beq_eq_true h.1, natsB_eq h.2]
  | [], _ :: _, h => by cases h
  | _ :: _, [], h => by cases h
def stB : St → St → Bool
  | .ro, .ro => true
  | .sup, .sup => true
  | .tip S fz ty, .tip S' fz' ty' => natsB S S' && (Nat.beq fz fz' && optB ty ty')
  | _, _ => false
theorem stB_eq : ∀ {a b : St}, stB a b = true → a = b
  | .ro, .ro, _ => rfl
  | .sup, .sup, _ => rfl
  | .tip S fz ty, .tip S' fz' ty', h => by
    simp only [stB, Bool.and_eq_true] at h
    rw [natsB_eq h.1, Nat.eq_of_beq_eq_true h.2.1, optB_eq h.2.2]
  | .ro, .sup, h => by cases h
  | .ro, .tip .., h => by cases h
  | .sup, .ro, h => by cases h
  | .sup, .tip .., h => by cases h
  | .tip .., .ro, h => by cases h
  | .tip .., .sup, h => by cases h
def entsB : List (V × V) → List (V × V) → Bool
  | [], [] => true
  | (a, x) :: r, (b, y) :: s => V.beq a b && (V.beq x y && entsB r s)
  | _, _ => false
theorem entsB_eq : ∀ {a b : List (V × V)}, entsB a b = true → a = b
  | [], [], _ => rfl
  | (a, x) :: r, (b, y) :: s, h => by
    simp only [entsB, Bool.and_eq_true] at h
    rw [V.beq_eq _ _ h.1, V.beq_eq _ _ h.2.1, entsB_eq h.2.2]
  | [], _ :: _, h => by cases h
  | _ :: _, [], h => by cases h
def objB : Obj → Obj → Bool
  | .cells cs st, .cells cs' st' => stB st st' && V.beqs cs cs'
  | .map es bs cl, .map es' bs' cl' => Nat.beq cl cl' && (natsB bs bs' && entsB es es')
  | .dead, .dead => true
  | _, _ => false
theorem objB_eq : ∀ {a b : Obj}, objB a b = true → a = b
  | .cells cs st, .cells cs' st', h => by
    simp only [objB, Bool.and_eq_true] at h
    rw [stB_eq h.1, V.beqs_eq _ _ h.2]
  | .map es bs cl, .map es' bs' cl', h => by
    simp only [objB, Bool.and_eq_true] at h
    rw [Nat.eq_of_beq_eq_true h.1, natsB_eq h.2.1, entsB_eq h.2.2]
  | .dead, .dead, _ => rfl
  | .cells .., .map .., h | .cells .., .loop .., h | .cells .., .dfr, h | .cells .., .dead, h | .cells .., .iter .., h => by cases h
  | .map .., .cells .., h | .map .., .loop .., h | .map .., .dfr, h | .map .., .dead, h | .map .., .iter .., h => by cases h
  | .loop .., _, h => by cases h
  | .dfr, _, h => by cases h
  | .iter .., _, h => by cases h
  | .dead, .cells .., h | .dead, .map .., h | .dead, .loop .., h | .dead, .dfr, h | .dead, .iter .., h => by cases h

def litT (n : Nat) : List (Nat × Obj) → HT
  | [] => deadT n
  | (b, o) :: r => (litT n r).set b o
/-- A memory of so many blocks, of which these are known. -/
def litH (n : Nat) (l : List (Nat × Obj)) : Heap := ⟨litT n l, n, 0⟩
def subL : List (Nat × Obj) → Heap → Bool
  | [], _ => true
  | (b, o) :: r, h => match h.get b with
    | some o' => objB o o' && subL r h
    | none => false

theorem lit_get (n : Nat) : ∀ (l : List (Nat × Obj)) (b : Nat), (litH n l).get b = (if b < n then some .dead else none) ∨ ∃ p ∈ l, p.1 = b ∧ (litH n l).get b = some p.2
  | [], b => .inl (deadT_get n b)
  | (x, o) :: r, b => by
    have e : (litH n ((x, o) :: r)).get b = if b = x then some o else (litH n r).get b := HT.get_set _ _ _ _
    rw [e]
    by_cases hb : b = x
    · rw [if_pos hb]; exact .inr ⟨(x, o), List.mem_cons_self, hb.symm, rfl⟩
    · rw [if_neg hb]
      rcases lit_get n r b with q | ⟨p, q1, q2, q3⟩
      · exact .inl q
      · exact .inr ⟨p, List.mem_cons_of_mem _ q1, q2, q3⟩
theorem subL_mem : ∀ {l : List (Nat × Obj)} {h : Heap}, subL l h = true → ∀ p ∈ l, h.get p.1 = some p.2
  | (b, o) :: r, h, hs, p, hp => by
    unfold subL at hs
    split at hs
    · rename_i o' hg
      simp only [Bool.and_eq_true] at hs
      rcases List.mem_cons.1 hp with rfl | hp
      · rw [hg, objB_eq hs.1]
      · exact subL_mem hs.2 p hp
    · cases hs
  | [], _, _, _, hp => by cases hp

section
variable {P : Program} {B : Nat} {w0 : World}

/-- What is forgotten makes nothing false. -/
theorem Rel.pruned {ρ : Rho} {h : Heap} {w : World} (r : Rel P B w0 ρ h w) {n : Nat} {l : List (Nat × Obj)} (hs : h.size = n) (hl : subL l h = true) : Rel P B w0 ρ (litH n l) w := by
  have look : ∀ b o, (litH n l).get b = some o → o ≠ .dead → h.get b = some o := by
    intro b o hq hd
    rcases lit_get n l b with q | ⟨p, q1, rfl, q3⟩
    · rw [hq] at q
      split at q
      · cases q; exact absurd rfl hd
      · cases q
    · rw [hq] at q3; cases q3
      exact subL_mem hl p q1
  have alive : ∀ o : Obj, o.alive = true → o ≠ .dead := by rintro o ha rfl; cases ha
  have sups : ∀ (o : Obj) S, o.sups = some S → o ≠ .dead := by rintro o S ha rfl; cases ha
  refine ⟨fun b e hb => by show b < n; rw [← hs]; exact r.dom b e hb, fun b e hb => ?_, ?_, ?_, ?_, r.below, r.base, r.glob⟩
  · have hlt := r.dom b e hb
    rcases lit_get n l b with q | ⟨p, q1, rfl, q3⟩
    · rw [if_pos (by omega)] at q
      exact ⟨_, q, trivial⟩
    · obtain ⟨o, g1, g2⟩ := r.obj _ e hb
      rw [subL_mem hl p q1] at g1
      cases g1
      exact ⟨_, q3, g2⟩
  · intro b b' e e' o o' S h1 h2 h3 h4 h5 h6 h7 h8
    exact r.sep b b' e e' o o' S h1 h2 h3 (look b o h4 (sups o S h5)) h5 (look b' o' h6 (alive o' h7)) h7 h8
  · intro b e o h1 h2 h3
    exact r.live b e o h1 (look b o h2 (alive o h3)) h3
  · intro b hb
    have hb : n ≤ b := hb
    rcases lit_get n l b with q | ⟨p, q1, rfl, q3⟩
    · rw [q, if_neg (by omega)]
    · have := subL_mem hl p q1
      rw [r.fresh _ (by omega)] at this
      cases this

/-- The kernel has run a call, and it came to what is told. -/
def cutOk (C : Cfg) (n : Nat) (c : Cut) : Bool := match (fast C n).1 (.fn c.f) c.args (litH c.n0 c.l0) with
  | some (v, h) => Nat.ble c.n0 c.n1 && (V.beq v c.v && (Nat.beq h.size c.n1 && subL c.l1 h))
  | none => false
def cutAt (c : Cut) (f : Nat) (args : List V) (h : Heap) : Bool := Nat.beq f c.f && (Nat.beq h.size c.n0 && (V.beqs args c.args && subL c.l0 h))
def cutsAt : List Cut → Nat → List V → Heap → Option (V × Heap)
  | [], _, _, _ => none
  | c :: r, f, args, h => match cutAt c f args h with
    | true => some (c.v, litH c.n1 c.l1)
    | false => cutsAt r f args h
def sumCut (S : Nat → List V → Heap → Option (Option (V × Heap))) (l : List Cut) (f : Nat) (args : List V) (h : Heap) : Option (Option (V × Heap)) := match cutsAt l f args h with
  | some x => some (some x)
  | none => S f args h

def CutSnd (P : Program) (B : Nat) (w0 : World) (c : Cut) : Prop := c.n0 ≤ c.n1 ∧ ∀ h, h.size = c.n0 → subL c.l0 h = true → ∀ (ρ : Rho) (w : World) (us : Array Value), Rel P B w0 ρ h w → VRs ρ c.args us.toList → CallSnd P B w0 ρ c.f us w h c.v (litH c.n1 c.l1)

theorem cut_snd {C : Cfg} (hT : TableOk P C) (hS : SumOk P B w0 C) {n : Nat} {c : Cut} (hk : cutOk C n c = true) : CutSnd P B w0 c := by
  unfold cutOk at hk
  rw [fast_eq] at hk
  split at hk
  · rename_i v h1 hx
    simp only [Bool.and_eq_true] at hk
    obtain ⟨k1, k2, k3, k4⟩ := hk
    obtain rfl := V.beq_eq _ _ k2
    refine ⟨Nat.le_of_ble_eq_true k1, fun h hz hl ρ w us r hr => ?_⟩
    have snd := (run_sound hT hS n).1.fn _ _ _ _ _ hx ρ w us (r.pruned hz hl) hr
    have conv : ∀ u w', Ret P B w0 ρ (litH c.n0 c.l0).size c.v h1 u w' → Ret P B w0 ρ h.size c.v (litH c.n1 c.l1) u w' := by
      rintro u w' ⟨ρ', q1, q2, q3⟩
      exact ⟨ρ', q1, q2.pruned (Nat.eq_of_beq_eq_true k3) k4, by rw [hz]; exact q3⟩
    rcases snd with ⟨q1, q2⟩ | ⟨u, w', q1, q2⟩
    · refine .inl ⟨q1, fun m => ?_⟩
      obtain ⟨g1, g2⟩ := q2 m
      refine ⟨g1, fun cs hcs => ?_⟩
      obtain ⟨e, w', fr, q3, q4, q5, q6⟩ := g2 cs hcs
      refine ⟨e, w', fr, ?_, q4, q5, q6⟩
      cases e with
      | returned u => exact conv u w' q3
      | panicked c => exact q3.elim
      | outgrown => exact q3.elim
    · exact .inr ⟨u, w', q1, conv u w' q2⟩
  · cases hk

theorem cutsAt_mem : ∀ {l : List Cut} {f : Nat} {args : List V} {h : Heap} {x : V × Heap}, cutsAt l f args h = some x → ∃ c ∈ l, cutAt c f args h = true ∧ x = (c.v, litH c.n1 c.l1)
  | c :: r, f, args, h, x, hx => by
    unfold cutsAt at hx
    split at hx
    · rename_i ha; cases hx; exact ⟨c, List.mem_cons_self, ha, rfl⟩
    · obtain ⟨d, q1, q2⟩ := cutsAt_mem hx
      exact ⟨d, List.mem_cons_of_mem _ q1, q2⟩
  | [], _, _, _, _, hx => by cases hx

/-- The machine with these calls as summaries. -/
def Cfg.cuts (C : Cfg) (l : List Cut) : Cfg := { C with S := sumCut C.S l }
theorem cuts_ok {C : Cfg} {l : List Cut} (hS : SumOk P B w0 C) (hl : ∀ c ∈ l, CutSnd P B w0 c) : SumOk P B w0 (C.cuts l) := by
  intro f args h v h' hx
  replace hx : sumCut C.S l f args h = some (some (v, h')) := hx
  unfold sumCut at hx
  split at hx
  · rename_i x hc
    cases hx
    obtain ⟨c, q1, q2, q3⟩ := cutsAt_mem hc
    cases q3
    unfold cutAt at q2
    simp only [Bool.and_eq_true] at q2
    obtain ⟨k1, k2, k3, k4⟩ := q2
    obtain rfl := Nat.eq_of_beq_eq_true k1
    obtain rfl := V.beqs_eq _ _ k3
    have hz := Nat.eq_of_beq_eq_true k2
    obtain ⟨g1, g2⟩ := hl c q1
    exact ⟨⟨by rw [hz]; exact g1, Nat.zero_le _, fun b hb _ => absurd hb (Nat.not_lt_zero b)⟩, g2 h hz k4⟩
  · exact hS f args h v h' hx
theorem cuts_tab {C : Cfg} {l : List Cut} (hT : TableOk P C) : TableOk P (C.cuts l) := ⟨hT.tab, hT.idle⟩
end
/-- Bytes out of one number. -/
def nb : Nat → Nat → List Nat
  | 0, _ => []
  | n + 1, x => Nat.mod x 256 :: nb n (Nat.div x 256)
/-- So many empty texts ahead of what follows. -/
def eN : Nat → List V → List V
  | 0, l => l
  | n + 1, l => .str [] :: eN n l
end
end Abs
end Go.Proofs.YtbjpoelgcehidaaGreatDoor
namespace Go.Proofs.YtbjpoelgcehidaaGreatDoor
namespace Abs
noncomputable section
set_option linter.unusedVariables false
set_option linter.unusedSimpArgs false
open Go.RowKit Go.ChangeShapes Go.WideShapes

inductive Kd where
  | bool
  | int (k : IntKind)
  | str
  | sl
def flatF (P : Program) (g : TypeId → Option (List Kd)) : Nat → List Field → Option (List Kd)
  | _, [] => some []
  | off, f :: r => match g f.type with
    | some ks => if f.offset = off ∧ P.cellsOf f.type = ks.length then match flatF P g (off + ks.length) r with
        | some l => some (ks ++ l)
        | none => none
      else none
    | none => none
/-- The kinds of a flat type's cells. -/
def flatK (P : Program) : Nat → TypeId → Option (List Kd)
  | 0, _ => none
  | n + 1, t => match P.underlying t with
    | some .bool => some [.bool]
    | some (.int k) => some [.int k]
    | some .string => some [.str]
    | some (.slice e) => if P.cellsOf e ≠ 0 then some [.sl] else none
    | some (.struct fs) => match flatF P (flatK P n) 0 fs.toList with
      | some l => if P.cellsOf t = l.length then some l else none
      | none => none
    | _ => none

def Kd.fit : Kd → Value → Prop
  | .bool, u => ∃ b, u = .bool b
  | .int k, u => ∃ n, u = .int k n
  | .str, u => ∃ s, u = .string s
  | .sl, u => u = .slice none 0 0 ∨ ∃ a len cap, u = .slice (some a) len cap ∧ len ≤ cap ∧ (cap ≠ 0 → a.spot = none)
/-- What the machine has in its place. -/
def Kd.like : Kd → V → Prop
  | .bool, v => ∃ b, v = .bool b
  | .int k, v => ∃ n, v = .int k n
  | .str, v => ∃ s, v = .str s
  | .sl, v => v = .slice none 0 0 ∨ ∃ n c, v = .slice (some (GN, 0)) n c
inductive Fits : List Kd → List Value → Prop where
  | nil : Fits [] []
  | cons (k : Kd) (u : Value) (ks : List Kd) (us : List Value) (h : k.fit u) (t : Fits ks us) : Fits (k :: ks) (u :: us)
inductive Likes : List Kd → List V → Prop where
  | nil : Likes [] []
  | cons (k : Kd) (v : V) (ks : List Kd) (vs : List V) (h : k.like v) (t : Likes ks vs) : Likes (k :: ks) (v :: vs)
theorem Fits.append : ∀ {a b : List Kd} {x y : List Value}, Fits a x → Fits b y → Fits (a ++ b) (x ++ y)
  | _, _, _, _, .nil, h => h
  | _, _, _, _, .cons k u ks us q t, h => .cons k u _ _ q (Fits.append t h)
theorem Fits.length : ∀ {a : List Kd} {x : List Value}, Fits a x → a.length = x.length
  | _, _, .nil => rfl
  | _, _, .cons _ _ _ _ _ t => by simp [Fits.length t]

section
variable {H : Type} {enc : TypeId × Value → H} {P : Program} {w : World} {held : Bool}

theorem cells_headF {a : Addr} {sz : Nat} (hsz : sz ≠ 0) {cs : List Value} (h : w.cells? 0 a sz = some cs) : a.block < w.heap.size ∧ a.spot = none := by
  obtain ⟨_, hl, hc⟩ := World.cells?_some h
  have := hc 0 (by omega)
  rw [List.getElem?_eq_getElem (by omega)] at this
  have h0 : a.add 0 = a := rfl
  rw [h0] at this
  unfold World.cell? at this
  split at this
  · rename_i c _ _ q
    refine ⟨(Array.getElem?_eq_some_iff.1 q).1, ?_⟩
    cases hs : a.spot with
    | none => rfl
    | some s => rw [hs] at this; simp at this
  · cases this

theorem slice_spot {t e : TypeId} (ht : P.underlying t = some (.slice e)) (hsz : P.cellsOf e ≠ 0) {fuel : Nat} {cs : List Value} {y : DataW H × List MemPlace} (hd : DataW.trod enc P w 0 (fun _ => true) held fuel t cs = some y) : Fits [.sl] cs := by
  rcases DataW.trod_slice ht hd with ⟨h0, _⟩ | ⟨a, len, cap, elems, rest, n, _, h0, _, _, hl, hm, hlen, he, hrest, _⟩
  · subst h0
    exact .cons _ _ _ _ (.inl rfl) .nil
  subst h0
  refine .cons _ _ _ _ (.inr ⟨a, len, cap, rfl, hl, fun hcap => ?_⟩) .nil
  by_cases hl0 : len = 0
  · obtain ⟨q1, q2⟩ := hrest rfl
    have := q2 0 (by omega)
    rw [List.getElem?_eq_getElem (by omega), Option.bind_eq_some_iff] at this
    obtain ⟨cs, g1, _⟩ := this
    subst hl0
    simp only [Nat.zero_add, Nat.zero_mul] at g1
    exact (cells_headF hsz g1).2
  · have := he 0 (by omega)
    rw [List.getElem?_eq_getElem (by omega), Option.bind_eq_some_iff] at this
    obtain ⟨cs, g1, _⟩ := this
    simp only [Nat.zero_mul] at g1
    exact (cells_headF hsz g1).2

theorem fields_fit {g : TypeId → Option (List Kd)} {n : Nat} (hg : ∀ t ks cs y, g t = some ks → DataW.trod enc P w 0 (fun _ => true) held n t cs = some y → Fits ks cs) (cs : List Value) :
    ∀ (fs : List Field) (off : Nat) (l : List Kd), flatF P g off fs = some l → cs.length = off + l.length → (∀ f ∈ fs, ∃ y, DataW.trod enc P w 0 (fun _ => true) held n f.type ((cs.drop f.offset).take (P.cellsOf f.type)) = some y) → Fits l (cs.drop off)
  | [], off, l, hf, hl, _ => by
    cases hf
    rw [List.drop_eq_nil_of_le (by simp at hl; omega)]
    exact .nil
  | f :: r, off, l, hf, hl, hy => by
    unfold flatF at hf
    split at hf
    · rename_i ks hk
      split at hf
      · rename_i hc
        split at hf
        · rename_i l2 h2
          cases hf
          obtain ⟨y, q⟩ := hy f List.mem_cons_self
          have f1 := hg _ _ _ _ hk q
          have f2 := fields_fit hg cs r (off + ks.length) l2 h2 (by rw [hl, List.length_append]; omega) (fun f' hf' => hy f' (List.mem_cons_of_mem _ hf'))
          have e : cs.drop off = (cs.drop f.offset).take (P.cellsOf f.type) ++ cs.drop (off + ks.length) := by
            rw [hc.1, hc.2, ← List.drop_drop, List.take_append_drop]
          rw [e]
          exact f1.append f2
        · cases hf
      · cases hf
    · cases hf

theorem flat_fit : ∀ (n : Nat) (fuel : Nat) (t : TypeId) (ks : List Kd) (cs : List Value) (y : DataW H × List MemPlace), flatK P n t = some ks → DataW.trod enc P w 0 (fun _ => true) held fuel t cs = some y → Fits ks cs
  | 0, _, _, _, _, _, h, _ => by cases h
  | n + 1, fuel, t, ks, cs, y, h, hd => by
    unfold flatK at h
    split at h
    · rename_i hu; cases h; obtain ⟨b, rfl, _⟩ := DataW.trod_bool hu hd; exact .cons _ _ _ _ ⟨b, rfl⟩ .nil
    · rename_i k hu; cases h; obtain ⟨b, rfl, _⟩ := DataW.trod_int hu hd; exact .cons _ _ _ _ ⟨b, rfl⟩ .nil
    · rename_i hu; cases h; obtain ⟨b, rfl, _⟩ := DataW.trod_string hu hd; exact .cons _ _ _ _ ⟨b, rfl⟩ .nil
    · rename_i e hu
      split at h
      · rename_i hc; cases h; exact slice_spot hu hc hd
      · cases h
    · rename_i fs hu
      split at h
      · rename_i l hl
        split at h
        · rename_i hc
          cases h
          obtain ⟨xs, m, _, _, hlen, hx, hf⟩ := DataW.trod_struct hu hd
          have := fields_fit (fun t ks cs y q1 q2 => flat_fit n m t ks cs y q1 q2) cs fs.toList 0 _ hl (by rw [hlen, hc, Nat.zero_add]) (fun f hfm => by
            obtain ⟨i, hi⟩ := List.mem_iff_getElem?.1 hfm
            have hi' : fs[i]? = some f := by rw [← hi]; simp
            have q := hf i f hi'
            have hlt : i < xs.length := by rw [hx]; exact (Array.getElem?_eq_some_iff.1 hi').1
            exact ⟨_, q.trans (List.getElem?_eq_getElem hlt)⟩)
          simpa using this
        · cases h
      · cases h
    · cases h

/-- Arguments, opened. -/
theorem arg_agg {t : TypeId} {fs : Array Field} {ks : List Kd} (n : Nat) {v : Value} {r : Reach} {b0 : Nat} {d : DataW H} {p : List MemPlace} (ht : P.underlying t = some (.struct fs)) (hk : flatK P n t = some ks) (hval : Value.okWide P w r b0 t v)
    (h : DataW.Trod enc P w 0 (fun _ => true) held t v d p) : ∃ cs : Array Value, v = .agg cs ∧ Fits ks cs.toList := by
  obtain ⟨cs, rfl, _⟩ := okWide_struct ht hval
  obtain ⟨fuel, hf⟩ := h
  exact ⟨cs, rfl, flat_fit n fuel t ks cs.toList _ hk hf⟩
theorem arg_str {t : TypeId} {v : Value} {r : Reach} {b0 : Nat} (ht : P.underlying t = some .string) (hval : Value.okWide P w r b0 t v) : Fits [.str] [v] := by
  obtain ⟨s, rfl⟩ := okWide_string ht hval
  exact .cons _ _ _ _ ⟨s, rfl⟩ .nil
theorem arg_int {t : TypeId} {k : IntKind} {v : Value} {r : Reach} {b0 : Nat} (ht : P.underlying t = some (.int k)) (hval : Value.okWide P w r b0 t v) : Fits [.int k] [v] := by
  obtain ⟨s, rfl⟩ := okWide_int ht hval
  exact .cons _ _ _ _ ⟨s, rfl⟩ .nil
theorem arg_sl {t e : TypeId} {v : Value} {r : Reach} {b0 : Nat} {d : DataW H} {p : List MemPlace} (ht : P.underlying t = some (.slice e)) (hsz : P.cellsOf e ≠ 0) (hval : Value.okWide P w r b0 t v)
    (h : DataW.Trod enc P w 0 (fun _ => true) held t v d p) : Fits [.sl] [v] := by
  obtain ⟨a, len, cap, rfl⟩ := okWide_slice ht hval
  obtain ⟨fuel, hf⟩ := h
  exact slice_spot ht hsz hf

/-- How many slices. -/
def nsl : List Kd → Nat
  | [] => 0
  | .sl :: r => nsl r + 1
  | _ :: r => nsl r
/-- A dead block stands for wherever the one slice lies. -/
theorem flat_like : ∀ {ks : List Kd} {us : List Value}, Fits ks us → nsl ks ≤ 1 → ∃ e : Emb, ∀ (ρ : Rho), ((nsl ks = 0) ∨ ρ GN = some e) → ∃ vs, Likes ks vs ∧ VRs ρ vs us
  | _, _, .nil, _ => ⟨⟨0, 0, 0⟩, fun ρ _ => ⟨[], .nil, .nil⟩⟩
  | _, _, .cons k u ks us hk ht, hn => by
    cases k with
    | bool =>
      obtain ⟨e, h⟩ := flat_like ht hn
      obtain ⟨b, rfl⟩ := hk
      exact ⟨e, fun ρ hρ => let ⟨vs, q1, q2⟩ := h ρ hρ; ⟨.bool b :: vs, .cons _ _ _ _ ⟨b, rfl⟩ q1, .cons _ _ _ _ (.bool b) q2⟩⟩
    | int kk =>
      obtain ⟨e, h⟩ := flat_like ht hn
      obtain ⟨b, rfl⟩ := hk
      exact ⟨e, fun ρ hρ => let ⟨vs, q1, q2⟩ := h ρ hρ; ⟨.int kk b :: vs, .cons _ _ _ _ ⟨b, rfl⟩ q1, .cons _ _ _ _ (.int kk b) q2⟩⟩
    | str =>
      obtain ⟨e, h⟩ := flat_like ht hn
      obtain ⟨b, rfl⟩ := hk
      exact ⟨e, fun ρ hρ => let ⟨vs, q1, q2⟩ := h ρ hρ; ⟨.str (strOf b) :: vs, .cons _ _ _ _ ⟨_, rfl⟩ q1, .cons _ _ _ _ (.str b _ rfl) q2⟩⟩
    | sl =>
      have hn0 : nsl ks = 0 := by simp only [nsl] at hn; omega
      obtain ⟨e0, h⟩ := flat_like ht (by omega)
      rcases hk with rfl | ⟨a, len, cap, rfl, hl, hsp⟩
      · exact ⟨e0, fun ρ _ => let ⟨vs, q1, q2⟩ := h ρ (.inl hn0); ⟨.slice none 0 0 :: vs, .cons _ _ _ _ (.inl rfl) q1, .cons _ _ _ _ .sliceNil q2⟩⟩
      · refine ⟨⟨a.block, a.off, 0⟩, fun ρ hρ => ?_⟩
        obtain ⟨vs, q1, q2⟩ := h ρ (.inl hn0)
        have hρ : ρ GN = some ⟨a.block, a.off, 0⟩ := hρ.resolve_left (by simp [nsl])
        refine ⟨.slice (some (GN, 0)) len cap :: vs, .cons _ _ _ _ (.inr ⟨_, _, rfl⟩) q1, .cons _ _ _ _ (.slice GN 0 len cap _ a hρ (fun hc => ?_) hl) q2⟩
        have := hsp hc
        cases a; simp only at this; subst this; rfl
end

section
variable {P : Program} {B : Nat} {w0 : World}
theorem Rel.deadEmb {ρ : Rho} {h : Heap} {w : World} (r : Rel P B w0 ρ h w) {b : Nat} (hb : ρ b = none) (hlt : b < h.size) (hg : h.get b = some .dead) (e : Emb) : Rel P B w0 (Rho.with_ ρ b e) h w := by
  have hle : RLe ρ (Rho.with_ ρ b e) := with_le hb
  have old : ∀ {x : Nat} {e' : Emb}, Rho.with_ ρ b e x = some e' → x ≠ b → ρ x = some e' := by
    intro x e' hx hne
    unfold Rho.with_ at hx
    rwa [if_neg hne] at hx
  refine ⟨fun x e' hx => ?_, fun x e' hx => ?_, ?_, fun x e' o h1 h2 h3 => ?_, r.fresh, r.below, r.base, r.glob.mono hle⟩
  · by_cases hne : x = b
    · subst hne; exact hlt
    · exact r.dom x e' (old hx hne)
  · by_cases hne : x = b
    · subst hne; exact ⟨.dead, hg, trivial⟩
    · obtain ⟨o, q1, q2⟩ := r.obj x e' (old hx hne)
      exact ⟨o, q1, q2.mono hle⟩
  · intro x x' e1 e2 o1 o2 S h1 h2 h3 h4 h5 h6 h7 h8
    have n1 : x ≠ b := by rintro rfl; rw [hg] at h4; cases h4; cases h5
    have n2 : x' ≠ b := by rintro rfl; rw [hg] at h6; cases h6; cases h7
    exact r.sep x x' e1 e2 o1 o2 S (old h1 n1) (old h2 n2) h3 h4 h5 h6 h7 h8
  · have n1 : x ≠ b := by rintro rfl; rw [hg] at h2; cases h2; cases h3
    exact r.live x e' o (old h1 n1) h2 h3
/-- The memory of the variables, with a block of which nothing is known behind them. -/
theorem rel_baseD (l : List (Nat × List V)) (hl : ∀ p ∈ l, p.1 < GN) (w : World) (hw : GW l w) (e : Emb) : Rel P w.heap.size w (Rho.with_ rhoG GN e) ((baseH l).push .dead) w := by
  refine ((rel_base l hl w hw).push .dead).deadEmb ?_ ?_ ?_ e
  · unfold rhoG; rw [if_neg (Nat.lt_irrefl _)]
  · show GN < (baseH l).size + 1
    exact Nat.lt_succ_self _
  · rw [Heap.get_push]; exact if_pos rfl

/-! ### A closed part as a summary -/
def glB (l : List (Nat × List V)) (h : Heap) : Bool := (List.range GN).all fun g => match h.get g, (baseH l).get g with
  | some a, some b => objB a b
  | _, _ => false
theorem glB_gl {l : List (Nat × List V)} {h : Heap} (hb : glB l h = true) : Gl l h := by
  intro g hg
  have := List.all_eq_true.1 hb g (List.mem_range.2 hg)
  split at this
  · rename_i a b q1 q2
    rw [q1, q2, objB_eq this]
  · cases this
def sumLive (l : List (Nat × List V)) (live : Nat) (S : Nat → List V → Heap → Option (Option (V × Heap))) (f : Nat) (args : List V) (h : Heap) : Option (Option (V × Heap)) :=
  match Nat.beq f live with
  | true => match args with
    | [] => match glB l h with
      | true => some (some (.bool true, h))
      | false => some none
    | _ => some none
  | false => S f args h
def isT : Option (V × Heap) → Bool
  | some (.bool b, _) => b
  | _ => false
theorem isT_eq {r : Option (V × Heap)} (h : isT r = true) : ∃ h1, r = some (.bool true, h1) := by
  unfold isT at h
  split at h
  · subst h; exact ⟨_, rfl⟩
  · cases h
theorem live_ok {C C2 : Cfg} {l : List (Nat × List V)} {live n : Nat} (hl : ∀ p ∈ l, p.1 < GN) (hc : ∀ p ∈ l, V.scopeds 0 p.2 = true) (hn : ∀ p ∈ l, (baseH l).get p.1 = some (.cells p.2 .ro)) (hT : TableOk P C) (hS : ∀ B w0, SumOk P B w0 C)
    (hS2 : ∀ B w0, SumOk P B w0 C2) (hx : isT ((fast C n).1 (.fn live) [] (baseH l)) = true) : ∀ B w0, SumOk P B w0 { C2 with S := sumLive l live C2.S } := by
  intro B w0 f args h v h' hs
  replace hs : sumLive l live C2.S f args h = some (some (v, h')) := hs
  unfold sumLive at hs
  split at hs
  · rename_i hf
    obtain rfl := Nat.eq_of_beq_eq_true hf
    split at hs
    · split at hs
      · rename_i hg
        cases hs
        refine ⟨HM.refl h, fun ρ w us r hr => ?_⟩
        rw [fast_eq] at hx
        obtain ⟨h1, hx⟩ := isT_eq hx
        exact frame_call l hl hc hn hT hS hx rfl rfl r (glB_gl hg) hr
      · cases hs
    · cases hs
  · exact hS2 B w0 f args h v h' hs
/-- A law that the machine runs, its arguments handed on unread. -/
theorem law_runs {C : Cfg} (hT : TableOk P C) (hS : ∀ B w0, SumOk P B w0 C) {l : List (Nat × List V)} (hl : ∀ p ∈ l, p.1 < GN) {n : Nat} {f : FuncId} {fn : Func} (hf : P.funcs[f]? = some fn) (hb : fn.body.isSome = true) (hnm : (fn.name == "runtime.NumGoroutine") = false)
    {args : List V} (hx : isT ((fast C n).1 (.fn f) args ((baseH l).push .dead)) = true) {w : World} {us : Array Value} (hG : GW l w) {e : Emb} (hr : VRs (Rho.with_ rhoG GN e) args us.toList) :
    Calls P f us w fun e w' => e = .returned (.bool true) ∧ Below w.heap.size w w' := by
  rw [fast_eq] at hx
  obtain ⟨h1, hx⟩ := isT_eq hx
  exact law_calls hT hS hf hb hnm hx (rel_baseD l hl w hG e) hr
end
end
end Abs
end Go.Proofs.YtbjpoelgcehidaaGreatDoor
