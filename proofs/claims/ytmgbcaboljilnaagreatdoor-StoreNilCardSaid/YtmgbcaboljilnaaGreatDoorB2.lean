/- A digest's words: arrays in blocks of a call's own; what one block of 64 bytes does to eight words, as a Lean function. -/
import Derived.Test.YtmgbcaboljilnaaGreatDoorB1
namespace Go.Proofs.YtmgbcaboljilnaaGreatDoor
namespace Abs
set_option linter.unusedVariables false
set_option linter.unusedSimpArgs false
open Go.RowKit
attribute [local irreducible] WO WC WD StepK Ans Does Runs DoesD

/-- An array of words in a block of the call's own. -/
def AW (n : Nat) (h : Heap) (b : Nat) (cs : List Int) : Prop := n ≤ b ∧ h.get b = some (.cells (cs.map uv) (.tip [] 0 none))
theorem uv_one (l : List Int) : (l.map uv).all V.one = true := by
  rw [List.all_eq_true]; intro v hv
  obtain ⟨x, _, rfl⟩ := List.mem_map.1 hv
  rfl
theorem AW.rd {n : Nat} {h : Heap} {b : Nat} {cs : List Int} (a : AW n h b cs) {i : Nat} (hi : i < cs.length) : h.rd b i = some (uv (cs.getD i 0)) := by
  rw [rd_cell a.2, List.getElem?_map, List.getD_eq_getElem?_getD, List.getElem?_eq_getElem hi]; rfl
theorem AW.rds {n : Nat} {h : Heap} {b : Nat} {cs : List Int} (a : AW n h b cs) {k : Nat} (hk : cs.length = k) : h.rds b 0 k = some (cs.map uv) := rds_all a.2 (by simpa using hk)
theorem AW.grow {n : Nat} {h h' : Heap} {b : Nat} {cs : List Int} (a : AW n h b cs) (g : Grow h h') : AW n h' b cs := ⟨a.1, g.ext _ _ a.2⟩
theorem AW.other {n : Nat} {h h' : Heap} {b c : Nat} {cs : List Int} (a : AW n h b cs) (hc : b ≠ c) (hg : ∀ x, x ≠ c → h'.get x = h.get x) : AW n h' b cs := ⟨a.1, by rw [hg b hc]; exact a.2⟩
/-- One word is written. -/
theorem AW.store {h0 h : Heap} {b : Nat} {cs : List Int} (hw : Wf h0) (g : Grow h0 h) (a : AW h0.size h b cs) {i : Nat} (hi : i < cs.length) (x : Int) :
    ∃ h', h.wr b i [uv x] = some h' ∧ AW h0.size h' b (cs.set i x) ∧ Grow h0 h' ∧ ∀ c, c ≠ b → h'.get c = h.get c := by
  refine ⟨_, wr_cell a.2 (by simpa using hi) rfl, ⟨a.1, ?_⟩, g.put a.1 (Wf.lt g.wf a.2) hw _, fun c hc => by rw [get_put, if_neg hc]⟩
  rw [get_put, if_pos rfl, List.map_set]
/-- All words are written. -/
theorem AW.storeAll {h0 h : Heap} {b : Nat} {cs : List Int} (hw : Wf h0) (g : Grow h0 h) (a : AW h0.size h b cs) (us : List Int) (hl : us.length = cs.length) :
    ∃ h', h.wr b 0 (us.map uv) = some h' ∧ AW h0.size h' b us ∧ Grow h0 h' ∧ ∀ c, c ≠ b → h'.get c = h.get c := by
  refine ⟨_, wr_all a.2 (by simpa using hl) (uv_one us), ⟨a.1, ?_⟩, g.put a.1 (Wf.lt g.wf a.2) hw _, fun c hc => by rw [get_put, if_neg hc]⟩
  rw [get_put, if_pos rfl]
/-- A new array. -/
theorem AW.new {h0 h : Heap} (g : Grow h0 h) (cs : List Int) : AW h0.size (h.push (.cells (cs.map uv) (.tip [] 0 none))) h.size cs ∧ Grow h0 (h.push (.cells (cs.map uv) (.tip [] 0 none))) ∧ ∀ c, c ≠ h.size → (h.push (.cells (cs.map uv) (.tip [] 0 none))).get c = h.get c :=
  ⟨⟨g.size, by rw [get_push, if_pos rfl]⟩, g.push _, fun c hc => by rw [get_push, if_neg hc]⟩

/-! ### The function -/
def at32 (W : List Int) (i : Nat) : Int := W.getD i 0
/-- The bytes i.. of a word, of four. -/
def byteW (s : List Nat) (t : Nat) : Nat → List Int → List Int
  | 0, W => W
  | n + 1, W => byteW s t n (W.set t (or32 (shl32 (at32 W t) 8) (wr32 (Int.ofNat (s.getD (4 * t + (3 - n)) 0)))))
def extW (W : List Int) (t : Nat) : Int :=
  let x := at32 W (t - 15)
  let y := at32 W (t - 2)
  wr32 (wr32 (wr32 (xor32 (xor32 (rot32 y 17) (rot32 y 19)) (shr32 y 10) + at32 W (t - 7)) + xor32 (xor32 (rot32 x 7) (rot32 x 18)) (shr32 x 3)) + at32 W (t - 16))
def schedStep (s : List Nat) (t : Nat) (W : List Int) : List Int := if t < 16 then byteW s t 4 W else W.set t (extW W t)
def sched (s : List Nat) : Nat → Nat → List Int → List Int
  | 0, _, W => W
  | n + 1, t, W => sched s n (t + 1) (schedStep s t W)
def roundStep (W : List Int) (K : List Int) (t : Nat) (v : List Int) : List Int :=
  let a := at32 v 0
  let e := at32 v 4
  let t1 := wr32 (wr32 (wr32 (wr32 (at32 v 7 + xor32 (xor32 (rot32 e 6) (rot32 e 11)) (rot32 e 25)) + xor32 (and32 e (at32 v 5)) (and32 (inv32 e) (at32 v 6))) + at32 K t) + at32 W t)
  let t2 := wr32 (xor32 (xor32 (rot32 a 2) (rot32 a 13)) (rot32 a 22) + xor32 (xor32 (and32 a (at32 v 1)) (and32 a (at32 v 2))) (and32 (at32 v 1) (at32 v 2)))
  [wr32 (t1 + t2), a, at32 v 1, at32 v 2, wr32 (at32 v 3 + t1), e, at32 v 5, at32 v 6]
def rounds (W K : List Int) : Nat → Nat → List Int → List Int
  | 0, _, v => v
  | n + 1, t, v => rounds W K n (t + 1) (roundStep W K t v)
def sumUp (v : List Int) : Nat → Nat → List Int → List Int
  | 0, _, H => H
  | n + 1, i, H => sumUp v n (i + 1) (H.set i (wr32 (at32 H i + at32 v i)))
def zeros (n : Nat) : List Int := List.replicate n 0
def behindF (K : List Int) (H : List Int) (s : List Nat) : List Int := sumUp (rounds (sched s 64 0 (zeros 64)) K 64 0 H) 8 0 H

theorem byteW_length (s : List Nat) (t : Nat) : ∀ (n : Nat) (W : List Int), (byteW s t n W).length = W.length
  | 0, _ => rfl
  | n + 1, W => by unfold byteW; rw [byteW_length s t n, List.length_set]
theorem schedStep_length (s : List Nat) (t : Nat) (W : List Int) : (schedStep s t W).length = W.length := by
  unfold schedStep
  split
  · exact byteW_length _ _ _ _
  · exact List.length_set
end Abs
end Go.Proofs.YtmgbcaboljilnaaGreatDoor
