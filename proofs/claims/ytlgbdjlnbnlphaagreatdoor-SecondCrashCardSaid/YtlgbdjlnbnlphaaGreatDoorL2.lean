/- Layer 14: the arguments as the machine sees them. -/
import Derived.Test.YtlgbdjlnbnlphaaGreatDoorL1
import Derived.Test.YtlgbdjlnbnlphaaGreatDoorA35
namespace Go.Proofs.YtlgbdjlnbnlphaaGreatDoor
namespace Abs
set_option linter.unusedVariables false
set_option linter.unusedSimpArgs false
set_option maxRecDepth 100000
open Go.RowKit Go.ChangeShapes Go.WideShapes Go.Joins

def IsFed (c : List V) : Prop := ∃ r : Rec, c = rC r ∧ Byt r.1
theorem feds_of {es : List (List V)} (h : ∀ c ∈ es, IsFed c) : ∃ l : List Rec, es = l.map rC ∧ FedsB l := by
  induction es with
  | nil => exact ⟨[], rfl, fun f hf => by cases hf⟩
  | cons a r ih =>
    obtain ⟨e, he, hb⟩ := h a List.mem_cons_self
    obtain ⟨l, hl, hbl⟩ := ih fun c hc => h c (List.mem_cons_of_mem _ hc)
    refine ⟨e :: l, by rw [he, hl]; rfl, fun x hx => ?_⟩
    rcases List.mem_cons.1 hx with q | q
    · subst q; exact hb
    · exact hbl x q
def IsBool (c : List V) : Prop := ∃ t : Bool, c = [V.bool t]
theorem bools_of {es : List (List V)} (h : ∀ c ∈ es, IsBool c) : ∃ l : List Bool, es = l.map fun t => [V.bool t] := by
  induction es with
  | nil => exact ⟨[], rfl⟩
  | cons a r ih =>
    obtain ⟨e, he⟩ := h a List.mem_cons_self
    obtain ⟨l, hl⟩ := ih fun c hc => h c (List.mem_cons_of_mem _ hc)
    exact ⟨e :: l, by rw [he, hl]; rfl⟩
theorem i64_wf {a : Int} (wa : (Lit.int .i64 a).wf = true) : -9223372036854775808 ≤ a ∧ a < 9223372036854775808 := by
  simp only [Lit.wf, Bool.and_eq_true, decide_eq_true_eq, IntKind.min, IntKind.max, IntKind.signed, IntKind.bits] at wa
  obtain ⟨h1, h2⟩ := wa
  simp at h1 h2
  omega
section
variable {H : Type} {enc : TypeId × Value → H} {w : World} {held : Bool}
theorem gw_pos (hG : GW gl w) : 0 < w.heap.size := Nat.lt_of_le_of_lt (Nat.zero_le _) (hG _ List.mem_cons_self).1
theorem fed_elem {fuel : Nat} {cs : List Value} {y : DataW H × List MemPlace} (h : DataW.trod enc Tryz.prog w 0 (fun _ => true) held fuel 32 cs = some y) : ∃ vs, VRs noRho vs cs ∧ vs.length = 2 ∧ IsFed vs := by
  obtain ⟨y0, y1, n, _, hl, g0, g1⟩ := trod_struct2 Tryz.underlying32 h
  obtain ⟨a, p0, _, _⟩ := DataW.trod_string Tryz.underlying9 g0
  obtain ⟨b, p1, _, _⟩ := DataW.trod_string Tryz.underlying9 g1
  have hl : cs.length = 2 := hl.trans (by kernel_rfl : Tryz.prog.cellsOf 32 = 2)
  match cs, hl with
  | [c0, c1], _ =>
    have e0 : [c0] = [Value.string a] := p0
    have e1 : [c1] = [Value.string b] := p1
    cases e0; cases e1
    exact ⟨rC (strOf a, strOf b), .cons _ _ _ _ (.str _ _ rfl) (.cons _ _ _ _ (.str _ _ rfl) .nil), rfl, _, rfl, strOf_lt a⟩
/-- The records that came in. -/
theorem open_feds (hG : GW gl w) {rc : Reach} {b0 : Nat} {v : Value} {d : DataW H} {p : List MemPlace} (hd : DataW.Trod enc Tryz.prog w 0 (fun _ => true) held 22 v d p) (hval : Value.okWide Tryz.prog w rc b0 22 v) :
    ∃ ρ h x fs, Rel Tryz.prog w.heap.size w ρ h w ∧ Gl gl h ∧ VR ρ x v ∧ Sl h 2 x (fs.map rC) ∧ FedsB fs ∧ fs.length ≤ 9223372036854775807 := by
  obtain ⟨a0, len, cap, rfl⟩ := Go.WideShapes.okWide_slice Tryz.underlying22 hval
  obtain ⟨fuel, hf⟩ := hd
  have hf : DataW.trod enc Tryz.prog w 0 (fun _ => true) held fuel 22 [.slice a0 len cap] = some (d, p) := hf
  have r0 := rel_base (P := Tryz.prog) gl (by decide) w hG
  obtain ⟨ρ, h, x, es, r, _, gr, hv, hs, hφ, hm⟩ := open_slT (sz := 2) (by decide) Tryz.underlying22 (by kernel_rfl) hf (fun _ c => IsFed c) (fun _ _ _ _ q => q) (fun n cs y hy ρ h r => by
      obtain ⟨vs, q1, q2, q3⟩ := fed_elem hy
      exact ⟨ρ, h, vs, r, fun _ _ q => q, Grow.refl r.fresh, q1.mono (noRho_le _), q2, q3⟩) r0 (gw_pos hG)
  obtain ⟨fs, rfl, hb⟩ := feds_of hφ
  rw [List.length_map] at hm
  cases hv with
  | cons _ _ _ _ hv _ => exact ⟨ρ, h, x, fs, r, gl_base.grow gr, hv, hs, hb, Nat.le_trans hm (by decide)⟩
end
end Abs
end Go.Proofs.YtlgbdjlnbnlphaaGreatDoor
