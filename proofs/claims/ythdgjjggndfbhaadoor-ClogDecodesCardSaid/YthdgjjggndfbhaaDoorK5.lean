/- Layer 13: the arguments as the machine sees them. -/
import Derived.Test.YthdgjjggndfbhaaDoorK4
import Derived.Test.YthdgjjggndfbhaaDoorA35
namespace Go.Proofs.YthdgjjggndfbhaaDoor
namespace Abs
set_option linter.unusedVariables false
set_option linter.unusedSimpArgs false
set_option maxRecDepth 100000
open Go.RowKit Go.ChangeShapes Go.WideShapes Go.Joins

def IsEnt (c : List V) : Prop := ∃ e : Ent, c = e.v ∧ e.byt
theorem ents_of {es : List (List V)} (h : ∀ c ∈ es, IsEnt c) : ∃ l : List Ent, es = l.map Ent.v ∧ ∀ e ∈ l, e.byt := by
  induction es with
  | nil => exact ⟨[], rfl, by simp⟩
  | cons a r ih =>
    obtain ⟨e, he, hb⟩ := h a List.mem_cons_self
    obtain ⟨l, hl, hbl⟩ := ih fun c hc => h c (List.mem_cons_of_mem _ hc)
    refine ⟨e :: l, by rw [he, hl]; rfl, fun x hx => ?_⟩
    rcases List.mem_cons.1 hx with q | q
    · subst q; exact hb
    · exact hbl x q
section
variable {H : Type} {enc : TypeId × Value → H} {w : World} {held : Bool}
theorem ent_elem {fuel : Nat} {cs : List Value} {y : DataW H × List MemPlace} (h : DataW.trod enc Tryd.prog w 0 (fun _ => true) held fuel 53 cs = some y) : ∃ vs, VRs noRho vs cs ∧ vs.length = 4 ∧ IsEnt vs := by
  obtain ⟨y0, y1, y2, y3, n, _, hl, g0, g1, g2, g3⟩ := trod_struct4 Tryd.underlying53 h
  obtain ⟨a, p0, _, _⟩ := DataW.trod_string Tryd.underlying9 g0
  obtain ⟨b, p1, _, _⟩ := DataW.trod_string Tryd.underlying9 g1
  obtain ⟨c, p2, _, _⟩ := DataW.trod_int Tryd.underlying3 g2
  obtain ⟨d, p3, _, _⟩ := DataW.trod_int Tryd.underlying3 g3
  have hl : cs.length = 4 := hl.trans (by kernel_rfl : Tryd.prog.cellsOf 53 = 4)
  match cs, hl with
  | [c0, c1, c2, c3], _ =>
    have e0 : [c0] = [Value.string a] := p0
    have e1 : [c1] = [Value.string b] := p1
    have e2 : [c2] = [Value.int .i64 c] := p2
    have e3 : [c3] = [Value.int .i64 d] := p3
    cases e0; cases e1; cases e2; cases e3
    exact ⟨(Ent.mk (strOf a) (strOf b) c d).v, .cons _ _ _ _ (.str _ _ rfl) (.cons _ _ _ _ (.str _ _ rfl) (.cons _ _ _ _ (.int _ _) (.cons _ _ _ _ (.int _ _) .nil))), rfl, _, rfl, strOf_lt a, strOf_lt b⟩
/-- A block of the document's. -/
def IsBlk (h : Heap) (c : List V) : Prop := ∃ seq x es, c = [iv seq, x] ∧ Ents h x es ∧ (∀ e ∈ es, e.byt) ∧ es.length ≤ 9223372036854775807
theorem IsBlk.grow {h h' : Heap} {c : List V} (g : Grow h h') (b : IsBlk h c) : IsBlk h' c := by
  obtain ⟨seq, x, es, q1, q2, q3⟩ := b
  exact ⟨seq, x, es, q1, q2.grow g, q3⟩
theorem blk_elem (hpos : 0 < w.heap.size) {fuel : Nat} {cs : List Value} {y : DataW H × List MemPlace} (hd : DataW.trod enc Tryd.prog w 0 (fun _ => true) held fuel 24 cs = some y) (ρ : Rho) (h : Heap) (r : Rel Tryd.prog w.heap.size w ρ h w) :
    ∃ ρ' h' vs, Rel Tryd.prog w.heap.size w ρ' h' w ∧ RLe ρ ρ' ∧ Grow h h' ∧ VRs ρ' vs cs ∧ vs.length = 2 ∧ IsBlk h' vs := by
  obtain ⟨y0, y1, n, _, hl, g0, g1⟩ := trod_struct2 Tryd.underlying24 hd
  have hl : cs.length = 2 := hl.trans (by kernel_rfl : Tryd.prog.cellsOf 24 = 2)
  match cs, hl with
  | [c0, c1], _ =>
    obtain ⟨a, p0, _, _⟩ := DataW.trod_int Tryd.underlying3 g0
    have e0 : [c0] = [Value.int .i64 a] := p0
    cases e0
    have g1 : DataW.trod enc Tryd.prog w 0 (fun _ => true) held n 22 [c1] = some y1 := g1
    obtain ⟨ρ', h', x, es, r', hle, gr, hv, hs, hφ, hm⟩ := open_slT (sz := 4) (by decide) Tryd.underlying22 (by kernel_rfl) g1 (fun _ c => IsEnt c) (fun _ _ _ _ q => q) (fun n cs y hy ρ h r => by
      obtain ⟨vs, q1, q2, q3⟩ := ent_elem hy
      exact ⟨ρ, h, vs, r, fun _ _ q => q, Grow.refl r.fresh, q1.mono (noRho_le _), q2, q3⟩) r hpos
    obtain ⟨l, rfl, hb⟩ := ents_of hφ
    refine ⟨ρ', h', [iv a, x], r', hle, gr, .cons _ _ _ _ (.int _ _) hv, rfl, a, x, l, rfl, hs, hb, ?_⟩
    rw [List.length_map] at hm
    exact Nat.le_trans hm (by decide)
theorem gw_pos (hG : GW gl w) : 0 < w.heap.size := Nat.lt_of_le_of_lt (Nat.zero_le _) (hG _ List.mem_cons_self).1
/-- A block that came in. -/
theorem open_blk (hG : GW gl w) {rc : Reach} {b0 : Nat} {v : Value} {d : DataW H} {p : List MemPlace} (hval : Value.okWide Tryd.prog w rc b0 24 v) (hd : DataW.Trod enc Tryd.prog w 0 (fun _ => true) held 24 v d p) :
    ∃ ρ h seq x es, Rel Tryd.prog w.heap.size w ρ h w ∧ Gl gl h ∧ VR ρ (.agg [iv seq, x]) v ∧ Ents h x es ∧ (∀ e ∈ es, e.byt) ∧ es.length ≤ 9223372036854775807 := by
  obtain ⟨cs, fuel, rfl, hf⟩ := struct_cells Tryd.underlying24 hval hd
  have r0 := rel_base (P := Tryd.prog) gl (by decide) w hG
  obtain ⟨ρ, h, vs, r, hle, gr, hv, _, seq, x, es, rfl, hs, hb, hn⟩ := blk_elem (gw_pos hG) hf rhoG (baseH gl) r0
  exact ⟨ρ, h, seq, x, es, r, gl_base.grow gr, .agg _ _ hv, hs, hb, hn⟩
end
end Abs
end Go.Proofs.YthdgjjggndfbhaaDoor
