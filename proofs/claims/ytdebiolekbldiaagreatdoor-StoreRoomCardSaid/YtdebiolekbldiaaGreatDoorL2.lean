/- Layer 18: the arguments as the machine sees them; StoreRoom from the machine to the model. -/
import Derived.Test.YtdebiolekbldiaaGreatDoorL1
import Derived.Test.YtdebiolekbldiaaGreatDoorA40
import Derived.Test.YtdebiolekbldiaaGreatDoorS32
namespace Go.Proofs.YtdebiolekbldiaaGreatDoor
namespace Abs
set_option linter.unusedVariables false
set_option linter.unusedSimpArgs false
set_option maxRecDepth 100000
open Go.RowKit Go.ChangeShapes Go.WideShapes Go.Joins
theorem list_of {α : Type} {g : α → List V} {es : List (List V)} (h : ∀ c ∈ es, ∃ a, c = g a) : ∃ l : List α, es = l.map g := by
 induction es with
 | nil => exact ⟨[], rfl⟩
 | cons a r ih =>
  obtain ⟨e, he⟩ := h a List.mem_cons_self
  obtain ⟨l, hl⟩ := ih fun c hc => h c (List.mem_cons_of_mem _ hc)
  exact ⟨e :: l, by rw [he, hl]; rfl⟩
section
variable {H : Type} {enc : TypeId × Value → H} {w : World} {held : Bool}
theorem gw_pos (hG : GW gl w) : 0 < w.heap.size := Nat.lt_of_le_of_lt (Nat.zero_le _) (hG _ List.mem_cons_self).1
theorem loc_elem {fuel : Nat} {cs : List Value} {y : DataW H × List MemPlace} (h : DataW.trod enc Tryz.prog w 0 (fun _ => true) held fuel 47 cs = some y) : ∃ vs, VRs noRho vs cs ∧ vs.length = 2 ∧ ∃ r, vs = rn r := by
 obtain ⟨y0, y1, n, _, hl, g0, g1⟩ := trod_struct2 Tryz.underlying47 h
 obtain ⟨a, p0, _, _⟩ := DataW.trod_int Tryz.underlying3 g0
 obtain ⟨b, p1, _, _⟩ := DataW.trod_int Tryz.underlying3 g1
 have hl : cs.length = 2 := hl.trans (by kernel_rfl : Tryz.prog.cellsOf 47 = 2)
 match cs, hl with
 | [c0, c1], _ =>
  have e0 : [c0] = [Value.int .i64 a] := p0
  have e1 : [c1] = [Value.int .i64 b] := p1
  cases e0; cases e1
  exact ⟨rn (a, b), .cons _ _ _ _ (.int _ _) (.cons _ _ _ _ (.int _ _) .nil), rfl, _, rfl⟩
theorem str_elem {fuel : Nat} {cs : List Value} {y : DataW H × List MemPlace} (h : DataW.trod enc Tryz.prog w 0 (fun _ => true) held fuel 9 cs = some y) : ∃ vs, VRs noRho vs cs ∧ vs.length = 1 ∧ ∃ t, vs = [V.str t] := by
 obtain ⟨a, p0, _, _⟩ := DataW.trod_string Tryz.underlying9 h
 subst p0
 exact ⟨[.str (strOf a)], .cons _ _ _ _ (.str _ _ rfl) .nil, rfl, _, rfl⟩
theorem int_elem {fuel : Nat} {cs : List Value} {y : DataW H × List MemPlace} (h : DataW.trod enc Tryz.prog w 0 (fun _ => true) held fuel 3 cs = some y) : ∃ vs, VRs noRho vs cs ∧ vs.length = 1 ∧ ∃ n, vs = [iv n] := by
 obtain ⟨a, p0, _, _⟩ := DataW.trod_int Tryz.underlying3 h
 subst p0
 exact ⟨[iv a], .cons _ _ _ _ (.int _ _) .nil, rfl, _, rfl⟩
theorem open_list {α : Type} {g : α → List V} {sz t e : Nat} (hsz : sz ≠ 0) (hg : ∀ a, (g a).length = sz) (ht : Tryz.prog.underlying t = some (.slice e)) (hc : Tryz.prog.cellsOf e = sz)
  (hel : ∀ n cs y, DataW.trod enc Tryz.prog w 0 (fun _ => true) held n e cs = some y → ∃ vs, VRs noRho vs cs ∧ vs.length = sz ∧ ∃ a, vs = g a) {fuel : Nat} {c : Value} {y : DataW H × List MemPlace} (hd : DataW.trod enc Tryz.prog w 0 (fun _ => true) held fuel t [c] = some y)
  (ρ : Rho) (h : Heap) (r : Rel Tryz.prog w.heap.size w ρ h w) (hpos : 0 < w.heap.size) : ∃ (ρ' : Rho) (h' : Heap) (x : V) (l : List α), Rel Tryz.prog w.heap.size w ρ' h' w ∧ RLe ρ ρ' ∧ Grow h h' ∧ VR ρ' x c ∧ Sl h' sz x (l.map g) ∧ l.length ≤ 9223372036854775807 := by
 obtain ⟨ρ', h', x, es, r', hle, gr, hv, hs, hφ, hm⟩ := open_slT hsz ht hc hd (fun _ c => ∃ a, c = g a) (fun _ _ _ _ q => q) (fun n cs y hy ρ h r => by
   obtain ⟨vs, q1, q2, q3⟩ := hel n cs y hy
   exact ⟨ρ, h, vs, r, fun _ _ q => q, Grow.refl r.fresh, q1.mono (noRho_le _), q2, q3⟩) r hpos
 obtain ⟨l, rfl⟩ := list_of hφ
 rw [List.length_map] at hm
 cases hv with
 | cons _ _ _ _ hv _ => exact ⟨ρ', h', x, l, r', hle, gr, hv, hs, Nat.le_trans hm (by decide)⟩
theorem case_cells (hpos : 0 < w.heap.size) {fuel : Nat} {cs : List Value} {y : DataW H × List MemPlace} (hd : DataW.trod enc Tryz.prog w 0 (fun _ => true) held fuel 28 cs = some y) (ρ : Rho) (h : Heap) (r : Rel Tryz.prog w.heap.size w ρ h w) :
  ∃ ρ' h' K y, Rel Tryz.prog w.heap.size w ρ' h' w ∧ RLe ρ ρ' ∧ Grow h h' ∧ VRs ρ' (Cas.v K y) cs ∧ CasAt h' K y := by
 obtain ⟨xs, n, _, _, hl, hlen, hf⟩ := DataW.trod_struct Tryz.underlying28 hd
 have hl : cs.length = 11 := hl.trans (by kernel_rfl : Tryz.prog.cellsOf 28 = 11)
 match cs, hl, xs, hlen with
 | [c0, c1, c2, c3, c4, c5, c6, c7, c8, c9, c10], _, [y0, y1, y2, y3, y4, y5, y6], _ =>
  have g0 : DataW.trod enc Tryz.prog w 0 (fun _ => true) held n 3 [c0] = some y0 := hf 0 _ rfl
  have g1 : DataW.trod enc Tryz.prog w 0 (fun _ => true) held n 3 [c1] = some y1 := hf 1 _ rfl
  have g2 : DataW.trod enc Tryz.prog w 0 (fun _ => true) held n 23 [c2, c3, c4, c5, c6] = some y2 := hf 2 _ rfl
  have g3 : DataW.trod enc Tryz.prog w 0 (fun _ => true) held n 24 [c7] = some y3 := hf 3 _ rfl
  have g4 : DataW.trod enc Tryz.prog w 0 (fun _ => true) held n 25 [c8] = some y4 := hf 4 _ rfl
  have g5 : DataW.trod enc Tryz.prog w 0 (fun _ => true) held n 26 [c9] = some y5 := hf 5 _ rfl
  have g6 : DataW.trod enc Tryz.prog w 0 (fun _ => true) held n 26 [c10] = some y6 := hf 6 _ rfl
  obtain ⟨xs2, n2, _, _, hl2, hlen2, hf2⟩ := DataW.trod_struct Tryz.underlying23 g2
  match xs2, hlen2 with
  | [z0, z1, z2, z3, z4], _ =>
   have k0 : DataW.trod enc Tryz.prog w 0 (fun _ => true) held n2 4 [c2] = some z0 := hf2 0 _ rfl
   have k1 : DataW.trod enc Tryz.prog w 0 (fun _ => true) held n2 4 [c3] = some z1 := hf2 1 _ rfl
   have k2 : DataW.trod enc Tryz.prog w 0 (fun _ => true) held n2 3 [c4] = some z2 := hf2 2 _ rfl
   have k3 : DataW.trod enc Tryz.prog w 0 (fun _ => true) held n2 3 [c5] = some z3 := hf2 3 _ rfl
   have k4 : DataW.trod enc Tryz.prog w 0 (fun _ => true) held n2 3 [c6] = some z4 := hf2 4 _ rfl
   obtain ⟨m, p0, _, _⟩ := DataW.trod_int Tryz.underlying3 g0
   obtain ⟨nn, p1, _, _⟩ := DataW.trod_int Tryz.underlying3 g1
   obtain ⟨fa, p2, _⟩ := DataW.trod_bool Tryz.underlying4 k0
   obtain ⟨mi, p3, _⟩ := DataW.trod_bool Tryz.underlying4 k1
   obtain ⟨sm, p4, _, _⟩ := DataW.trod_int Tryz.underlying3 k2
   obtain ⟨ar, p5, _, _⟩ := DataW.trod_int Tryz.underlying3 k3
   obtain ⟨se, p6, _, _⟩ := DataW.trod_int Tryz.underlying3 k4
   cases p0; cases p1; cases p2; cases p3; cases p4; cases p5; cases p6
   obtain ⟨ρ1, h1, xu, us, r1, l1, q1, v1, s1, _⟩ := open_list (g := rn) (sz := 2) (by decide) (fun _ => rfl) Tryz.underlying24 (by kernel_rfl) (fun _ _ _ q => loc_elem q) g3 ρ h r hpos
   obtain ⟨ρ2, h2, xt, ts, r2, l2, q2, v2, s2, b2⟩ := open_list (g := fun t => [V.str t]) (sz := 1) (by decide) (fun _ => rfl) Tryz.underlying25 (by kernel_rfl) (fun _ _ _ q => str_elem q) g4 ρ1 h1 r1 hpos
   obtain ⟨ρ3, h3, xd, ds, r3, l3, q3, v3, s3, _⟩ := open_list (g := fun n => [iv n]) (sz := 1) (by decide) (fun _ => rfl) Tryz.underlying26 (by kernel_rfl) (fun _ _ _ q => int_elem q) g5 ρ2 h2 r2 hpos
   obtain ⟨ρ4, h4, xv, vs, r4, l4, q4, v4, s4, _⟩ := open_list (g := fun n => [iv n]) (sz := 1) (by decide) (fun _ => rfl) Tryz.underlying26 (by kernel_rfl) (fun _ _ _ q => int_elem q) g6 ρ3 h3 r3 hpos
   refine ⟨ρ4, h4, ⟨m, nn, ⟨fa, mi, sm, ar, se⟩, us, ts, ds, vs⟩, ⟨xu, xt, xd, xv⟩, r4, fun b e q => l4 b e (l3 b e (l2 b e (l1 b e q))), ((q1.trans q2).trans q3).trans q4, ?_, ⟨((s1.grow q2).grow q3).grow q4, (s2.grow q3).grow q4, s3.grow q4, s4, b2⟩⟩
   exact .cons _ _ _ _ (.int _ _) (.cons _ _ _ _ (.int _ _) (.cons _ _ _ _ (.bool _) (.cons _ _ _ _ (.bool _) (.cons _ _ _ _ (.int _ _) (.cons _ _ _ _ (.int _ _) (.cons _ _ _ _ (.int _ _)
    (.cons _ _ _ _ (v1.mono fun b e q => l4 b e (l3 b e (l2 b e q))) (.cons _ _ _ _ (v2.mono fun b e q => l4 b e (l3 b e q)) (.cons _ _ _ _ (v3.mono l4) (.cons _ _ _ _ v4 .nil))))))))))
theorem storeRoom_walk (w : World) (hG : GW gl w) {rc : Reach} {b0 : Nat} {v : Value} {d : DataW H} {p : List MemPlace} (hd : DataW.Trod enc Tryz.prog w 0 (fun _ => true) held 28 v d p) (hval : Value.okWide Tryz.prog w rc b0 28 v) :
  Calls Tryz.prog 4 #[v] w fun e w' => e = .returned (.bool true) ∧ Below w.heap.size w w' := by
 obtain ⟨cs, fuel, rfl, hf⟩ := struct_cells Tryz.underlying28 hval hd
 have r0 := rel_base (P := Tryz.prog) gl (by decide) w hG
 obtain ⟨ρ, h, K, y, r, hle, gr, hv, ca⟩ := case_cells (gw_pos hG) hf rhoG (baseH gl) r0
 exact law_of Tryz.func4 (by kernel_rfl) (by kernel_rfl) (storeRoom_ans cfg3_std h r.fresh (gl_base.grow gr) K y ca) r (.cons _ _ _ _ (.agg _ _ hv) .nil)
end
end Abs
end Go.Proofs.YtdebiolekbldiaaGreatDoor
