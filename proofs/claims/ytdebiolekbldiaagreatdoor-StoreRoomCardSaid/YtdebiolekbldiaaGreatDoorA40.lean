/- The abstract machine: contracts whose answers speak of blocks that were there; rows of bytes in a call's own blocks. The abstract machine: arguments that came in, slices within slices among them. The abstract machine: reasoning about ranges over functions. -/
import Derived.Test.YtdebiolekbldiaaGreatDoorA29
import Derived.Deep.Strs
import Derived.Lib.SmallJoins
namespace Go.Proofs.YtdebiolekbldiaaGreatDoor
namespace Abs
noncomputable section
set_option linter.unusedVariables false
set_option linter.unusedSimpArgs false
open Go.RowKit
section
variable {C : Cfg} {f : Nat} {args : List V} {h : Heap}
theorem Ans.loc {np : Nat} {res : List Res} {body : AC} {e0 : List (Nat × V)} {R : V → Heap → Prop} (hSm : ∀ f args h v h', C.S f args h = some (some (v, h')) → HM h h') (hS : C.S f args h = none) (hF : C.F f = some ⟨np, res, body⟩) (hl : args.length = np) (he : argsE 0 args [] = e0) (hw : Wf h)
  (hx : ∀ h2, Grow h h2 → h2.size = h.size → (∀ b, h2.get b = h.get b) → WC C body e0 h2 fun x e' h1 => Fin x ∧ ∃ v, retE e' h1 res = some v ∧ ∀ n, R v { h1 with low := n })
  (hloc : ∀ v h1, (∀ b, b < h.size → h1.get b = h.get b) → R v h1 → v.scopd h.size = true → R v h) (hpl : body.plain = true := by rfl) (hdx : np ≤ DX := by decide) : Ans C f args h R := by
 have hx := hx { h with low := h.size } ⟨hw, Nat.le_refl _, fun _ _ q => q⟩ rfl (fun _ => rfl)
 rw [← he] at hx
 have hx := hx _ ((Sub.nil (.nil : TM)).args 0 args)
 have key : ∃ v h', (∃ n x t h1, execC (run C n).1 (run C n).2 body (argsTM 0 args .nil) { h with low := h.size } = some (x, t, h1) ∧ (∀ id, x ≠ .exit id) ∧ ∃ vs, ressA t h1 res = some vs ∧ closeCall h (oneOf vs) h1 = (v, h')) ∧ R v h' := by
  obtain ⟨n, x, t, h1, q1, e1, q2, q3, v, q4, q5⟩ := hx
  have hex : ∀ id, x ≠ .exit id := by intro id hid; subst hid; exact q3
  simp only [retE] at q4
  split at q4
  ·rename_i vs q
   cases q4
   by_cases hc : h.size ≤ h1.low ∧ (oneOf vs).scopd h.size = true
   ·have hm := (HM.run C hSm (n + 1)).2 body (argsTM 0 args .nil) { h with low := h.size } x t h1 q1
    refine ⟨oneOf vs, h, ⟨n, x, t, h1, q1, hex, vs, q2.ress q, by simp only [closeCall, if_pos hc]⟩, ?_⟩
    exact hloc _ _ (fun b hb => hm.get b (Nat.lt_of_lt_of_le hb hc.1) hb) (q5 h1.low) hc.2
   ·exact ⟨oneOf vs, { h1 with low := min h.low h1.low }, ⟨n, x, t, h1, q1, hex, vs, q2.ress q, by simp only [closeCall, if_neg hc]⟩, q5 _⟩
  ·cases q4
 obtain ⟨v, h', q1, q2⟩ := key
 exact ⟨v, h', Gives.body hS hF hl hpl (by omega) q1, q2⟩
theorem Ans.mut {np : Nat} {res : List Res} {body : AC} {e0 : List (Nat × V)} {R : V → Heap → Prop} (hS : C.S f args h = none) (hF : C.F f = some ⟨np, res, body⟩) (hl : args.length = np) (he : argsE 0 args [] = e0) (hw : Wf h)
  (hx : ∀ h2, Grow h h2 → h2.size = h.size → (∀ b, h2.get b = h.get b) → WC C body e0 h2 fun x e' h1 => Fin x ∧ ∃ v, retE e' h1 res = some v ∧ h1.low < h.size ∧ ∀ n, R v { h1 with low := n })
  (hpl : body.plain = true := by rfl) (hdx : np ≤ DX := by decide) : Ans C f args h R := by
 have hx := hx { h with low := h.size } ⟨hw, Nat.le_refl _, fun _ _ q => q⟩ rfl (fun _ => rfl)
 rw [← he] at hx
 have hx := hx _ ((Sub.nil (.nil : TM)).args 0 args)
 have key : ∃ v h', (∃ n x t h1, execC (run C n).1 (run C n).2 body (argsTM 0 args .nil) { h with low := h.size } = some (x, t, h1) ∧ (∀ id, x ≠ .exit id) ∧ ∃ vs, ressA t h1 res = some vs ∧ closeCall h (oneOf vs) h1 = (v, h')) ∧ R v h' := by
  obtain ⟨n, x, t, h1, q1, e1, q2, q3, v, q4, lo, q5⟩ := hx
  have hex : ∀ id, x ≠ .exit id := by intro id hid; subst hid; exact q3
  simp only [retE] at q4
  split at q4
  ·rename_i vs q
   cases q4
   exact ⟨oneOf vs, { h1 with low := min h.low h1.low }, ⟨n, x, t, h1, q1, hex, vs, q2.ress q, by simp only [closeCall]; rw [if_neg (by omega)]⟩, q5 _⟩
  ·cases q4
 obtain ⟨v, h', q1, q2⟩ := key
 exact ⟨v, h', Gives.body hS hF hl hpl (by omega) q1, q2⟩
theorem Ans.sum {R : V → Heap → Prop} {v : V} {h' : Heap} (hS : C.S f args h = some (some (v, h'))) (hr : R v h') : Ans C f args h R := ⟨v, h', Gives.sum hS, hr⟩
end
theorem retE_cells {e : List (Nat × V)} {h : Heap} {t b o n : Nat} {cs : List V} (hg : Env.get e t = some (.ptr (some (b, o)))) (hr : h.rds b o n = some cs) : retE e h [.cell t (some n)] = some (.agg cs) := by
 simp only [retE, ressE, resE, hg, loadA, hr]; rfl
theorem Chg.low {F : List Nat} {h h' : Heap} (g : Chg F h h') (n : Nat) : Chg F h { h' with low := n } := ⟨g.wf, g.size, g.keep⟩
theorem Grow.low1 {h h' : Heap} (g : Grow h h') (n : Nat) : Grow h { h' with low := n } := ⟨g.wf, g.size, g.ext⟩
theorem Chg.refl {F : List Nat} {h : Heap} (hw : Wf h) : Chg F h h := ⟨hw, Nat.le_refl _, fun _ _ _ q => q⟩
theorem Chg.of_same {F : List Nat} {h h2 h3 : Heap} (g : Chg F h2 h3) (hs : h2.size = h.size) (hg : ∀ b, h2.get b = h.get b) : Chg F h h3 := ⟨g.wf, by rw [← hs]; exact g.size, fun b o q hb => g.keep b o q (by rw [hg]; exact hb)⟩
theorem Wf.same {h h2 : Heap} (hw : Wf h) (hs : h2.size = h.size) (hg : ∀ b, h2.get b = h.get b) : Wf h2 := fun b hb => by rw [hg]; exact hw b (by omega)
/-! ### Cells in a block of a call's own -/
def Cl (h : Heap) (b : Nat) (cs : List V) : Prop := ∃ ty, h.get b = some (.cells cs (.tip [] 0 ty))
theorem Cl.grow {h h' : Heap} {b : Nat} {cs : List V} (a : Cl h b cs) (g : Grow h h') : Cl h' b cs := a.imp fun _ q => g.ext _ _ q
theorem Cl.chg {F : List Nat} {h h' : Heap} {b : Nat} {cs : List V} (a : Cl h b cs) (g : Chg F h h') (hb : b ∉ F) : Cl h' b cs := a.imp fun _ q => g.keep _ _ hb q
theorem Cl.lt {h : Heap} {b : Nat} {cs : List V} (a : Cl h b cs) (hw : Wf h) : b < h.size := by obtain ⟨ty, q⟩ := a; exact Wf.lt hw q
theorem Cl.rd {h : Heap} {b : Nat} {cs : List V} (a : Cl h b cs) {i : Nat} {v : V} (hi : cs[i]? = some v) : h.rd b i = some v := by obtain ⟨ty, q⟩ := a; rw [rd_cell q, hi]
theorem Cl.rds {h : Heap} {b : Nat} {cs : List V} (a : Cl h b cs) {k : Nat} (hk : cs.length = k) : h.rds b 0 k = some cs := by obtain ⟨ty, q⟩ := a; exact rds_all q hk
theorem Cl.rdsAt {h : Heap} {b o n : Nat} {cs : List V} (a : Cl h b cs) (hk : o + n ≤ cs.length) : h.rds b o n = some ((cs.drop o).take n) := by
 obtain ⟨ty, q⟩ := a; simp only [Heap.rds, q]; rw [if_pos hk]
theorem Cl.of_get {h h1 : Heap} {b : Nat} {cs : List V} (a : Cl h1 b cs) (hg : h1.get b = h.get b) : Cl h b cs := a.imp fun _ q => by rw [← hg]; exact q
theorem Cl.new (h : Heap) (cs : List V) (ty : Option Nat) : Cl (h.push (.cells cs (.tip [] 0 ty))) h.size cs := ⟨ty, get_push_self _ _⟩
theorem Cl.set {h : Heap} (hw : Wf h) {b : Nat} {cs : List V} (a : Cl h b cs) {i : Nat} (hi : i < cs.length) {v : V} (hv : V.one v = true) :
  ∃ h', h.wr b i [v] = some h' ∧ Cl h' b (cs.set i v) ∧ Chg [b] h h' ∧ h'.size = h.size := by
 obtain ⟨ty, q⟩ := a
 exact ⟨_, wr_cell q hi hv, ⟨ty, by rw [get_put, if_pos rfl]⟩, Chg.put hw (Wf.lt hw q) _, rfl⟩
theorem Cl.sets {h : Heap} (hw : Wf h) {b : Nat} {cs : List V} (a : Cl h b cs) {i : Nat} {us : List V} (hi : i + us.length ≤ cs.length) (hv : us.all V.one = true) :
  ∃ h', h.wr b i us = some h' ∧ Cl h' b (splice cs i us) ∧ Chg [b] h h' ∧ h'.size = h.size := by
 obtain ⟨ty, q⟩ := a
 refine ⟨h.put b (.cells (splice cs i us) (.tip [] 0 ty)), ?_, ⟨ty, by rw [get_put, if_pos rfl]⟩, Chg.put hw (Wf.lt hw q) _, rfl⟩
 simp only [Heap.wr, q]
 rw [if_pos ⟨Nat.zero_le _, hi, hv⟩]; rfl
theorem Chg.newGrow {h0 h h' : Heap} {F : List Nat} (g : Grow h0 h) (c : Chg F h h') (hw0 : Wf h0) (hF : ∀ b ∈ F, h0.size ≤ b) : Grow h0 h' :=
 ⟨c.wf, Nat.le_trans g.size c.size, fun b o q => c.keep b o (fun hb => by have := hF b hb; have := Wf.lt hw0 q; omega) (g.ext b o q)⟩
theorem sl_one {h : Heap} {u sz : Nat} {c : List V} {st : St} (hg : h.get u = some (.cells c st)) (hc : c.length = sz) : Sl h sz (.slice (some (u, 0)) 1 1) [c] := by
 refine ⟨by simpa using hc, rfl, Nat.le_refl _, fun _ => ?_⟩
 have := rds_all hg (n := 1 * sz) (by omega)
 simpa using this
def Frm (x : V) (h h' : Heap) : Prop := ∀ b o, h.get b = some o → Off x b → h'.get b = some o
theorem Cl.frm {x : V} {h h' : Heap} {b : Nat} {cs : List V} (a : Cl h b cs) (f : Frm x h h') (ho : Off x b) : Cl h' b cs := a.imp fun _ q => f _ _ q ho
theorem Off.of_lt {h : Heap} {low sz : Nat} {x : V} {es : List (List V)} (g : Grown h low sz x es) {b : Nat} (hb : b < low) : Off x b := by
 obtain ⟨_, ⟨rfl, _⟩ | ⟨b', S, ty, rfl, _, q, _⟩⟩ := g
 ·exact Off.nil b
 ·intro b2 o l k z e; cases e; omega
theorem Grown.one {h : Heap} {low sz : Nat} {x : V} {es : List (List V)} (g : Grown h low sz x es) : V.one x = true := by
 obtain ⟨_, ⟨rfl, _⟩ | ⟨b', S, ty, rfl, _, q, _⟩⟩ := g <;> rfl
theorem Grown.chg {F : List Nat} {h h' : Heap} {low sz : Nat} {x : V} {es : List (List V)} (g : Grown h low sz x es) (c : Chg F h h') (ho : ∀ b ∈ F, Off x b) : Grown h' low sz x es :=
 g.frame fun b o hg o2 l k z e => c.keep b o (fun hb => ho b hb b o2 l k z e rfl) hg
theorem Grown.up {h : Heap} {low low' sz : Nat} {x : V} {es : List (List V)} (g : Grown h low sz x es) (hl : low' ≤ low) : Grown h low' sz x es := by
 obtain ⟨w1, w2 | ⟨b, S, ty, w3, w4, w5, w6⟩⟩ := g
 ·exact ⟨w1, .inl w2⟩
 ·exact ⟨w1, .inr ⟨b, S, ty, w3, w4, ⟨Nat.le_trans hl w5.1, fun s hs => Nat.le_trans hl (w5.2 s hs)⟩, w6⟩⟩
theorem Grown.same {h h' : Heap} {low sz : Nat} {x : V} {es : List (List V)} (g : Grown h low sz x es) (hg : ∀ b, h'.get b = h.get b) : Grown h' low sz x es :=
 g.frame fun b o q _ _ _ _ _ => by rw [hg]; exact q
theorem roomy8 {n : Nat} (h : n ≤ 1000000000) : roomy n 8 = true := by
 unfold roomy; exact decide_eq_true (by omega)
/-! ### Bytes -/
abbrev bv (n : Nat) : V := .int .u8 (Int.ofNat n)
theorem u8s_bv : ∀ l : List Nat, (∀ b ∈ l, b < 256) → u8s (l.map bv) = some l
 | [], _ => rfl
 | a :: l, h => by
  have h1 := u8s_bv l fun b hb => h b (List.mem_cons_of_mem _ hb)
  have h2 := h a List.mem_cons_self
  simp only [List.map_cons, u8s, h1]
  rw [show (Int.ofNat a).toNat = a from rfl, Nat.mod_eq_of_lt h2]
theorem bv_one (l : List Nat) : (l.map bv).all V.one = true := by
 rw [List.all_eq_true]; intro v hv
 obtain ⟨x, _, rfl⟩ := List.mem_map.1 hv
 rfl
theorem toStr_cl {h : Heap} {b n c : Nat} {l : List Nat} (a : Cl h b (l.map bv)) (hn : l.length = n) (hb : ∀ x ∈ l, x < 256) : toStrA h (.slice (some (b, 0)) n c) = some (.str l) := by
 simp only [toStrA, slLen, slCells]
 by_cases h0 : n = 0
 ·subst hn
  have : l = [] := List.length_eq_zero_iff.1 h0
  subst this; rfl
 ·rw [if_neg h0, Nat.mul_one, a.rds (by simpa using hn)]
  simp only [u8s_bv l hb]
theorem reps_bv (n : Nat) : reps n [bv 0] = (List.replicate n 0).map bv := by
 induction n with
 | zero => rfl
 | succ n ih => simp only [reps, ih, List.replicate_succ, List.map_cons]; rfl
theorem add_str {a b : List Nat} (h : a.length + b.length ≤ 4611686018427387904) : binA .add (.str a) (.str b) = some (.str (a ++ b)) := by
 simp only [binA]; rw [if_pos h]
theorem str_lo {s : List Nat} {n : Int} (h0 : 0 ≤ n) (h1 : n ≤ s.length) : sliceStrA (.str s) none (some (.int .i64 n)) = some (.str (s.take n.toNat)) := by
 simp only [sliceStrA, boundsA, intV]
 rw [if_pos ⟨h0, by omega⟩]
 simp
theorem str_hi {s : List Nat} {n : Int} (h0 : 0 ≤ n) (h1 : n ≤ s.length) : sliceStrA (.str s) (some (.int .i64 n)) none = some (.str (s.drop n.toNat)) := by
 simp only [sliceStrA, boundsA, intV]
 rw [if_pos ⟨h0, by omega⟩]
 simp only [Option.some.injEq, V.str.injEq]
 rw [List.take_of_length_le (by rw [List.length_drop]; omega)]
theorem fdiv_pow (n k : Nat) : ((n : Int).fdiv (2 ^ k)) = ((n / 2 ^ k : Nat) : Int) := by
 rw [Int.fdiv_eq_ediv_of_nonneg _ (by exact Int.le_of_lt (Int.pow_pos (by decide)))]
 simp
end
end Abs
end Go.Proofs.YtdebiolekbldiaaGreatDoor
namespace Go.Proofs.YtdebiolekbldiaaGreatDoor
namespace Abs
noncomputable section
set_option linter.unusedVariables false
set_option linter.unusedSimpArgs false
open Go.RowKit Go.ChangeShapes Go.WideShapes
section
variable {H : Type} {enc : TypeId × Value → H} {P : Program} {w : World} {held : Bool}
theorem cells_head {a : Addr} {sz : Nat} (hsz : sz ≠ 0) {cs : List Value} (h : w.cells? 0 a sz = some cs) : a.block < w.heap.size ∧ a.spot = none := by
 obtain ⟨_, hl, hc⟩ := World.cells?_some h
 have := hc 0 (by omega)
 rw [List.getElem?_eq_getElem (by omega)] at this
 have h0 : a.add 0 = a := rfl
 rw [h0] at this
 unfold World.cell? at this
 split at this
 ·rename_i c _ _ q
  refine ⟨(Array.getElem?_eq_some_iff.1 q).1, ?_⟩
  cases hs : a.spot with
  | none => rfl
  | some s => rw [hs] at this; simp at this
 ·cases this
theorem open_slT {t e : TypeId} {sz : Nat} (hsz : sz ≠ 0) (ht : P.underlying t = some (.slice e)) (hc : P.cellsOf e = sz) {fuel : Nat} {cs : List Value} {y : DataW H × List MemPlace} (hd : DataW.trod enc P w 0 (fun _ => true) held fuel t cs = some y)
  (φ : Heap → List V → Prop) (hφ : ∀ h h' c, Grow h h' → φ h c → φ h' c)
  (hel : ∀ n cs y, DataW.trod enc P w 0 (fun _ => true) held n e cs = some y → ∀ ρ h, Rel P w.heap.size w ρ h w → ∃ ρ' h' vs, Rel P w.heap.size w ρ' h' w ∧ RLe ρ ρ' ∧ Grow h h' ∧ VRs ρ' vs cs ∧ vs.length = sz ∧ φ h' vs)
  {ρ : Rho} {h : Heap} (r : Rel P w.heap.size w ρ h w) (hpos : 0 < w.heap.size) :
  ∃ ρ' h' x es, Rel P w.heap.size w ρ' h' w ∧ RLe ρ ρ' ∧ Grow h h' ∧ VRs ρ' [x] cs ∧ Sl h' sz x es ∧ (∀ c ∈ es, φ h' c) ∧ es.length ≤ maxLen := by
 rcases DataW.trod_slice ht hd with ⟨h0, _⟩ | ⟨a, len, cap, elems, rest, n, _, h0, _, _, hl, hm, hlen, he, hrest, _⟩
 ·subst h0
  exact ⟨ρ, h, .slice none 0 0, [], r, fun _ _ q => q, Grow.refl r.fresh, .cons _ _ _ _ .sliceNil .nil, Sl.nil h sz, by simp, by simp [maxLen]⟩
 subst h0
 by_cases hcap : cap = 0
 ·subst hcap
  obtain rfl : len = 0 := by omega
  have hg := r.glob 0 (by decide)
  refine ⟨ρ, h, .slice (some (0, 0)) 0 0, [], r, fun _ _ q => q, Grow.refl r.fresh, .cons _ _ _ _ (.slice 0 0 0 0 ⟨0, 0, 0⟩ a hg (fun q => absurd rfl q) (Nat.le_refl _)) .nil, ⟨by simp, rfl, Nat.le_refl _, by simp⟩, by simp, by simp [maxLen]⟩
 have head : a.block < w.heap.size ∧ a.spot = none := by
  by_cases hl0 : len = 0
  ·obtain ⟨q1, q2⟩ := hrest rfl
   have := q2 0 (by omega)
   rw [List.getElem?_eq_getElem (by omega), Option.bind_eq_some_iff] at this
   obtain ⟨cs, g1, _⟩ := this
   subst hl0
   simp only [Nat.zero_add, Nat.zero_mul, hc] at g1
   exact cells_head hsz g1
  ·have := he 0 (by omega)
   rw [List.getElem?_eq_getElem (by omega), Option.bind_eq_some_iff] at this
   obtain ⟨cs, g1, _⟩ := this
   simp only [Nat.zero_mul, hc] at g1
   exact cells_head hsz g1
 obtain ⟨hblk, hspot⟩ := head
 have ha : a = at_ ⟨a.block, a.off, 0⟩ 0 := by
  cases a; simp only at hspot; subst hspot; rfl
 have key : ∀ m, m ≤ len → ∃ ρ' h', ∃ es : List (List V), Rel P w.heap.size w ρ' h' w ∧ RLe ρ ρ' ∧ Grow h h' ∧ es.length = m ∧ (∀ c ∈ es, c.length = sz ∧ φ h' c) ∧ ∀ j v, es.flatten[j]? = some v → ∃ u, w.cell? (at_ ⟨a.block, a.off, 0⟩ j) = some u ∧ VR ρ' v u := by
  intro m
  induction m with
  | zero => intro _; exact ⟨ρ, h, [], r, fun _ _ q => q, Grow.refl r.fresh, rfl, by simp, by simp⟩
  | succ m ih =>
   intro hm'
   obtain ⟨ρ1, h1, es, r1, hle1, gr1, q1, q2, q3⟩ := ih (by omega)
   have hi := he m (by omega)
   have hel' : elems[m]? = some elems[m] := List.getElem?_eq_getElem (by omega)
   rw [hel', Option.bind_eq_some_iff] at hi
   obtain ⟨cs, g1, g2⟩ := hi
   obtain ⟨ρ2, h2, vs, r2, hle2, gr2, p1, p2, p3⟩ := hel _ _ _ g2 ρ1 h1 r1
   rw [hc] at g1
   obtain ⟨_, g3, g4⟩ := World.cells?_some g1
   refine ⟨ρ2, h2, es ++ [vs], r2, fun b e hb => hle2 b e (hle1 b e hb), gr1.trans gr2, by simp [q1], ?_, ?_⟩
   ·intro c hcm
    rcases List.mem_append.1 hcm with q | q
    ·exact ⟨(q2 c q).1, hφ _ _ _ gr2 (q2 c q).2⟩
    ·simp at q; subst q; exact ⟨p2, p3⟩
   ·intro j v hj
    have hfl := flat_len (fun c hc => (q2 c hc).1)
    rw [List.flatten_append, List.flatten_cons, List.flatten_nil, List.append_nil] at hj
    by_cases hjl : j < es.flatten.length
    ·rw [List.getElem?_append_left hjl] at hj
     obtain ⟨u, s1, s2⟩ := q3 j v hj
     exact ⟨u, s1, s2.mono hle2⟩
    ·rw [List.getElem?_append_right (by omega)] at hj
     obtain ⟨u, s1, s2⟩ := VRs.at p1 hj
     refine ⟨u, ?_, s2⟩
     have hlt : j - es.flatten.length < sz := by
      have := (List.getElem?_eq_some_iff.1 hj).1; omega
     have := g4 _ hlt
     rw [s1] at this
     rw [ha, at_add, at_add] at this
     rw [← this, hfl, q1]
     congr 2; rw [hfl, q1] at hjl; omega
 obtain ⟨ρ1, h1, es, r1, hle1, gr1, q1, q2, q3⟩ := key len (Nat.le_refl _)
 have hcf : CellFacts ρ1 w ⟨a.block, a.off, 0⟩ es.flatten := fun i v hv => by
  obtain ⟨u, g1, g2⟩ := q3 i v hv
  exact ⟨u, g1, g2⟩
 obtain ⟨r', hle⟩ := r1.addRo ⟨a.block, a.off, 0⟩ es.flatten hblk hcf
 have gp := (Grow.refl r1.fresh).push (.cells es.flatten .ro)
 refine ⟨_, _, .slice (some (h1.size, 0)) len cap, es, r', fun b e hb => hle b e (hle1 b e hb), gr1.trans gp, .cons _ _ _ _ ?_ .nil, ⟨fun c hc => (q2 c hc).1, q1.symm, hl, fun _ => rds_all (get_push_self _ _) (flat_len fun c hc => (q2 c hc).1)⟩, fun c hc => hφ _ _ _ gp (q2 c hc).2, by omega⟩
 exact .slice h1.size 0 len cap ⟨a.block, a.off, 0⟩ a (by simp) (fun _ => ha) hl
theorem struct_cells {t : TypeId} {fs : Array Field} {v : Value} {rc : Reach} {b0 : Nat} {d : DataW H} {p : List MemPlace} (ht : P.underlying t = some (.struct fs)) (hval : Value.okWide P w rc b0 t v) (h : DataW.Trod enc P w 0 (fun _ => true) held t v d p) :
  ∃ (cs : Array Value) (fuel : Nat), v = .agg cs ∧ DataW.trod enc P w 0 (fun _ => true) held fuel t cs.toList = some (d, p) := by
 obtain ⟨cs, rfl, _⟩ := okWide_struct ht hval
 obtain ⟨fuel, hf⟩ := h
 exact ⟨cs, fuel, rfl, hf⟩
end
end
end Abs
end Go.Proofs.YtdebiolekbldiaaGreatDoor
namespace Go.Proofs.YtdebiolekbldiaaGreatDoor
namespace Abs
noncomputable section
set_option linter.unusedVariables false
set_option linter.unusedSimpArgs false
open Go.RowKit
def WX (C : Cfg) (c : AC) (e : List (Nat × V)) (d : List V) (h : Heap) (Q : Ex → List (Nat × V) → List V → Heap → Prop) : Prop :=
 ∀ tm, Sub e tm → deferred tm = d → Runs C c tm h fun x tm' h' => ∃ e', Sub e' tm' ∧ Q x e' (deferred tm') h'
def LoopAt (h : Heap) (b : Nat) (e : List (Nat × V)) (ps : List Nat) (asg body : AC) : Prop := ∃ nt tm, h.get b = some (.loop .ready none nt tm ps asg body) ∧ Sub e tm
def LoopEnd (h : Heap) (b : Nat) (o : Option Ex) : Prop := ∃ st nt tm ps asg body, h.get b = some (.loop st o nt tm ps asg body) ∧ st ≠ .busy
def Yld (C : Cfg) (b : Nat) (vs : List V) (h : Heap) (R : V → Heap → Prop) : Prop := ∃ v h', (∃ n, (run C n).1 (.yl b) vs h = some (v, h')) ∧ R v h'
section
variable {C : Cfg} {e : List (Nat × V)} {d : List V} {h : Heap} {Q : Ex → List (Nat × V) → List V → Heap → Prop}
theorem deferred_of {tm tm' : TM} (hx : tm'.get DX = tm.get DX) : deferred tm' = deferred tm := by unfold deferred; rw [hx]
theorem WX.plain {c : AC} (hx : WC C c e h fun x e' h' => Q x e' d h') (hp : c.plain = true := by rfl) : WX C c e d h Q := by
 intro tm hs hd
 obtain ⟨n, x, t, h', q1, e', q2, q3⟩ := hx tm hs
 refine ⟨n, x, t, h', q1, e', q2, ?_⟩
 rw [deferred_of (exec_DX (run_DX C n) c hp q1), hd]
 exact q3
theorem WX.mono {c : AC} {Q' : Ex → List (Nat × V) → List V → Heap → Prop} (hx : WX C c e d h Q) (hq : ∀ x e' d' h', Q x e' d' h' → Q' x e' d' h') : WX C c e d h Q' :=
 fun tm hs hd => (hx tm hs hd).mono fun x t h' ⟨e', q1, q2⟩ => ⟨e', q1, hq _ _ _ _ q2⟩
def ThenX (C : Cfg) (b : AC) (Q : Ex → List (Nat × V) → List V → Heap → Prop) : Ex → List (Nat × V) → List V → Heap → Prop
 | .normal, e, d, h => WX C b e d h Q
 | x, e, d, h => Q x e d h
theorem WX.seq {a b : AC} (hx : WX C a e d h (ThenX C b Q)) : WX C (.seq a b) e d h Q := fun tm hs hd => by
 refine Runs.seq ((hx tm hs hd).mono fun x t h' ⟨e', q1, q2⟩ => ?_)
 cases x with
 | normal => exact q2 t q1 rfl
 | exit i => exact ⟨e', q1, q2⟩
 | ret => exact ⟨e', q1, q2⟩
theorem WX.seqP {a b : AC} (hx : WC C a e h fun x e' h' => ThenX C b Q x e' d h') (hp : a.plain = true := by rfl) : WX C (.seq a b) e d h Q := WX.seq (WX.plain hx hp)
theorem WX.cond {x : Opd} {a b : AC} {t : Bool} (hv : evE e x = some (.bool t)) (h1 : t = true → WX C a e d h Q) (h2 : t = false → WX C b e d h Q) : WX C (.cond x a b) e d h Q := fun tm hs hd => by
 refine Runs.cond (t := t) (hs.ev hv) ?_
 cases t with
 | true => exact h1 rfl tm hs hd
 | false => exact h2 rfl tm hs hd
def AtX (id : Nat) (Q : Ex → List (Nat × V) → List V → Heap → Prop) : Ex → List (Nat × V) → List V → Heap → Prop
 | .exit i, e, d, h => if i = id then Q .normal e d h else Q (.exit i) e d h
 | x, e, d, h => Q x e d h
theorem WX.block {id : Nat} {a : AC} (hx : WX C a e d h (AtX id Q)) : WX C (.block id a) e d h Q := fun tm hs hd => by
 refine Runs.block ((hx tm hs hd).mono fun x t h' ⟨e', q1, q2⟩ => ?_)
 cases x with
 | normal => exact ⟨e', q1, q2⟩
 | ret => exact ⟨e', q1, q2⟩
 | exit i =>
  simp only [AtX] at q2
  simp only [AtExit]
  by_cases hi : i = id
  ·rw [if_pos hi] at q2 ⊢; exact ⟨e', q1, q2⟩
  ·rw [if_neg hi] at q2 ⊢; exact ⟨e', q1, q2⟩
theorem WX.skip (hq : Q .normal e d h) : WX C .skip e d h Q := fun tm hs hd => Runs.skip ⟨e, hs, by rw [hd]; exact hq⟩
theorem WX.ret (hq : Q .ret e d h) : WX C .ret e d h Q := fun tm hs hd => Runs.ret ⟨e, hs, by rw [hd]; exact hq⟩
theorem WX.exit {id : Nat} (hq : Q (.exit id) e d h) : WX C (.exit id) e d h Q := fun tm hs hd => Runs.exit ⟨e, hs, by rw [hd]; exact hq⟩
theorem sub_mark {tm : TM} (hs : Sub e tm) (hD : Env.get e DX = none) (b : Nat) : Sub e (pushMark tm b) := by
 intro k v hk
 unfold pushMark pushD
 rw [TM.get_set, if_neg (by rintro rfl; rw [hD] at hk; cases hk)]
 exact hs k v hk
theorem deferred_mark (tm : TM) (b : Nat) : deferred (pushMark tm b) = .yld b :: deferred tm := by
 conv => lhs; unfold deferred
 unfold pushMark pushD
 rw [TM.get_set, if_pos rfl]
theorem WX.range {nt : Nat} {f : Opd} {ps : List Nat} {asg body : AC} {fi : Nat} {first caps : List V} (hw : Wf h) (hf : evE e f = some (.func (.func fi) first caps)) (hD : Env.get e DX = none)
  (hx : ∀ h2, Grow h h2 → h2.size = h.size + 2 → h2.get h.size = some .dfr → LoopAt h2 (h.size + 1) e ps asg body → (∀ b, b < h.size → h2.get b = h.get b) → h2.low = h.low →
   Ans C fi (first ++ [.yld (h.size + 1)] ++ caps) h2 fun v h' => ∃ o, LoopEnd h' (h.size + 1) o ∧ Q (exOf o) e (.yld h.size :: d) (h'.put (h.size + 1) .dead)) : WX C (.range nt f ps asg body) e d h Q := by
 intro tm hs hd
 have g1 : Grow h (h.push .dfr) := (Grow.refl hw).push _
 have g2 : Grow h ((h.push .dfr).push (.loop .ready none nt tm ps asg body)) := g1.push _
 have e0 : ((h.push .dfr).push (.loop .ready none nt tm ps asg body)).get h.size = some .dfr := by
  rw [get_push, if_neg (by show h.size ≠ h.size + 1; omega), get_push, if_pos rfl]
 have e1 : ((h.push .dfr).push (.loop .ready none nt tm ps asg body)).get (h.size + 1) = some (.loop .ready none nt tm ps asg body) := by
  rw [get_push]; exact if_pos rfl
 obtain ⟨v, h', ⟨n, hn⟩, o, ⟨st, nt', tm', ps', asg', body', q1, q2⟩, q3⟩ := hx _ g2 rfl e0 ⟨nt, tm, e1, hs⟩ (fun b hb => by
  rw [get_push, if_neg (by show b ≠ h.size + 1; omega), get_push, if_neg (by omega)]) rfl
 refine ⟨n, exOf o, pushMark tm h.size, h'.put (h.size + 1) .dead, ?_, e, sub_mark hs hD _, ?_⟩
 ·cases st <;> first | exact absurd rfl q2 | (simp only [execC, hs.ev hf, hn, q1]; done) | (simp only [execC, hs.ev hf, hn, q1]; rfl)
 ·rw [deferred_mark, hd]; exact q3
theorem WO.yld {x : Opd} {xs : List Opd} {l : List AOp} {dst : Nat} {b : Nat} {vs : List V} {R : V → Heap → Prop} {Q : List (Nat × V) → Heap → Prop} (hx : evE e x = some (.yld b)) (hxs : evsE e xs = some vs) (hy : Yld C b vs h R)
  (hq : ∀ v h', R v h' → WO C l ((dst, v) :: e) h' Q) : WO C (⟨some dst, none, .call x xs⟩ :: l) e h Q := by
 intro tm hs
 obtain ⟨v, h', ⟨m, hm⟩, hr⟩ := hy
 obtain ⟨n, t2, h2, q1, q2⟩ := hq v h' hr _ (hs.set dst v)
 refine ⟨max n m, t2, h2, ?_, q2⟩
 unfold runOps stepOp
 simp only [wantedA, opA, hs.ev hx, hs.evs hxs]
 rw [(run_le C (Nat.le_max_right n m)).1 _ _ _ _ hm]
 simp only
 exact runOps_mono (run_le C (Nat.le_max_left n m)).1 l q1
/-! ### A function with ranges -/
def runMarks : List V → Heap → Option Heap
 | [], h => some h
 | .yld b :: r, h => match h.get b with
  | some .dfr => runMarks r (h.put b .dead)
  | _ => none
 | _ :: _, _ => none
theorem marks_defers {exec : LoopF} : ∀ {l : List V} {h h2 : Heap}, runMarks l h = some h2 → runDefers C exec l h = some h2
 | [], h, h2, hx => hx
 | .yld b :: r, h, h2, hx => by
  unfold runMarks at hx
  unfold runDefers
  split at hx
  ·rename_i hg
   rw [hg]
   exact marks_defers hx
  ·cases hx
 | .bool _ :: _, _, _, hx | .int _ _ :: _, _, _, hx | .str _ :: _, _, _, hx | .ptr _ :: _, _, _, hx | .slice .. :: _, _, _, hx | .oslice .. :: _, _, _, hx | .map _ :: _, _, _, hx | .func .. :: _, _, _, hx
 | .nilFunc :: _, _, _, hx | .iface .. :: _, _, _, hx | .nilIface :: _, _, _, hx | .agg _ :: _, _, _, hx | .tuple _ :: _, _, _, hx => by cases hx
theorem Ans.rng {f np : Nat} {res : List Res} {body : AC} {args : List V} {R : V → Heap → Prop} (hS : C.S f args h = none) (hF : C.F f = some ⟨np, res, body⟩) (hl : args.length = np) (hdx : np ≤ DX)
  (hx : WX C body (argsE 0 args []) [] { h with low := h.size } fun x e' d' h1 => (∀ id, x ≠ .exit id) ∧ ∃ h2, runMarks d' h1 = some h2 ∧ ∃ vs, ressE e' h2 res = some vs ∧ R (oneOf vs) { h2 with low := min h.low h2.low } ∧
   (h.size ≤ h2.low → (oneOf vs).scopd h.size = true → R (oneOf vs) h)) : Ans C f args h R := by
 have hd : deferred (argsTM 0 args .nil) = [] := by
  unfold deferred
  rw [argsTM_DX _ _ _ (by omega), TM.get_nil]
 obtain ⟨n, x, t, h1, q1, e1, q2, q3, h2, q4, vs, q5, q6, q7⟩ := hx _ ((Sub.nil (.nil : TM)).args 0 args) hd
 have key : ∀ v h', closeCall h (oneOf vs) h2 = (v, h') → R v h' → Ans C f args h R := by
  intro v h' hc hr
  refine ⟨v, h', ⟨n + 1, ?_⟩, hr⟩
  simp only [run, runF, hS, hF]
  unfold callBody
  rw [if_pos hl, q1]
  cases x with
  | exit id => exact absurd rfl (q3 id)
  | normal => simp only [marks_defers q4, q2.ress q5, hc]
  | ret => simp only [marks_defers q4, q2.ress q5, hc]
 by_cases hc : h.size ≤ h2.low ∧ (oneOf vs).scopd h.size = true
 ·exact key (oneOf vs) h (by simp only [closeCall, if_pos hc]) (q7 hc.1 hc.2)
 ·exact key (oneOf vs) { h2 with low := min h.low h2.low } (by simp only [closeCall, if_neg hc]) q6
end
end
end Abs
end Go.Proofs.YtdebiolekbldiaaGreatDoor
