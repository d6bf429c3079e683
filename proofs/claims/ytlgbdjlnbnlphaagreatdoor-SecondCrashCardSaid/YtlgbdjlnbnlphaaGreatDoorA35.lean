/- The abstract machine: contracts whose answers speak of blocks that were there; rows of bytes in a call's own blocks. The abstract machine: arguments that came in, slices within slices among them. The abstract machine: maps with keys that are int, in contracts. -/
import Derived.Test.YtlgbdjlnbnlphaaGreatDoorA30
import Derived.Test.YtlgbdjlnbnlphaaGreatDoorA25
import Derived.Deep.Strs
import Derived.Lib.SmallJoins
namespace Go.Proofs.YtlgbdjlnbnlphaaGreatDoor
namespace Abs
noncomputable section
set_option linter.unusedVariables false
set_option linter.unusedSimpArgs false
open Go.RowKit

section
variable {C : Cfg} {f : Nat} {args : List V} {h : Heap}
theorem Ans.loc {np : Nat} {res : List Res} {body : AC} {e0 : List (Nat × V)} {R : V → Heap → Prop} (hSm : ∀ f args h v h', C.S f args h = some (some (v, h')) → HM h h') (hS : C.S f args h = none) (hF : C.F f = some ⟨np, res, body⟩) (hl : args.length = np) (he : argsE 0 args [] = e0) (hw : Wf h)
    (hx : ∀ h2, Grow h h2 → h2.size = h.size → (∀ b, h2.get b = h.get b) → WC C body e0 h2 fun x e' h1 => Fin x ∧ ∃ v, retE e' h1 res = some v ∧ ∀ n, R v { h1 with low := n })
    (hloc : ∀ v h1, (∀ b, b < h.size → h1.get b = h.get b) → R v h1 → v.scopd h.size = true → R v h) (hpl : body.plain = true := by rfl) (hdx : np ≤ DX := by decide) : Ans C f args h R := by
  have hx := hx { h with low := h.size } ⟨hw, Nat.le_refl _, fun _ _ q => q⟩ rfl (fun _ => rfl)
  rw [← he] at hx
  have hx := hx _ ((Sub.nil (.nil : TM)).args 0 args)
  have key : ∃ v h', (∃ n x t h1, execC (run C n).1 (run C n).2 body (argsTM 0 args .nil) { h with low := h.size } = some (x, t, h1) ∧ (∀ id, x ≠ .exit id) ∧ ∃ vs, ressA t h1 res = some vs ∧ closeCall h (oneOf vs) h1 = (v, h')) ∧ R v h' := by
    obtain ⟨n, x, t, h1, q1, e1, q2, q3, v, q4, q5⟩ := hx
    have hex : ∀ id, x ≠ .exit id := by intro id hid; subst hid; exact q3
    simp only [retE] at q4
    split at q4
    · rename_i vs q
      cases q4
      by_cases hc : h.size ≤ h1.low ∧ (oneOf vs).scopd h.size = true
      · have hm := (HM.run C hSm (n + 1)).2 body (argsTM 0 args .nil) { h with low := h.size } x t h1 q1
        refine ⟨oneOf vs, h, ⟨n, x, t, h1, q1, hex, vs, q2.ress q, by simp only [closeCall, if_pos hc]⟩, ?_⟩
        exact hloc _ _ (fun b hb => hm.get b (Nat.lt_of_lt_of_le hb hc.1) hb) (q5 h1.low) hc.2
      · exact ⟨oneOf vs, { h1 with low := min h.low h1.low }, ⟨n, x, t, h1, q1, hex, vs, q2.ress q, by simp only [closeCall, if_neg hc]⟩, q5 _⟩
    · cases q4
  obtain ⟨v, h', q1, q2⟩ := key
  exact ⟨v, h', Gives.body hS hF hl hpl (by omega) q1, q2⟩
/-- .. that changes what was there for sure. -/
theorem Ans.mut {np : Nat} {res : List Res} {body : AC} {e0 : List (Nat × V)} {R : V → Heap → Prop} (hS : C.S f args h = none) (hF : C.F f = some ⟨np, res, body⟩) (hl : args.length = np) (he : argsE 0 args [] = e0) (hw : Wf h)
    (hx : ∀ h2, Grow h h2 → h2.size = h.size → (∀ b, h2.get b = h.get b) → WC C body e0 h2 fun x e' h1 => Fin x ∧ ∃ v, retE e' h1 res = some v ∧ h1.low < h.size ∧ ∀ n, R v { h1 with low := n })
    (hpl : body.plain = true := by rfl) (hdx : np ≤ DX := by decide) : Ans C f args h R := by
  have hx := hx { h with low := h.size } ⟨hw, Nat.le_refl _, fun _ _ q => q⟩ rfl (fun _ => rfl)
  rw [← he] at hx
  have hx := hx _ ((Sub.nil (.nil : TM)).args 0 args)
  have key : ∃ v h', (∃ n x t h1, execC (run C n).1 (run C n).2 body (argsTM 0 args .nil) { h with low := h.size } = some (x, t, h1) ∧ (∀ id, x ≠ .exit id) ∧ ∃ vs, ressA t h1 res = some vs ∧ closeCall h (oneOf vs) h1 = (v, h')) ∧ R v h' := by
    obtain ⟨n, x, t, h1, q1, e1, q2, q3, v, q4, lo, q5⟩ := hx
    have hex : ∀ id, x ≠ .exit id := by intro id hid; subst hid; exact q3
    simp only [retE] at q4
    split at q4
    · rename_i vs q
      cases q4
      exact ⟨oneOf vs, { h1 with low := min h.low h1.low }, ⟨n, x, t, h1, q1, hex, vs, q2.ress q, by simp only [closeCall]; rw [if_neg (by omega)]⟩, q5 _⟩
    · cases q4
  obtain ⟨v, h', q1, q2⟩ := key
  exact ⟨v, h', Gives.body hS hF hl hpl (by omega) q1, q2⟩
/-- A call that a summary answers. -/
theorem Ans.sum {R : V → Heap → Prop} {v : V} {h' : Heap} (hS : C.S f args h = some (some (v, h'))) (hr : R v h') : Ans C f args h R := ⟨v, h', Gives.sum hS, hr⟩
end

theorem retE_cells {e : List (Nat × V)} {h : Heap} {t b o n : Nat} {cs : List V} (hg : Env.get e t = some (.ptr (some (b, o)))) (hr : h.rds b o n = some cs) : retE e h [.cell t (some n)] = some (.agg cs) := by
  simp only [retE, ressE, resE, hg, loadA, hr]; rfl
theorem retE_cell {e : List (Nat × V)} {h : Heap} {t b o : Nat} {v : V} (hg : Env.get e t = some (.ptr (some (b, o)))) (hr : h.rd b o = some v) : retE e h [.cell t none] = some v := by
  simp only [retE, ressE, resE, hg, loadA, hr]; rfl
/-- Memory without its mark. -/
theorem Chg.low {F : List Nat} {h h' : Heap} (g : Chg F h h') (n : Nat) : Chg F h { h' with low := n } := ⟨g.wf, g.size, g.keep⟩
theorem Grow.low1 {h h' : Heap} (g : Grow h h') (n : Nat) : Grow h { h' with low := n } := ⟨g.wf, g.size, g.ext⟩
theorem Chg.refl {F : List Nat} {h : Heap} (hw : Wf h) : Chg F h h := ⟨hw, Nat.le_refl _, fun _ _ _ q => q⟩
theorem Grow.of_same {h h2 h3 : Heap} (g : Grow h h3) (hs : h2.size = h.size) (hg : ∀ b, h2.get b = h.get b) : Grow h2 h3 := ⟨g.wf, by rw [hs]; exact g.size, fun b o q => g.ext b o (by rw [← hg]; exact q)⟩
theorem Chg.of_same {F : List Nat} {h h2 h3 : Heap} (g : Chg F h2 h3) (hs : h2.size = h.size) (hg : ∀ b, h2.get b = h.get b) : Chg F h h3 := ⟨g.wf, by rw [← hs]; exact g.size, fun b o q hb => g.keep b o q (by rw [hg]; exact hb)⟩
theorem Wf.same {h h2 : Heap} (hw : Wf h) (hs : h2.size = h.size) (hg : ∀ b, h2.get b = h.get b) : Wf h2 := fun b hb => by rw [hg]; exact hw b (by omega)

/-! ### Cells in a block of a call's own -/
/-- A block of these cells, wholly one's own. -/
def Cl (h : Heap) (b : Nat) (cs : List V) : Prop := ∃ ty, h.get b = some (.cells cs (.tip [] 0 ty))
theorem Cl.grow {h h' : Heap} {b : Nat} {cs : List V} (a : Cl h b cs) (g : Grow h h') : Cl h' b cs := a.imp fun _ q => g.ext _ _ q
theorem Cl.chg {F : List Nat} {h h' : Heap} {b : Nat} {cs : List V} (a : Cl h b cs) (g : Chg F h h') (hb : b ∉ F) : Cl h' b cs := a.imp fun _ q => g.keep _ _ hb q
theorem Cl.lt {h : Heap} {b : Nat} {cs : List V} (a : Cl h b cs) (hw : Wf h) : b < h.size := by obtain ⟨ty, q⟩ := a; exact Wf.lt hw q
theorem Cl.low {h : Heap} {b : Nat} {cs : List V} (a : Cl h b cs) (n : Nat) : Cl { h with low := n } b cs := a
theorem Cl.rd {h : Heap} {b : Nat} {cs : List V} (a : Cl h b cs) {i : Nat} {v : V} (hi : cs[i]? = some v) : h.rd b i = some v := by obtain ⟨ty, q⟩ := a; rw [rd_cell q, hi]
theorem Cl.rds {h : Heap} {b : Nat} {cs : List V} (a : Cl h b cs) {k : Nat} (hk : cs.length = k) : h.rds b 0 k = some cs := by obtain ⟨ty, q⟩ := a; exact rds_all q hk
theorem Cl.rdsAt {h : Heap} {b o n : Nat} {cs : List V} (a : Cl h b cs) (hk : o + n ≤ cs.length) : h.rds b o n = some ((cs.drop o).take n) := by
  obtain ⟨ty, q⟩ := a; simp only [Heap.rds, q]; rw [if_pos hk]
theorem Cl.of_get {h h1 : Heap} {b : Nat} {cs : List V} (a : Cl h1 b cs) (hg : h1.get b = h.get b) : Cl h b cs := a.imp fun _ q => by rw [← hg]; exact q
theorem Cl.new (h : Heap) (cs : List V) (ty : Option Nat) : Cl (h.push (.cells cs (.tip [] 0 ty))) h.size cs := ⟨ty, get_push_self _ _⟩
/-- One cell is written. -/
theorem Cl.set {h : Heap} (hw : Wf h) {b : Nat} {cs : List V} (a : Cl h b cs) {i : Nat} (hi : i < cs.length) {v : V} (hv : V.one v = true) :
    ∃ h', h.wr b i [v] = some h' ∧ Cl h' b (cs.set i v) ∧ Chg [b] h h' ∧ h'.size = h.size := by
  obtain ⟨ty, q⟩ := a
  exact ⟨_, wr_cell q hi hv, ⟨ty, by rw [get_put, if_pos rfl]⟩, Chg.put hw (Wf.lt hw q) _, rfl⟩
/-- Some cells are written. -/
theorem Cl.sets {h : Heap} (hw : Wf h) {b : Nat} {cs : List V} (a : Cl h b cs) {i : Nat} {us : List V} (hi : i + us.length ≤ cs.length) (hv : us.all V.one = true) :
    ∃ h', h.wr b i us = some h' ∧ Cl h' b (splice cs i us) ∧ Chg [b] h h' ∧ h'.size = h.size := by
  obtain ⟨ty, q⟩ := a
  refine ⟨h.put b (.cells (splice cs i us) (.tip [] 0 ty)), ?_, ⟨ty, by rw [get_put, if_pos rfl]⟩, Chg.put hw (Wf.lt hw q) _, rfl⟩
  simp only [Heap.wr, q]
  rw [if_pos ⟨Nat.zero_le _, hi, hv⟩]; rfl
/-- A change of a block that is new is growth. -/
theorem Chg.newGrow {h0 h h' : Heap} {F : List Nat} (g : Grow h0 h) (c : Chg F h h') (hw0 : Wf h0) (hF : ∀ b ∈ F, h0.size ≤ b) : Grow h0 h' :=
  ⟨c.wf, Nat.le_trans g.size c.size, fun b o q => c.keep b o (fun hb => by have := hF b hb; have := Wf.lt hw0 q; omega) (g.ext b o q)⟩

/-- A list of one item, as it is built. -/
theorem sl_one {h : Heap} {u sz : Nat} {c : List V} {st : St} (hg : h.get u = some (.cells c st)) (hc : c.length = sz) : Sl h sz (.slice (some (u, 0)) 1 1) [c] := by
  refine ⟨by simpa using hc, rfl, Nat.le_refl _, fun _ => ?_⟩
  have := rds_all hg (n := 1 * sz) (by omega)
  simpa using this
/-- What appending to a list of one's own leaves as it was: all blocks but the list's. -/
def Frm (x : V) (h h' : Heap) : Prop := ∀ b o, h.get b = some o → Off x b → h'.get b = some o
theorem Cl.frm {x : V} {h h' : Heap} {b : Nat} {cs : List V} (a : Cl h b cs) (f : Frm x h h') (ho : Off x b) : Cl h' b cs := a.imp fun _ q => f _ _ q ho
theorem Off.of_lt {h : Heap} {low sz : Nat} {x : V} {es : List (List V)} (g : Grown h low sz x es) {b : Nat} (hb : b < low) : Off x b := by
  obtain ⟨_, ⟨rfl, _⟩ | ⟨b', S, ty, rfl, _, q, _⟩⟩ := g
  · exact Off.nil b
  · intro b2 o l k z e; cases e; omega
theorem Grown.one {h : Heap} {low sz : Nat} {x : V} {es : List (List V)} (g : Grown h low sz x es) : V.one x = true := by
  obtain ⟨_, ⟨rfl, _⟩ | ⟨b', S, ty, rfl, _, q, _⟩⟩ := g <;> rfl
theorem Grown.chg {F : List Nat} {h h' : Heap} {low sz : Nat} {x : V} {es : List (List V)} (g : Grown h low sz x es) (c : Chg F h h') (ho : ∀ b ∈ F, Off x b) : Grown h' low sz x es :=
  g.frame fun b o hg o2 l k z e => c.keep b o (fun hb => ho b hb b o2 l k z e rfl) hg
theorem Grown.up {h : Heap} {low low' sz : Nat} {x : V} {es : List (List V)} (g : Grown h low sz x es) (hl : low' ≤ low) : Grown h low' sz x es := by
  obtain ⟨w1, w2 | ⟨b, S, ty, w3, w4, w5, w6⟩⟩ := g
  · exact ⟨w1, .inl w2⟩
  · exact ⟨w1, .inr ⟨b, S, ty, w3, w4, ⟨Nat.le_trans hl w5.1, fun s hs => Nat.le_trans hl (w5.2 s hs)⟩, w6⟩⟩
theorem Grown.same {h h' : Heap} {low sz : Nat} {x : V} {es : List (List V)} (g : Grown h low sz x es) (hg : ∀ b, h'.get b = h.get b) : Grown h' low sz x es :=
  g.frame fun b o q _ _ _ _ _ => by rw [hg]; exact q
theorem roomy48 {n : Nat} (h : n ≤ 1000000000) : roomy n 48 = true := by
  unfold roomy; exact decide_eq_true (by omega)
theorem roomy8 {n : Nat} (h : n ≤ 1000000000) : roomy n 8 = true := by
  unfold roomy; exact decide_eq_true (by omega)

/-! ### Bytes -/
abbrev bv (n : Nat) : V := .int .u8 (Int.ofNat n)
theorem u8s_bv : ∀ l : List Nat, (∀ b ∈ l, b < 256) → u8s (l.map bv) = some l
  | [], _ => rfl
  | a :: l, h => by
    have h1 := u8s_bv l fun b hb => h b (List.mem_cons_of_mem _ hb)
    have h2 := h a List.mem_cons_self
    simp only [List.map_cons, u8s, h1]
    rw [show (Int.ofNat a).toNat = a from rfl, Nat.mod_eq_of_lt h2]
theorem bv_one (l : List Nat) : (l.map bv).all V.one = true := by
  rw [List.all_eq_true]; intro v hv
  obtain ⟨x, _, rfl⟩ := List.mem_map.1 hv
  rfl
theorem toStr_cl {h : Heap} {b n c : Nat} {l : List Nat} (a : Cl h b (l.map bv)) (hn : l.length = n) (hb : ∀ x ∈ l, x < 256) : toStrA h (.slice (some (b, 0)) n c) = some (.str l) := by
  simp only [toStrA, slLen, slCells]
  by_cases h0 : n = 0
  · subst hn
    have : l = [] := List.length_eq_zero_iff.1 h0
    subst this; rfl
  · rw [if_neg h0, Nat.mul_one, a.rds (by simpa using hn)]
    simp only [u8s_bv l hb]
theorem reps_bv (n : Nat) : reps n [bv 0] = (List.replicate n 0).map bv := by
  induction n with
  | zero => rfl
  | succ n ih => simp only [reps, ih, List.replicate_succ, List.map_cons]; rfl
theorem add_str {a b : List Nat} (h : a.length + b.length ≤ 4611686018427387904) : binA .add (.str a) (.str b) = some (.str (a ++ b)) := by
  simp only [binA]; rw [if_pos h]
theorem str_lo {s : List Nat} {n : Int} (h0 : 0 ≤ n) (h1 : n ≤ s.length) : sliceStrA (.str s) none (some (.int .i64 n)) = some (.str (s.take n.toNat)) := by
  simp only [sliceStrA, boundsA, intV]
  rw [if_pos ⟨h0, by omega⟩]
  simp
theorem str_hi {s : List Nat} {n : Int} (h0 : 0 ≤ n) (h1 : n ≤ s.length) : sliceStrA (.str s) (some (.int .i64 n)) none = some (.str (s.drop n.toNat)) := by
  simp only [sliceStrA, boundsA, intV]
  rw [if_pos ⟨h0, by omega⟩]
  simp only [Option.some.injEq, V.str.injEq]
  rw [List.take_of_length_le (by rw [List.length_drop]; omega)]
theorem str_mid {s : List Nat} {m n : Int} (h0 : 0 ≤ m) (h1 : m ≤ n) (h2 : n ≤ s.length) : sliceStrA (.str s) (some (.int .i64 m)) (some (.int .i64 n)) = some (.str ((s.drop m.toNat).take (n.toNat - m.toNat))) := by
  simp only [sliceStrA, boundsA, intV]
  rw [if_pos ⟨by omega, by omega⟩]
  simp only
  rw [if_pos ⟨h0, by omega⟩]
theorem fdiv_pow (n k : Nat) : ((n : Int).fdiv (2 ^ k)) = ((n / 2 ^ k : Nat) : Int) := by
  rw [Int.fdiv_eq_ediv_of_nonneg _ (by exact Int.le_of_lt (Int.pow_pos (by decide)))]
  simp
end
end Abs
end Go.Proofs.YtlgbdjlnbnlphaaGreatDoor
namespace Go.Proofs.YtlgbdjlnbnlphaaGreatDoor
namespace Abs
noncomputable section
set_option linter.unusedVariables false
set_option linter.unusedSimpArgs false
open Go.RowKit Go.ChangeShapes Go.WideShapes

theorem VRs.mono' {ρ ρ' : Rho} (hρ : RLe ρ ρ') {x : List V} {a : List Value} (h : VRs ρ x a) : VRs ρ' x a := h.mono hρ
theorem VRs.len {ρ : Rho} : ∀ {x : List V} {a : List Value}, VRs ρ x a → x.length = a.length
  | _, _, .nil => rfl
  | _, _, .cons _ _ _ _ _ t => by simp [VRs.len t]

section
variable {H : Type} {enc : TypeId × Value → H} {P : Program} {w : World} {held : Bool}

theorem cells_head {a : Addr} {sz : Nat} (hsz : sz ≠ 0) {cs : List Value} (h : w.cells? 0 a sz = some cs) : a.block < w.heap.size ∧ a.spot = none := by
  obtain ⟨_, hl, hc⟩ := World.cells?_some h
  have := hc 0 (by omega)
  rw [List.getElem?_eq_getElem (by omega)] at this
  have h0 : a.add 0 = a := rfl
  rw [h0] at this
  unfold World.cell? at this
  split at this
  · rename_i c _ _ q
    refine ⟨(Array.getElem?_eq_some_iff.1 q).1, ?_⟩
    cases hs : a.spot with
    | none => rfl
    | some s => rw [hs] at this; simp at this
  · cases this

/-- A slice that came in; its items are opened one by one. -/
theorem open_slT {t e : TypeId} {sz : Nat} (hsz : sz ≠ 0) (ht : P.underlying t = some (.slice e)) (hc : P.cellsOf e = sz) {fuel : Nat} {cs : List Value} {y : DataW H × List MemPlace} (hd : DataW.trod enc P w 0 (fun _ => true) held fuel t cs = some y)
    (φ : Heap → List V → Prop) (hφ : ∀ h h' c, Grow h h' → φ h c → φ h' c)
    (hel : ∀ n cs y, DataW.trod enc P w 0 (fun _ => true) held n e cs = some y → ∀ ρ h, Rel P w.heap.size w ρ h w → ∃ ρ' h' vs, Rel P w.heap.size w ρ' h' w ∧ RLe ρ ρ' ∧ Grow h h' ∧ VRs ρ' vs cs ∧ vs.length = sz ∧ φ h' vs)
    {ρ : Rho} {h : Heap} (r : Rel P w.heap.size w ρ h w) (hpos : 0 < w.heap.size) :
    ∃ ρ' h' x es, Rel P w.heap.size w ρ' h' w ∧ RLe ρ ρ' ∧ Grow h h' ∧ VRs ρ' [x] cs ∧ Sl h' sz x es ∧ (∀ c ∈ es, φ h' c) ∧ es.length ≤ maxLen := by
  rcases DataW.trod_slice ht hd with ⟨h0, _⟩ | ⟨a, len, cap, elems, rest, n, _, h0, _, _, hl, hm, hlen, he, hrest, _⟩
  · subst h0
    exact ⟨ρ, h, .slice none 0 0, [], r, fun _ _ q => q, Grow.refl r.fresh, .cons _ _ _ _ .sliceNil .nil, Sl.nil h sz, by simp, by simp [maxLen]⟩
  subst h0
  by_cases hcap : cap = 0
  · subst hcap
    obtain rfl : len = 0 := by omega
    have hg := r.glob 0 (by decide)
    refine ⟨ρ, h, .slice (some (0, 0)) 0 0, [], r, fun _ _ q => q, Grow.refl r.fresh, .cons _ _ _ _ (.slice 0 0 0 0 ⟨0, 0, 0⟩ a hg (fun q => absurd rfl q) (Nat.le_refl _)) .nil, ⟨by simp, rfl, Nat.le_refl _, by simp⟩, by simp, by simp [maxLen]⟩
  have head : a.block < w.heap.size ∧ a.spot = none := by
    by_cases hl0 : len = 0
    · obtain ⟨q1, q2⟩ := hrest rfl
      have := q2 0 (by omega)
      rw [List.getElem?_eq_getElem (by omega), Option.bind_eq_some_iff] at this
      obtain ⟨cs, g1, _⟩ := this
      subst hl0
      simp only [Nat.zero_add, Nat.zero_mul, hc] at g1
      exact cells_head hsz g1
    · have := he 0 (by omega)
      rw [List.getElem?_eq_getElem (by omega), Option.bind_eq_some_iff] at this
      obtain ⟨cs, g1, _⟩ := this
      simp only [Nat.zero_mul, hc] at g1
      exact cells_head hsz g1
  obtain ⟨hblk, hspot⟩ := head
  have ha : a = at_ ⟨a.block, a.off, 0⟩ 0 := by
    cases a; simp only at hspot; subst hspot; rfl
  have key : ∀ m, m ≤ len → ∃ ρ' h', ∃ es : List (List V), Rel P w.heap.size w ρ' h' w ∧ RLe ρ ρ' ∧ Grow h h' ∧ es.length = m ∧ (∀ c ∈ es, c.length = sz ∧ φ h' c) ∧ ∀ j v, es.flatten[j]? = some v → ∃ u, w.cell? (at_ ⟨a.block, a.off, 0⟩ j) = some u ∧ VR ρ' v u := by
    intro m
    induction m with
    | zero => intro _; exact ⟨ρ, h, [], r, fun _ _ q => q, Grow.refl r.fresh, rfl, by simp, by simp⟩
    | succ m ih =>
      intro hm'
      obtain ⟨ρ1, h1, es, r1, hle1, gr1, q1, q2, q3⟩ := ih (by omega)
      have hi := he m (by omega)
      have hel' : elems[m]? = some elems[m] := List.getElem?_eq_getElem (by omega)
      rw [hel', Option.bind_eq_some_iff] at hi
      obtain ⟨cs, g1, g2⟩ := hi
      obtain ⟨ρ2, h2, vs, r2, hle2, gr2, p1, p2, p3⟩ := hel _ _ _ g2 ρ1 h1 r1
      rw [hc] at g1
      obtain ⟨_, g3, g4⟩ := World.cells?_some g1
      refine ⟨ρ2, h2, es ++ [vs], r2, fun b e hb => hle2 b e (hle1 b e hb), gr1.trans gr2, by simp [q1], ?_, ?_⟩
      · intro c hcm
        rcases List.mem_append.1 hcm with q | q
        · exact ⟨(q2 c q).1, hφ _ _ _ gr2 (q2 c q).2⟩
        · simp at q; subst q; exact ⟨p2, p3⟩
      · intro j v hj
        have hfl := flat_len (fun c hc => (q2 c hc).1)
        rw [List.flatten_append, List.flatten_cons, List.flatten_nil, List.append_nil] at hj
        by_cases hjl : j < es.flatten.length
        · rw [List.getElem?_append_left hjl] at hj
          obtain ⟨u, s1, s2⟩ := q3 j v hj
          exact ⟨u, s1, s2.mono hle2⟩
        · rw [List.getElem?_append_right (by omega)] at hj
          obtain ⟨u, s1, s2⟩ := VRs.at p1 hj
          refine ⟨u, ?_, s2⟩
          have hlt : j - es.flatten.length < sz := by
            have := (List.getElem?_eq_some_iff.1 hj).1; omega
          have := g4 _ hlt
          rw [s1] at this
          rw [ha, at_add, at_add] at this
          rw [← this, hfl, q1]
          congr 2; rw [hfl, q1] at hjl; omega
  obtain ⟨ρ1, h1, es, r1, hle1, gr1, q1, q2, q3⟩ := key len (Nat.le_refl _)
  have hcf : CellFacts ρ1 w ⟨a.block, a.off, 0⟩ es.flatten := fun i v hv => by
    obtain ⟨u, g1, g2⟩ := q3 i v hv
    exact ⟨u, g1, g2⟩
  obtain ⟨r', hle⟩ := r1.addRo ⟨a.block, a.off, 0⟩ es.flatten hblk hcf
  have gp := (Grow.refl r1.fresh).push (.cells es.flatten .ro)
  refine ⟨_, _, .slice (some (h1.size, 0)) len cap, es, r', fun b e hb => hle b e (hle1 b e hb), gr1.trans gp, .cons _ _ _ _ ?_ .nil, ⟨fun c hc => (q2 c hc).1, q1.symm, hl, fun _ => rds_all (get_push_self _ _) (flat_len fun c hc => (q2 c hc).1)⟩, fun c hc => hφ _ _ _ gp (q2 c hc).2, by omega⟩
  exact .slice h1.size 0 len cap ⟨a.block, a.off, 0⟩ a (by simp) (fun _ => ha) hl

theorem wf64 {n : Int} (h : (Lit.int .i64 n).wf = true) : -9223372036854775808 ≤ n ∧ n < 9223372036854775808 := by
  simp only [Lit.wf, Bool.and_eq_true, decide_eq_true_eq, IntKind.min, IntKind.max, IntKind.signed, IntKind.bits, if_true] at h
  omega
theorem strOf_lt (s : ByteArray) : ∀ b ∈ strOf s, b < 256 := by
  intro b hb
  unfold strOf at hb
  obtain ⟨x, _, rfl⟩ := List.mem_map.1 hb
  exact x.toNat_lt
theorem strOf_len (s : ByteArray) : (strOf s).length = s.size := by
  unfold strOf; rw [List.length_map]; rfl
/-- A struct by value, its cells opened. -/
theorem struct_cells {t : TypeId} {fs : Array Field} {v : Value} {rc : Reach} {b0 : Nat} {d : DataW H} {p : List MemPlace} (ht : P.underlying t = some (.struct fs)) (hval : Value.okWide P w rc b0 t v) (h : DataW.Trod enc P w 0 (fun _ => true) held t v d p) :
    ∃ (cs : Array Value) (fuel : Nat), v = .agg cs ∧ DataW.trod enc P w 0 (fun _ => true) held fuel t cs.toList = some (d, p) := by
  obtain ⟨cs, rfl, _⟩ := okWide_struct ht hval
  obtain ⟨fuel, hf⟩ := h
  exact ⟨cs, fuel, rfl, hf⟩
end
end
end Abs
end Go.Proofs.YtlgbdjlnbnlphaaGreatDoor
namespace Go.Proofs.YtlgbdjlnbnlphaaGreatDoor
namespace Abs
noncomputable section
set_option linter.unusedVariables false
set_option linter.unusedSimpArgs false
open Go.RowKit

namespace StepK
variable {e : List (Nat × V)} {h h' : Heap} {x y z : Opd} {a b c v : V}
theorem lookup {kk : FK} {zero : V} {ok : Bool} (hx : evE e x = some a) (hy : evE e y = some b) (hl : lookupA h kk zero ok a b = some v) : StepK e h (.lookup kk zero ok x y) v h := fun tm hs => by simp only [opK, hs.ev hx, hs.ev hy, hl]
theorem mapUpd {kk : FK} (hx : evE e x = some a) (hy : evE e y = some b) (hz : evE e z = some c) (hl : mapUpdA h kk a b c = some h') : StepK e h (.mapUpd kk x y z) undefV h' := fun tm hs => by simp only [opK, hs.ev hx, hs.ev hy, hs.ev hz, hl]
theorem mapDel {kk : FK} (hx : evE e x = some a) (hy : evE e y = some b) (hl : mapDelA h kk a b = some h') : StepK e h (.mapDel kk x y) (.tuple []) h' := fun tm hs => by simp only [opK, hs.ev hx, hs.ev hy, hl]
theorem mapLen (hx : evE e x = some a) {es : List (V × V)} (hl : mapOf h a = some es) : StepK e h (.mapLen x) (.int .i64 es.length) h := fun tm hs => by simp only [opK, hs.ev hx, hl]
end StepK

/-! ### Maps by keys that are int: entries in their order -/
section
variable {β : Type}
def findI (k : Int) : List (Int × β) → Option β
  | [] => none
  | (a, v) :: r => if k = a then some v else findI k r
def updI (k : Int) (v : β) : List (Int × β) → List (Int × β)
  | [] => [(k, v)]
  | (a, w) :: r => if k = a then (k, v) :: r else (a, w) :: updI k v r
def delI (k : Int) : List (Int × β) → List (Int × β)
  | [] => []
  | (a, w) :: r => if k = a then r else (a, w) :: delI k r
theorem findI_upd (k j : Int) (v : β) : ∀ A : List (Int × β), findI j (updI k v A) = if j = k then some v else findI j A
  | [] => by simp only [updI, findI]
  | (a, w) :: r => by
    simp only [updI]
    by_cases h : k = a
    · rw [if_pos h]
      simp only [findI]
      by_cases hj : j = k
      · rw [if_pos hj, if_pos hj]
      · rw [if_neg hj, if_neg hj, if_neg (fun q => hj (q.trans h.symm))]
    · rw [if_neg h]
      simp only [findI]
      rw [findI_upd k j v r]
      by_cases hj : j = a
      · rw [if_pos hj, if_neg (fun q => h (q.symm.trans hj)), if_pos hj]
      · rw [if_neg hj, if_neg hj]
theorem findI_none {k : Int} : ∀ {A : List (Int × β)}, findI k A = none ↔ k ∉ A.map (·.1)
  | [] => by simp [findI]
  | (a, w) :: r => by
    simp only [findI, List.map_cons, List.mem_cons, not_or]
    by_cases h : k = a
    · rw [if_pos h]; simp [h]
    · rw [if_neg h, findI_none]; simp [h]
theorem findI_mem {k : Int} {A : List (Int × β)} (h : k ∈ A.map (·.1)) : ∃ v, findI k A = some v := by
  cases q : findI k A with
  | some v => exact ⟨v, rfl⟩
  | none => exact absurd h (findI_none.1 q)
/-- No key twice. -/
def Keys1 (A : List (Int × β)) : Prop := (A.map (·.1)).Nodup
theorem updI_keys (k : Int) (v : β) : ∀ A : List (Int × β), (updI k v A).map (·.1) = if k ∈ A.map (·.1) then A.map (·.1) else A.map (·.1) ++ [k]
  | [] => by simp [updI]
  | (a, w) :: r => by
    simp only [updI]
    by_cases h : k = a
    · rw [if_pos h]; simp [h]
    · rw [if_neg h]
      simp only [List.map_cons, updI_keys k v r, List.mem_cons, h, false_or]
      split <;> rfl
theorem Keys1.upd {A : List (Int × β)} (h : Keys1 A) (k : Int) (v : β) : Keys1 (updI k v A) := by
  unfold Keys1 at h ⊢
  rw [updI_keys]
  split
  · exact h
  · rename_i q
    rw [List.nodup_append]
    refine ⟨h, by simp, ?_⟩
    intro a ha b hb e
    obtain rfl := List.mem_singleton.1 hb
    subst e; exact q ha
theorem updI_len (k : Int) (v : β) (A : List (Int × β)) : (updI k v A).length = if k ∈ A.map (·.1) then A.length else A.length + 1 := by
  have := congrArg List.length (updI_keys k v A)
  rw [List.length_map] at this
  rw [this]
  split <;> simp
theorem delI_keys (k : Int) : ∀ A : List (Int × β), (delI k A).map (·.1) = (A.map (·.1)).erase k
  | [] => rfl
  | (a, w) :: r => by
    simp only [delI, List.map_cons]
    by_cases h : k = a
    · rw [if_pos h, h, List.erase_cons_head]
    · rw [if_neg h, List.map_cons, delI_keys k r, List.erase_cons_tail (by simpa using fun q => h q.symm)]
theorem Keys1.del {A : List (Int × β)} (h : Keys1 A) (k : Int) : Keys1 (delI k A) := by
  unfold Keys1 at h ⊢
  rw [delI_keys]; exact h.erase k
theorem findI_del {A : List (Int × β)} (hA : Keys1 A) (k j : Int) : findI j (delI k A) = if j = k then none else findI j A := by
  induction A with
  | nil => simp [delI, findI]
  | cons p r ih =>
    obtain ⟨a, w⟩ := p
    have hn := List.nodup_cons.1 hA
    simp only [delI]
    by_cases h : k = a
    · rw [if_pos h]
      by_cases hj : j = k
      · rw [if_pos hj, findI_none]
        rw [hj, h]; exact hn.1
      · rw [if_neg hj]
        simp only [findI]
        rw [if_neg (fun q => hj (q.trans h.symm))]
    · rw [if_neg h]
      simp only [findI]
      rw [ih hn.2]
      by_cases hj : j = a
      · rw [if_pos hj, if_neg (fun q => h (q.symm.trans hj)), if_pos hj]
      · rw [if_neg hj, if_neg hj]

/-- A map in memory; g: what its values are as the machine has them. -/
def MapI (g : β → V) (h : Heap) (b : Nat) (A : List (Int × β)) : Prop :=
  Keys1 A ∧ ∃ bs cl, h.get b = some (.map (A.map fun p => (V.int .i64 p.1, g p.2)) bs cl) ∧ incN cl bs = true ∧ bs.length = A.length
theorem MapI.grow {g : β → V} {h h' : Heap} {b : Nat} {A : List (Int × β)} (m : MapI g h b A) (gr : Grow h h') : MapI g h' b A :=
  ⟨m.1, let ⟨bs, cl, q1, q2⟩ := m.2; ⟨bs, cl, gr.ext _ _ q1, q2⟩⟩
theorem MapI.chg {g : β → V} {F : List Nat} {h h' : Heap} {b : Nat} {A : List (Int × β)} (m : MapI g h b A) (gr : Chg F h h') (hb : b ∉ F) : MapI g h' b A :=
  ⟨m.1, let ⟨bs, cl, q1, q2⟩ := m.2; ⟨bs, cl, gr.keep _ _ hb q1, q2⟩⟩
theorem MapI.frm {g : β → V} {x : V} {h h' : Heap} {b : Nat} {A : List (Int × β)} (m : MapI g h b A) (f : Frm x h h') (ho : Off x b) : MapI g h' b A :=
  ⟨m.1, let ⟨bs, cl, q1, q2⟩ := m.2; ⟨bs, cl, f _ _ q1 ho, q2⟩⟩
theorem MapI.of_get {g : β → V} {h h1 : Heap} {b : Nat} {A : List (Int × β)} (m : MapI g h1 b A) (hg : h1.get b = h.get b) : MapI g h b A :=
  ⟨m.1, let ⟨bs, cl, q1, q2⟩ := m.2; ⟨bs, cl, by rw [← hg]; exact q1, q2⟩⟩
theorem MapI.lt {g : β → V} {h : Heap} {b : Nat} {A : List (Int × β)} (m : MapI g h b A) (hw : Wf h) : b < h.size := by
  obtain ⟨_, bs, cl, q, _⟩ := m; exact Wf.lt hw q
theorem MapI.new (g : β → V) (h : Heap) : MapI g (h.push (.map [] [] 0)) h.size [] := ⟨List.nodup_nil, [], 0, get_push_self _ _, rfl, rfl⟩
theorem findM_I (g : β → V) (k : Int) : ∀ A : List (Int × β), findM (.int .i64 k) (A.map fun p => (V.int .i64 p.1, g p.2)) = (findI k A).map g
  | [] => rfl
  | (a, w) :: r => by
    simp only [List.map_cons, findM, V.beq, decide_true, Bool.true_and, beq_iff_eq, findI]
    by_cases h : k = a
    · rw [if_pos h, if_pos h]; rfl
    · rw [if_neg h, if_neg h]; exact findM_I g k r
theorem updM_I (g : β → V) (k : Int) (v : β) : ∀ A : List (Int × β), updM (.int .i64 k) (g v) (A.map fun p => (V.int .i64 p.1, g p.2)) = (updI k v A).map fun p => (V.int .i64 p.1, g p.2)
  | [] => rfl
  | (a, w) :: r => by
    simp only [List.map_cons, updM, V.beq, decide_true, Bool.true_and, beq_iff_eq, updI]
    by_cases h : k = a
    · rw [if_pos h, if_pos h]; rfl
    · rw [if_neg h, if_neg h, List.map_cons, updM_I g k v r]
theorem delM_I (g : β → V) (k : Int) : ∀ A : List (Int × β), delM (.int .i64 k) (A.map fun p => (V.int .i64 p.1, g p.2)) = (delI k A).map fun p => (V.int .i64 p.1, g p.2)
  | [] => rfl
  | (a, w) :: r => by
    simp only [List.map_cons, delM, V.beq, decide_true, Bool.true_and, beq_iff_eq, delI]
    by_cases h : k = a
    · rw [if_pos h, if_pos h]
    · rw [if_neg h, if_neg h, List.map_cons, delM_I g k r]
theorem keysOk_I (g : β → V) (k : Int) (A : List (Int × β)) : keysOk .int (.int .i64 k) (A.map fun p => (V.int .i64 p.1, g p.2)) = true := by
  simp only [keysOk, sameKind, decide_true, Bool.true_and, List.all_map, Function.comp_def]
  rw [List.all_eq_true]; intro x _; rfl
theorem MapI.look {g : β → V} {h : Heap} {b : Nat} {A : List (Int × β)} (m : MapI g h b A) (k : Int) (zero : V) : lookupA h .int zero true (.map (some b)) (.int .i64 k) = some (match findI k A with | some v => .tuple [g v, .bool true] | none => .tuple [zero, .bool false]) := by
  obtain ⟨_, bs, cl, q, _⟩ := m
  simp only [lookupA, mapOf, q, keysOk_I, if_true, findM_I]
  cases findI k A <;> rfl
theorem MapI.look1 {g : β → V} {h : Heap} {b : Nat} {A : List (Int × β)} (m : MapI g h b A) (k : Int) (zero : V) : lookupA h .int zero false (.map (some b)) (.int .i64 k) = some (match findI k A with | some v => g v | none => zero) := by
  obtain ⟨_, bs, cl, q, _⟩ := m
  simp only [lookupA, mapOf, q, keysOk_I, if_true, findM_I]
  cases findI k A <;> rfl
theorem incN_snoc {cl : Nat} : ∀ {bs : List Nat}, incN cl bs = true → incN (cl + 1) (bs ++ [cl]) = true
  | [], _ => by simp [incN]
  | [a], h => by
    simp only [incN, decide_eq_true_eq] at h
    simp [incN, h]
  | a :: b :: r, h => by
    simp only [incN, Bool.and_eq_true, List.cons_append] at h ⊢
    exact ⟨h.1, incN_snoc (bs := b :: r) h.2⟩
theorem MapI.upd {g : β → V} {h : Heap} (hw : Wf h) {b : Nat} {A : List (Int × β)} (m : MapI g h b A) (k : Int) (v : β) :
    ∃ h', mapUpdA h .int (.map (some b)) (.int .i64 k) (g v) = some h' ∧ MapI g h' b (updI k v A) ∧ Chg [b] h h' ∧ h'.size = h.size := by
  obtain ⟨hk, bs, cl, q, q2, q3⟩ := m
  have hb := Wf.lt hw q
  have hlen := updI_len k v A
  simp only [mapUpdA, q, keysOk_I, if_true, findM_I, updM_I]
  refine ⟨_, rfl, ?_, Chg.put hw hb _, rfl⟩
  cases hf : findI k A with
  | some w =>
    have : k ∈ A.map (·.1) := by
      refine Decidable.byContradiction fun hn => ?_
      rw [findI_none.2 hn] at hf; cases hf
    rw [if_pos this] at hlen
    exact ⟨hk.upd k v, bs, cl, by rw [get_put, if_pos rfl]; rfl, q2, by rw [q3, hlen]⟩
  | none =>
    rw [if_neg (findI_none.1 hf)] at hlen
    exact ⟨hk.upd k v, bs ++ [cl], cl + 1, by rw [get_put, if_pos rfl]; rfl, incN_snoc q2, by rw [List.length_append, q3, hlen]; rfl⟩
theorem incN_mono (cl : Nat) {bs : List Nat} (h : bs.Pairwise (· < ·) ∧ ∀ x ∈ bs, x < cl) : incN cl bs = true := by
  induction bs with
  | nil => rfl
  | cons a r ih =>
    have hp := List.pairwise_cons.1 h.1
    cases r with
    | nil => simp only [incN, decide_eq_true_eq]; exact h.2 a List.mem_cons_self
    | cons b r =>
      simp only [incN, Bool.and_eq_true, decide_eq_true_eq]
      exact ⟨hp.1 b List.mem_cons_self, ih ⟨hp.2, fun x hx => h.2 x (List.mem_cons_of_mem _ hx)⟩⟩
theorem delB_sub (k : V) : ∀ (es : List (V × V)) (bs : List Nat), (delB k es bs).Sublist bs
  | [], bs => by cases bs <;> exact .refl _
  | _ :: _, [] => .refl _
  | (a, w) :: r, b :: s => by
    simp only [delB]
    split
    · exact List.sublist_cons_self _ _
    · exact (delB_sub k r s).cons_cons _
theorem delB_len (k : V) : ∀ (es : List (V × V)) (bs : List Nat), bs.length = es.length → (delB k es bs).length = (delM k es).length
  | [], [], _ => rfl
  | (a, w) :: r, b :: s, h => by
    simp only [delB, delM]
    split
    · simpa using h
    · simp only [List.length_cons, delB_len k r s (by simpa using h)]
theorem MapI.del {g : β → V} {h : Heap} (hw : Wf h) {b : Nat} {A : List (Int × β)} (m : MapI g h b A) (k : Int) :
    ∃ h', mapDelA h .int (.map (some b)) (.int .i64 k) = some h' ∧ MapI g h' b (delI k A) ∧ Chg [b] h h' ∧ h'.size = h.size := by
  obtain ⟨hk, bs, cl, q, q2, q3⟩ := m
  have hb := Wf.lt hw q
  simp only [mapDelA, q, keysOk_I, if_true, delM_I]
  have hsub := delB_sub (.int .i64 k) (A.map fun p => (V.int .i64 p.1, g p.2)) bs
  have hpw := incN_pw cl bs q2
  refine ⟨_, rfl, ⟨hk.del k, _, cl, by rw [get_put, if_pos rfl], incN_mono cl ⟨hpw.1.sublist hsub, fun x hx => hpw.2 x (hsub.subset hx)⟩, ?_⟩, Chg.put hw hb _, rfl⟩
  rw [delB_len _ _ _ (by rw [q3, List.length_map]), delM_I, List.length_map]
theorem intsOf_I (g : β → V) : ∀ A : List (Int × β), intsOf (A.map fun p => (V.int .i64 p.1, g p.2)) = some (A.map (·.1))
  | [] => rfl
  | (a, w) :: r => by simp only [List.map_cons, intsOf, intsOf_I g r]
theorem srtI_pw (l : List Int) : (srtI l).Pairwise (· ≤ ·) := by
  have ins : ∀ (x : Int) (l : List Int), l.Pairwise (· ≤ ·) → (insI x l).Pairwise (· ≤ ·) := by
    intro x l
    induction l with
    | nil => intro _; simp [insI]
    | cons y r ih =>
      intro h
      have hp := List.pairwise_cons.1 h
      unfold insI
      split
      · rename_i q
        refine List.pairwise_cons.2 ⟨fun z hz => ?_, h⟩
        rcases List.mem_cons.1 hz with e | e
        · omega
        · have := hp.1 z e; omega
      · rename_i q
        refine List.pairwise_cons.2 ⟨fun z hz => ?_, ih hp.2⟩
        have hz2 := (insI_perm x r).subset hz
        rcases List.mem_cons.1 hz2 with e | e
        · omega
        · exact hp.1 z e
  induction l with
  | nil => exact .nil
  | cons x r ih => exact ins x _ ih
theorem incI_of : ∀ {l : List Int}, l.Pairwise (· < ·) → incI l = true
  | [], _ => rfl
  | [_], _ => rfl
  | a :: b :: r, h => by
    have hp := List.pairwise_cons.1 h
    simp only [incI, Bool.and_eq_true, decide_eq_true_eq]
    exact ⟨hp.1 b List.mem_cons_self, incI_of hp.2⟩
theorem srtI_lt {l : List Int} (h : l.Nodup) : (srtI l).Pairwise (· < ·) := by
  have h1 := srtI_pw l
  have h2 : (srtI l).Nodup := (srtI_perm l).nodup_iff.2 h
  have := h1.and h2
  exact this.imp fun ⟨a, b⟩ => by omega

/-- A map's keys, in order, as a new list. -/
def IntsL (h : Heap) (low : Nat) (x : V) (l : List Int) : Prop := Grown h low 1 x (l.map fun n => [V.int .i64 n])
theorem flat_ints (l : List Int) : (l.map fun n => [V.int .i64 n]).flatten = l.map fun n => V.int .i64 n := by
  induction l with
  | nil => rfl
  | cons a r ih => simp only [List.map_cons, List.flatten_cons, ih]; rfl
/-- maps.Keys and slices.Sorted, one behind the other. -/
theorem keys_sorted {g : β → V} {h : Heap} (hw : Wf h) {b fI mt : Nat} {A : List (Int × β)} (m : MapI g h b A) (hi : ∀ k ∈ A.map (·.1), -9223372036854775808 ≤ k ∧ k ≤ 9223372036854775807) (hn : A.length ≤ 1000000) :
    ∃ f h1, keysSum fI mt [.map (some b)] h = some (f, h1) ∧ Grow h h1 ∧ ∃ x h2, sortedISum fI mt [f] h1 = some (x, h2) ∧ Grow h h2 ∧ IntsL h2 h.size x (srtI (A.map (·.1))) := by
  have g1 := (Grow.refl hw).push (.cells [.map (some b)] (.tip [] 0 (some mt)))
  have m1 := m.grow g1
  have hbx : boxedMap fI mt [.func (.func fI) [] [.ptr (some (h.size, 0))]] (h.push (.cells [.map (some b)] (.tip [] 0 (some mt)))) = some (some b) := by
    simp only [boxedMap, if_true, get_push_self]
  refine ⟨_, _, rfl, g1, ?_⟩
  obtain ⟨hk, bs, cl, q, q2, q3⟩ := m1
  have hs : (h.push (.cells [.map (some b)] (.tip [] 0 (some mt)))).size = h.size + 1 := rfl
  generalize h.push (.cells [.map (some b)] (.tip [] 0 (some mt))) = h1 at *
  have hall : (A.map (·.1)).all i64Ok = true := by
    rw [List.all_eq_true]; intro k hk'
    have := hi k hk'
    simp only [i64Ok, Bool.and_eq_true, decide_eq_true_eq]; exact this
  have hcond : (incN cl bs && incI (srtI (A.map (·.1))) && (A.map (·.1)).all i64Ok && decide ((A.map (·.1)).length ≤ 1000000)) = true := by
    rw [q2, incI_of (srtI_lt hk), hall, decide_eq_true (by simpa using hn)]; rfl
  have hsum : sortedISum fI mt [.func (.func fI) [] [.ptr (some (h.size, 0))]] h1 = some (rowOf h1 ((srtI (A.map (·.1))).map fun n => .int .i64 n)) := by
    simp only [sortedISum, hbx, q, intsOf_I]
    rw [if_pos hcond]
  rw [hsum]
  cases hl : srtI (A.map (·.1)) with
  | nil => exact ⟨_, _, rfl, g1, Grown.nil _ _ _⟩
  | cons a r =>
    refine ⟨_, _, rfl, g1.push _, ⟨by simp, .inr ⟨h1.size, [], none, ?_, by simp, ⟨by omega, by simp⟩, ?_⟩⟩⟩
    · simp
    · rw [flat_ints]; exact get_push_self _ _
end
end
end Abs
end Go.Proofs.YtlgbdjlnbnlphaaGreatDoor
