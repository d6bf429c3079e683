/- The abstract machine's new blocks are the model's. -/
import Derived.Test.YtmgbcaboljilnaaGreatDoorA12
namespace Go.Proofs.YtmgbcaboljilnaaGreatDoor
namespace Abs
set_option linter.unusedVariables false
set_option linter.unusedSimpArgs false
open Go.RowKit

section
variable {P : Program} {B : Nat} {w0 : World}

theorem repsI_sound {ρ : Rho} {zs : List V} {z : Array Value} (hz : VRs ρ zs z.toList) (n : Nat) (h : n = 0 ∨ zs.length ≠ 0) : VRs ρ (repsI n zs) ((Array.range n).map (z[· % z.size]!)).toList := by
  have hl : zs.length = z.size := by simpa using hz.length
  refine VRs.of_get (by simp [repsI]) fun i v hi => ?_
  have hin : i < n := by
    have := (List.getElem?_eq_some_iff.1 hi).1
    simpa [repsI] using this
  have hpos : 0 < zs.length := by omega
  have hm : i % zs.length < zs.length := Nat.mod_lt _ hpos
  simp only [repsI, List.getElem?_map, List.getElem?_range hin, Option.map_some, Option.some.injEq] at hi
  rw [List.getD_eq_getElem?_getD, List.getElem?_eq_getElem hm, Option.getD_some] at hi
  obtain ⟨u, q1, q2⟩ := hz.get (i % zs.length) v (by rw [List.getElem?_eq_getElem hm, hi])
  refine ⟨u, ?_, q2⟩
  simp only [Array.toList_map, Array.toList_range, List.getElem?_map, List.getElem?_range hin, Option.map_some, Option.some.injEq]
  have hq : z[i % z.size]? = some u := by rw [← hl]; simpa using q1
  rw [getElem!_def, hq]

theorem selfTy_is {t s : TypeId} (h : selfTy P t = some s) : t = s := by
  unfold selfTy at h
  split at h
  · split at h
    · split at h
      · split at h
        · cases h; rfl
        · cases h
      · cases h
    · cases h
  · cases h

/-- Where a new block of cells is laid. -/
theorem cells_out {ρ : Rho} {h : Heap} {w : World} {b : Nat} {o : Oper} {a : Act} (r : Rel P B w0 ρ h w) {cs : List V} (hb : ρ b = none) (hlt : b < h.size) {ty : Option Nat} (hg : h.get b = some (.cells cs (.tip [] 0 ty))) {C : Array Value} {el : TypeId} (hty : ∀ t, ty = some t → el = t) (hv : VRs ρ cs C.toList)
    {v : V} {u : Value} (hrun : (execOp a.eval o).run P w = .ok (.value u) (w.alloc (.cells C el))) (hvr : VR (Rho.with_ ρ b ⟨w.heap.size, 0, C.size⟩) v u) :
    ∃ u w' em, Done P o a w u w' ∧ VR (Rho.with_ ρ b em) v u ∧ Rel P B w0 (Rho.with_ ρ b em) h w' := by
  have hl : cs.length = C.size := by simpa using hv.length
  exact ⟨u, _, _, .inl hrun, hvr, r.new hb hlt hg C el (by rw [hl, ← Array.length_toList, List.take_length]; exact hv) (by omega) hty⟩

theorem alloc_sound {o : Oper} {k : K} (hk : kC P o = some k) (ha : k.isAlloc = true) {tm : TM} {h0 h1 : Heap} {v : V} (hx : opK k tm h0 = some (v, h1)) :
    ∃ ob : Obj, h1 = h0.push ob ∧ ∀ {ρ : Rho} {h : Heap} {w : World} {a : Act} {nt : Nat}, TMR ρ nt tm a.tmps → Rel P B w0 ρ h w → ρ h0.size = none → h0.size < h.size → h.get h0.size = some ob →
      ∃ u w' em, Done P o a w u w' ∧ VR (Rho.with_ ρ h0.size em) v u ∧ Rel P B w0 (Rho.with_ ρ h0.size em) h w' := by
  obtain ⟨dst, op, type, pos, after, guard⟩ := o
  have ptrV : ∀ {ρ : Rho} {b n lim : Nat}, VR (Rho.with_ ρ b ⟨n, 0, lim⟩) (.ptr (some (b, 0))) (.pointer (some ⟨n, 0, none⟩)) := by
    intro ρ b n lim
    exact .ptr _ _ _ _ with_same (by simp [at_])
  cases op
  case alloc t =>
    simp only [kC] at hk
    split at hk
    · rename_i z hz
      cases hk
      simp only [opK] at hx
      cases hx
      refine ⟨_, rfl, fun {ρ h w a nt} ht r hb hlt hg => ?_⟩
      obtain ⟨zv, hzv, hzr⟩ := zeroC_val hz
      refine cells_out r hb hlt hg (C := zv.cells) (el := t) (fun s => selfTy_is) (hzr ρ) (run_val (u := .pointer (some ⟨w.heap.size, 0, none⟩)) ?_) ptrV
      simp only [Instr.alloc, Sem.run_bind, run_zero hzv, Result.andThen_ok, newVar, newRow, run_newObj, Sem.run_pure, World.alloc_eq]
    · cases hk
  case box t x =>
    simp only [kC] at hk
    split at hk
    · rename_i y hy
      cases hk
      simp only [opK] at hx
      split at hx
      · rename_i q hq
        cases hx
        refine ⟨_, rfl, fun {ρ h w a nt} ht r hb hlt hg => ?_⟩
        refine cells_out r hb hlt hg (C := (a.eval x).cells) (el := t) (fun s h => by cases h) (ev_sound ht hy hq).cells (run_val (u := .pointer (some ⟨w.heap.size, 0, none⟩)) ?_) ptrV
        simp only [Instr.box, Sem.run_bind, Result.andThen_ok, newVar, newRow, run_newObj, Sem.run_pure, World.alloc_eq]
      · cases hx
    · cases hk
  case buildSlice t len parts =>
    simp only [kC] at hk
    split at hk
    · rename_i e hu
      split at hk
      · rename_i s z hs hz
        split at hk
        · rename_i ps hps
          split at hk
          · rename_i hc
            cases hk
            simp only [opK] at hx
            split at hx
            · rename_i vs hvs
              split at hx
              · rename_i cs hcs
                cases hx
                refine ⟨_, rfl, fun {ρ h w a nt} ht r hb hlt hg => ?_⟩
                obtain ⟨zv, hzv, hzr⟩ := zeroC_val hz
                obtain ⟨c', q1, q2⟩ := fill_sound hps ht hvs hcs (repsI_sound (hzr ρ) (len * s) hc.2)
                have hparts : (parts.map fun (i, x) => (i, a.eval x)).toList = parts.toList.map fun (i, x) => (i, a.eval x) := by simp
                refine cells_out r hb hlt hg (C := c') (el := e) (fun s h => by cases h) q2 (run_val (u := .slice (some ⟨w.heap.size, 0, none⟩) len len) ?_) (.slice _ _ _ _ _ _ with_same (fun _ => by simp [at_]) (Nat.le_refl _))
                have hn : ¬ (2 ^ 24 < len * s) := by have := hc.1; omega
                by_cases h0 : len * s = 0
                · have q1' : Instr.fill (fun i => some (i * s, s)) #[] (parts.toList.map fun (i, x) => (i, a.eval x)) = some c' := by
                    have : (Array.range (len * s)).map (zv.cells[· % zv.cells.size]!) = #[] := by rw [h0]; simp
                    rw [← this]; exact q1
                  have e0 : (Array.range (len * s)).map ((#[] : Array Value)[· % (#[] : Array Value).size]!) = #[] := by rw [h0]; simp
                  simp only [Instr.buildSlice, Sem.run_bind, run_und hu, Result.andThen_ok, run_size hs, gt_iff_lt, hn, if_false, h0, if_true, Sem.run_pure, hparts]
                  rw [h0] at e0
                  have hn0 : ¬ ((2 : Nat) ^ 24 < 0) := by omega
                  simp only [hn0, if_false, Sem.run_bind, Sem.run_pure, Result.andThen_ok, e0, q1', newRow, run_newObj, World.alloc_eq]
                · simp only [Instr.buildSlice, Sem.run_bind, run_und hu, Result.andThen_ok, run_size hs, gt_iff_lt, hn, if_false, h0, Sem.run_pure, hparts, run_zero hzv, q1, newRow, run_newObj, World.alloc_eq]
              · cases hx
            · cases hx
          · cases hk
        · cases hk
      · cases hk
    · cases hk
  case makeMap t rs =>
    cases rs <;> simp only [kC] at hk
    · cases hk
      simp only [opK] at hx
      cases hx
      refine ⟨_, rfl, fun {ρ h w a nt} ht r hb hlt hg => ?_⟩
      refine ⟨.map (some w.heap.size), _, _, .inl (run_val ?_), .map _ _ _ with_same rfl, r.newMap hb hlt hg⟩
      simp only [Instr.makeMap, Option.map_none, Sem.run_bind, run_newObj, Result.andThen_ok, Sem.run_pure, World.alloc_eq]
    · cases hk
  case makeSlice t l c =>
    simp only [kC] at hk
    split at hk
    · rename_i e l' c' hu hl hc
      split at hk
      · rename_i s b z hs hb hz
        split at hk
        · rename_i hzl
          cases hk
          simp only [opK] at hx
          split at hx
          · rename_i p q hp hq
            have hx0 := hx
            cases p <;> try (simp [makeSlA] at hx; done)
            cases q <;> try (simp [makeSlA] at hx; done)
            rename_i kl l2 kc c2
            unfold makeSlA at hx
            simp only at hx
            by_cases hcnd : 0 ≤ l2 ∧ l2 ≤ c2 ∧ c2 ≤ 1099511627776 ∧ c2 * b ≤ 140737488355328
            · rw [if_pos hcnd] at hx
              cases hx
              refine ⟨_, rfl, fun {ρ h w a nt} ht r hb' hlt hg => ?_⟩
              obtain ⟨n, m, q1, q2, q3, C, q4, q5⟩ := makeSl_sound (P := P) r hu hs hb hz hzl.1 (l := .int kl l2) (c := .int kc c2) (v := .slice (some (h.size, 0)) l2.toNat c2.toNat) (h' := h.push (.cells (reps c2.toNat z) (.tip [] 0 none)))
                (by unfold makeSlA; simp only; rw [if_pos hcnd]) (ev_sound ht hl hp) (ev_sound ht hc hq)
              cases q1
              exact cells_out r hb' hlt hg (C := C) (el := e) (fun s h => by cases h) q5 (run_val q4) (.slice _ _ _ _ _ _ with_same (fun _ => by simp [at_]) q3)
            · rw [if_neg hcnd] at hx; cases hx
          · cases hx
        · cases hk
      · cases hk
    · cases hk
  case convert s d x =>
    simp only [kC, convC] at hk
    split at hk
    · cases hk; cases ha
    · cases hk; cases ha
    · split at hk
      · cases hk; cases ha
      · cases hk
    · rename_i y e hy hs hd
      split at hk
      · rename_i he h1
        cases hk
        simp only [opK] at hx
        split at hx
        · rename_i l hq
          cases hx
          refine ⟨_, rfl, fun {ρ h w a nt} ht r hb hlt hg => ?_⟩
          obtain ⟨u, w', em, q1, q2, q3⟩ := toBytes_sound (P := P) r hs hd he (ev_sound ht hy hq) hb hlt hg
          exact ⟨u, w', em, .inl (run_val q1), q2, q3⟩
        · cases hx
      · cases hk
    · split at hk
      · cases hk; cases ha
      · cases hk
    · split at hk
      · split at hk
        · cases hk; cases ha
        · cases hk
      · cases hk
    · cases hk
  case call c =>
    obtain ⟨callee, args, ts⟩ := c
    simp only [kC] at hk
    cases callee with
    | value f => simp only at hk; split at hk <;> cases hk; cases ha
    | invoke => simp only at hk; split at hk <;> cases hk; cases ha
    | builtin b =>
      simp only at hk
      cases b <;> simp only [builtinC, lenC, appendC, copyC, clearC, deleteC, mmC, mmNC] at hk <;> first
        | (cases hk; done)
        | ((repeat' split at hk) <;> first | (cases hk; done) | (cases hk; cases ha; done))
  case makeFunc fn x y =>
    cases fn <;> simp only [kC] at hk <;> first
      | (cases hk; done)
      | ((repeat' split at hk) <;> first | (cases hk; done) | (cases hk; cases ha; done))
  case typeAssert x xt at_ ok =>
    cases ok <;> simp only [kC] at hk
    · (repeat' split at hk) <;> first | (cases hk; done) | (cases hk; cases ha; done)
    · cases hk
  case binOp op t x y t2 =>
    simp only [kC, binC] at hk
    (repeat' split at hk) <;> first
      | (cases hk; done)
      | (cases hk; cases ha; done)
      | (rename_i hn; cases hk; obtain ⟨_, _, rfl, _⟩ := isNil_run (P := P) hn; cases ha)
  all_goals simp only [kC, sliceC] at hk
  all_goals first
    | (cases hk; done)
    | ((repeat' split at hk) <;> first | (cases hk; done) | (cases hk; cases ha; done))
end
end Abs
end Go.Proofs.YtmgbcaboljilnaaGreatDoor
