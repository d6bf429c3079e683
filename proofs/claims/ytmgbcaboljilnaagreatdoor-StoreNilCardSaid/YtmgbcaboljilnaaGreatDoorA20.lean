/- The abstract machine: reasoning over regions whose order is drawn. -/
import Derived.Test.YtmgbcaboljilnaaGreatDoorA19
namespace Go.Proofs.YtmgbcaboljilnaaGreatDoor
namespace Abs
noncomputable section
set_option linter.unusedVariables false
set_option linter.unusedSimpArgs false
open Go.RowKit

def AllP : List (Nat × (Heap → Prop)) → Heap → Prop
  | [], _ => True
  | p :: r, h => p.2 h ∧ AllP r h
def dropP (anc : List Nat) : List (Nat × (Heap → Prop)) → List (Nat × (Heap → Prop))
  | [] => []
  | p :: r => if anc.contains p.1 then dropP anc r else p :: dropP anc r

theorem allP_mem {h : Heap} : ∀ {P : List (Nat × (Heap → Prop))}, AllP P h → ∀ p ∈ P, p.2 h
  | [], _, _, hp => by cases hp
  | q :: r, ha, p, hp => by
    rcases List.mem_cons.1 hp with e | e
    · subst e; exact ha.1
    · exact allP_mem ha.2 p e
theorem dropP_mem {anc : List Nat} : ∀ {P : List (Nat × (Heap → Prop))} {p}, p ∈ P → anc.contains p.1 = false → p ∈ dropP anc P
  | q :: r, p, hp, hc => by
    simp only [dropP]
    rcases List.mem_cons.1 hp with e | e
    · subst e; rw [hc]; exact List.mem_cons_self
    · split
      · exact dropP_mem e hc
      · exact List.mem_cons_of_mem _ (dropP_mem e hc)

theorem okTail_all {l : Log} (hl : ∀ h, okLater l h = true) (p : Nat) : ∀ (r : List (DOp × Log)) (hN : Heap), okTail l p r hN = true
  | [], hN => hl hN
  | (d, l') :: r, hN => by
    simp only [okTail]
    split
    · rw [hl, okTail_all hl p r hN]; simp
    · exact okTail_all hl p r hN

def DoesD (C : Cfg) (q : Nat) (l : List DOp) (P : List (Nat × (Heap → Prop))) (tm : TM) (h : Heap) (Q : TM → Heap → Prop) : Prop :=
  ∃ n tr tm' h', traceDraw (run C n).1 l tm h = some (tr, tm', h') ∧ okAll q tr h' = true ∧ (∀ p ∈ P, ∀ lg : Log, (∀ h1, p.2 h1 → okLater lg h1 = true) → okTail lg p.1 tr h' = true) ∧ Q tm' h'

section
variable {C : Cfg} {q : Nat} {l : List DOp} {P : List (Nat × (Heap → Prop))} {tm : TM} {h h' : Heap} {Q : TM → Heap → Prop} {k : K} {d : Option Nat} {g : Option (Nat × Bool)} {idx : Nat} {anc : List Nat} {v : V}

theorem DoesD.nil (hP : AllP P h) (hq : Q tm h) : DoesD C q [] P tm h Q :=
  ⟨0, [], tm, h, rfl, rfl, fun p hp lg hl => hl h (allP_mem hP p hp), hq⟩
theorem DoesD.skip (hP : k.isC = true → AllP P h) (hw : wantedA tm g = some false) (hq : DoesD C (q + 1) l P (TM.put tm d undefV) h Q) : DoesD C q (⟨⟨d, g, k⟩, idx, anc⟩ :: l) P tm h Q := by
  obtain ⟨n, tr, tm', h', q1, q2, q3, q4⟩ := hq
  refine ⟨n, (⟨⟨d, g, k⟩, idx, anc⟩, ⟨⟨d, g, k⟩, false, tm, h, undefV⟩) :: tr, tm', h', ?_, ?_, ?_, q4⟩
  · simp only [traceDraw, hw, q1]
  · have : okTail ⟨⟨d, g, k⟩, false, tm, h, undefV⟩ q tr h' = true := okTail_all (fun _ => rfl) q tr h'
    simp only [okAll, this, q2, Bool.or_true, Bool.and_self]
  · intro p hp lg hl
    have := q3 p hp lg hl
    simp only [okTail]
    split
    · rename_i hc; rw [hl h (allP_mem (hP hc) p hp), this]; simp
    · exact this
theorem DoesD.op {R : Heap → Prop} (hc : k.isC = false) (hw : wantedA tm g = some true) (hk : opK k tm h = some (v, h')) (hr : ∀ h1, R h1 → okLater ⟨⟨d, g, k⟩, true, tm, h, v⟩ h1 = true) (hq : DoesD C (q + 1) l ((q, R) :: P) (TM.put tm d v) h' Q) : DoesD C q (⟨⟨d, g, k⟩, idx, anc⟩ :: l) P tm h Q := by
  obtain ⟨n, tr, tm', h2, q1, q2, q3, q4⟩ := hq
  refine ⟨n, (⟨⟨d, g, k⟩, idx, anc⟩, ⟨⟨d, g, k⟩, true, tm, h, v⟩) :: tr, tm', h2, ?_, ?_, ?_, q4⟩
  · have hnc : k.calls = false := nc_of hk
    simp only [traceDraw, hw, opA_nc hnc, hk, q1]
  · have := q3 (q, R) List.mem_cons_self _ hr
    simp only [okAll, this, q2, Bool.or_true, Bool.and_self]
  · intro p hp lg hl
    have := q3 p (List.mem_cons_of_mem _ hp) lg hl
    simp only [okTail, hc, Bool.false_eq_true, if_false]
    exact this
theorem DoesD.pure (hc : k.isC = false) (hw : wantedA tm g = some true) (hk : opK k tm h = some (v, h')) (hr : ∀ h1, okLater ⟨⟨d, g, k⟩, true, tm, h, v⟩ h1 = true) (hq : DoesD C (q + 1) l P (TM.put tm d v) h' Q) : DoesD C q (⟨⟨d, g, k⟩, idx, anc⟩ :: l) P tm h Q := by
  obtain ⟨n, tr, tm', h2, q1, q2, q3, q4⟩ := hq
  refine ⟨n, (⟨⟨d, g, k⟩, idx, anc⟩, ⟨⟨d, g, k⟩, true, tm, h, v⟩) :: tr, tm', h2, ?_, ?_, ?_, q4⟩
  · have hnc : k.calls = false := nc_of hk
    simp only [traceDraw, hw, opA_nc hnc, hk, q1]
  · have := okTail_all hr q tr h2
    simp only [okAll, this, q2, Bool.or_true, Bool.and_self]
  · intro p hp lg hl
    have := q3 p hp lg hl
    simp only [okTail, hc, Bool.false_eq_true, if_false]
    exact this
theorem DoesD.opC (hP : AllP P h) (hc : k.isC = true) (hw : wantedA tm g = some true) {m : Nat} (hk : opA (run C m).1 k tm h = some (v, h')) (hq : DoesD C (q + 1) l (dropP anc P) (TM.put tm d v) h' Q) : DoesD C q (⟨⟨d, g, k⟩, idx, anc⟩ :: l) P tm h Q := by
  obtain ⟨n, tr, tm', h2, q1, q2, q3, q4⟩ := hq
  refine ⟨max n m, (⟨⟨d, g, k⟩, idx, anc⟩, ⟨⟨d, g, k⟩, true, tm, h, v⟩) :: tr, tm', h2, ?_, ?_, ?_, q4⟩
  · simp only [traceDraw, hw, opA_mono (run_le C (Nat.le_max_right n m)).1 hk, trace_mono (run_le C (Nat.le_max_left n m)).1 l q1]
  · simp only [okAll, hc, q2, Bool.true_or, Bool.and_self]
  · intro p hp lg hl
    simp only [okTail, hc, if_true]
    rw [hl h (allP_mem hP p hp)]
    cases ha : anc.contains p.1 with
    | true => rfl
    | false => rw [q3 p (dropP_mem hp ha) lg hl]; rfl
theorem Runs.draw {l : List DOp} {Q : Ex → TM → Heap → Prop} (hx : DoesD C 0 l [] tm h (Q .normal)) : Runs C (.draw l) tm h Q := by
  obtain ⟨n, tr, t, h', q1, q2, q3, q4⟩ := hx
  exact ⟨n, .normal, t, h', by simp only [execC, runDraw, q1, q2, if_true], q4⟩
end

def K.isPure : K → Bool
  | .unsStr .. | .unsP .. | .ofUns .. | .load .. | .toStr .. | .lookup .. | .mapLen .. | .alloc .. | .box .. | .buildSl .. | .makeSl .. | .makeMap | .toBytes .. | .store .. | .append .. | .appendS .. | .copy .. | .clear .. | .mapUpd .. | .mapDel .. | .call .. | .invoke .. | .mapEnt .. | .entSt .. => false
  | _ => true

theorem pure_here {k : K} (hp : k.isPure = true) {tm : TM} {h h' : Heap} {v : V} (hk : opK k tm h = some (v, h')) : h' = h ∧ ∀ h1, opK k tm h1 = some (v, h1) := by
  cases k <;> simp only [K.isPure, Bool.false_eq_true] at hp <;> simp only [opK] at hk ⊢ <;> (repeat' split at hk) <;> simp_all
  all_goals (intro _; rw [← hk.1]; first | rw [if_neg (by omega)])

def WD (C : Cfg) (q : Nat) (l : List DOp) (P : List (Nat × (Heap → Prop))) (e : List (Nat × V)) (h : Heap) (Q : List (Nat × V) → Heap → Prop) : Prop := ∀ tm, Sub e tm → DoesD C q l P tm h fun tm' h' => ∃ e', Sub e' tm' ∧ Q e' h'

section
variable {C : Cfg} {q : Nat} {l : List DOp} {P : List (Nat × (Heap → Prop))} {e : List (Nat × V)} {h h' : Heap} {Q : List (Nat × V) → Heap → Prop} {k : K} {d : Nat} {dd : Option Nat} {idx : Nat} {anc : List Nat} {v : V} {x : Opd}
theorem WC.draw {l : List DOp} {Q : Ex → List (Nat × V) → Heap → Prop} (hx : WD C 0 l [] e h (Q .normal)) : WC C (.draw l) e h Q := fun tm hs => Runs.draw (hx tm hs)
theorem WC.seqD {l : List DOp} {b : AC} {Q : Ex → List (Nat × V) → Heap → Prop} (hx : WD C 0 l [] e h (fun e' h' => WC C b e' h' Q)) : WC C (.seq (.draw l) b) e h Q := WC.seq (WC.draw hx)
namespace WD
theorem nil (hP : AllP P h) (hq : Q e h) : WD C q [] P e h Q := fun tm hs => DoesD.nil hP ⟨e, hs, hq⟩
theorem pure (hk : StepK e h k v h') (hp : k.isPure = true) (hq : WD C (q + 1) l P ((d, v) :: e) h' Q) : WD C q (⟨⟨some d, none, k⟩, idx, anc⟩ :: l) P e h Q := fun tm hs => by
  have ⟨g1, g2⟩ := pure_here hp (hk tm hs)
  refine DoesD.pure ?_ rfl (hk tm hs) (fun h1 => ?_) (hq _ (hs.set d v))
  · cases k <;> simp_all [K.isPure, K.isC]
  · simp only [okLater, if_true]
    rw [if_neg]
    · rw [g2 h1]; exact V.beq_refl v
    · cases k <;> simp_all [K.isPure, K.isAlloc]
theorem load1 {b o : Nat} (hx : evE e x = some (.ptr (some (b, o)))) (hl : h.rd b o = some v) (hq : WD C (q + 1) l ((q, fun h1 => h1.rd b o = some v) :: P) ((d, v) :: e) h Q) : WD C q (⟨⟨some d, none, .load none x⟩, idx, anc⟩ :: l) P e h Q := fun tm hs => by
  refine DoesD.op rfl rfl (StepK.load1 hx hl tm hs) (fun h1 hr => ?_) (hq _ (hs.set d v))
  simp only [okLater, if_true, K.isAlloc, Bool.false_eq_true, if_false, StepK.load1 hx hr tm hs, V.beq_refl]
theorem loadN {b o n : Nat} {cs : List V} (hx : evE e x = some (.ptr (some (b, o)))) (hl : h.rds b o n = some cs) (hq : WD C (q + 1) l ((q, fun h1 => h1.rds b o n = some cs) :: P) ((d, .agg cs) :: e) h Q) : WD C q (⟨⟨some d, none, .load (some n) x⟩, idx, anc⟩ :: l) P e h Q := fun tm hs => by
  refine DoesD.op rfl rfl (StepK.loadN hx hl tm hs) (fun h1 hr => ?_) (hq _ (hs.set d _))
  simp only [okLater, if_true, K.isAlloc, Bool.false_eq_true, if_false, StepK.loadN hx hr tm hs, V.beq_refl]
theorem alloc {cs : List V} {ty : Option Nat} (ha : k.isAlloc = true) (hk : StepK e h k v (h.push (.cells cs (.tip [] 0 ty)))) (hq : WD C (q + 1) l ((q, fun h1 => h1.get h.size = some (.cells cs (.tip [] 0 ty))) :: P) ((d, v) :: e) (h.push (.cells cs (.tip [] 0 ty))) Q) : WD C q (⟨⟨some d, none, k⟩, idx, anc⟩ :: l) P e h Q := fun tm hs => by
  refine DoesD.op ?_ rfl (hk tm hs) (fun h1 hr => ?_) (hq _ (hs.set d _))
  · cases k <;> simp_all [K.isAlloc, K.isC]
  · simp only [okLater, if_true, ha, hk tm hs, hr, get_push, sameObj, V.beqs_refl, beq_self_eq_true, Bool.and_self, decide_true]
theorem opC (hP : AllP P h) (hc : k.isC = true) (hk : StepK e h k v h') (hq : WD C (q + 1) l (dropP anc P) (Env.put e dd v) h' Q) : WD C q (⟨⟨dd, none, k⟩, idx, anc⟩ :: l) P e h Q := fun tm hs =>
  DoesD.opC (m := 0) hP hc rfl (by rw [opA_nc (nc_of (hk tm hs))]; exact hk tm hs) (hq _ (hs.put dd v))
theorem call {fx : Opd} {xs : List Opd} {f : Nat} {first caps vs : List V} {R : V → Heap → Prop} (hP : AllP P h) (hf : evE e fx = some (.func (.func f) first caps)) (hx : evsE e xs = some vs) (hc : Ans C f (first ++ vs ++ caps) h R)
    (hq : ∀ v h', R v h' → WD C (q + 1) l (dropP anc P) ((d, v) :: e) h' Q) : WD C q (⟨⟨some d, none, .call fx xs⟩, idx, anc⟩ :: l) P e h Q := fun tm hs => by
  obtain ⟨v, h', ⟨m, q1⟩, q2⟩ := hc
  exact DoesD.opC (m := m) hP rfl rfl (by simp only [opA, hs.ev hf, hs.evs hx]; exact q1) (hq v h' q2 _ (hs.set d v))
theorem split {t : Nat} {b : Bool} (hg : Env.get e t = some (.bool b)) (h1 : b = true → WD C q l P ((t, .bool true) :: e) h Q) (h2 : b = false → WD C q l P ((t, .bool false) :: e) h Q) : WD C q l P e h Q := by
  cases b with
  | true => exact fun tm hs => h1 rfl tm (hs.same hg)
  | false => exact fun tm hs => h2 rfl tm (hs.same hg)
theorem splitG {t : Nat} {w b : Bool} (hg : Env.get e t = some (.bool b)) (h1 : b = true → WD C q (⟨⟨dd, some (t, w), k⟩, idx, anc⟩ :: l) P ((t, .bool true) :: e) h Q) (h2 : b = false → WD C q (⟨⟨dd, some (t, w), k⟩, idx, anc⟩ :: l) P ((t, .bool false) :: e) h Q) : WD C q (⟨⟨dd, some (t, w), k⟩, idx, anc⟩ :: l) P e h Q := split hg h1 h2
theorem run {t : Nat} {w : Bool} (hg : Env.get e t = some (.bool w)) (hq : WD C q (⟨⟨dd, none, k⟩, idx, anc⟩ :: l) P e h Q) : WD C q (⟨⟨dd, some (t, w), k⟩, idx, anc⟩ :: l) P e h Q := fun tm hs => by
  obtain ⟨n, tr, t1, h1, q1, q2, q3, q4⟩ := hq tm hs
  have hg' : tm.get t = some (.bool w) := hs t _ hg
  simp only [traceDraw, wantedA] at q1
  split at q1
  · rename_i v2 h2 p1
    split at q1
    · rename_i tr2 tm2 h3 p2
      cases q1
      refine ⟨n, (⟨⟨dd, some (t, w), k⟩, idx, anc⟩, ⟨⟨dd, some (t, w), k⟩, true, tm, h, v2⟩) :: tr2, t1, h1, ?_, ?_, ?_, q4⟩
      · simp only [traceDraw, wantedA, hg', beq_self_eq_true, p1, p2]
      · have : ∀ r hN, okTail ⟨⟨dd, some (t, w), k⟩, true, tm, h, v2⟩ q r hN = okTail ⟨⟨dd, none, k⟩, true, tm, h, v2⟩ q r hN := by
          intro r hN
          induction r with
          | nil => rfl
          | cons a r ih => obtain ⟨a1, a2⟩ := a; simp only [okTail, ih]; rfl
        simp only [okAll, this] at q2 ⊢
        exact q2
      · intro p hp lg hl
        have := q3 p hp lg hl
        simp only [okTail] at this ⊢
        exact this
    · cases q1
  · cases q1
theorem skip {t : Nat} {w w' : Bool} (hP : k.isC = true → AllP P h) (hg : Env.get e t = some (.bool w')) (hw : (w' == w) = false) (hq : WD C (q + 1) l P ((d, undefV) :: e) h Q) : WD C q (⟨⟨some d, some (t, w), k⟩, idx, anc⟩ :: l) P e h Q := fun tm hs =>
  DoesD.skip hP (by have hg' : tm.get t = some (.bool w') := hs t _ hg
                    simp only [wantedA, hg', hw]) (hq _ (hs.set d undefV))
theorem skipu {t : Nat} {w : Bool} (hP : k.isC = true → AllP P h) (hg : Env.get e t = some undefV) (hq : WD C (q + 1) l P ((d, undefV) :: e) h Q) : WD C q (⟨⟨some d, some (t, w), k⟩, idx, anc⟩ :: l) P e h Q := fun tm hs =>
  DoesD.skip hP (by have hg' : tm.get t = some (.tuple []) := hs t _ hg
                    simp only [wantedA, hg']) (hq _ (hs.set d undefV))
theorem skipn {t : Nat} {w w' : Bool} (hc : k.isC = false) (hg : Env.get e t = some (.bool w')) (hw : (w' == w) = false) (hq : WD C (q + 1) l P ((d, undefV) :: e) h Q) : WD C q (⟨⟨some d, some (t, w), k⟩, idx, anc⟩ :: l) P e h Q := skip (fun g => by rw [hc] at g; cases g) hg hw hq
theorem skipun {t : Nat} {w : Bool} (hc : k.isC = false) (hg : Env.get e t = some undefV) (hq : WD C (q + 1) l P ((d, undefV) :: e) h Q) : WD C q (⟨⟨some d, some (t, w), k⟩, idx, anc⟩ :: l) P e h Q := skipu (fun g => by rw [hc] at g; cases g) hg hq
end WD
end

end
end Abs
end Go.Proofs.YtmgbcaboljilnaaGreatDoor
