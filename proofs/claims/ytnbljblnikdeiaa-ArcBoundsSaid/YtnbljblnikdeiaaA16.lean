/- The abstract machine's runs are the model's: code, calls, all of it. -/
import Derived.Test.YtnbljblnikdeiaaA15c
namespace Go.Proofs.Ytnbljblnikdeiaa
namespace Abs
set_option linter.unusedVariables false
set_option linter.unusedSimpArgs false
open Go.RowKit

section
variable {P : Program} {B : Nat} {w0 : World}

def LoopArr (F : Fence) (n : Nat) (P : Program) (c : Code) (Q : Exit → Act → World → Prop) (a : Act) (w : World) : Prop :=
  ∀ (b : Frame) (k : List Item) (cs : List Frame), b.roundOf = F.round → F.fn b.fn → F.room (cs.length + 1 + n) →
    ∃ e a' w', Q e a' w' ∧ ArrivesIn (Machine.fenced P F) P (lone (b.atR a (.code c :: .inLoop c :: k)) cs w) b k cs e a' w'

theorem loop_wp {F : Fence} {n : Nat} {c : Code} {Q : Exit → Act → World → Prop} {a : Act} {w : World} (h : LoopArr F n P c Q a w) : (Code.loop c).wpIn F n P Q a w := by
  intro b k cs hro hb hr
  obtain ⟨e, a', w', hq, harr⟩ := h b k cs hro hb hr
  exact ⟨e, a', w', hq, .of_steps (.one (fenced_calm hb hr rfl) stepR_loop) harr⟩

theorem loop_unroll {F : Fence} {n : Nat} {c : Code} {Q : Exit → Act → World → Prop} {a : Act} {w : World} (h : c.wpIn F n P (Exit.then (fun a' w' => LoopArr F n P c Q a' w') Q) a w) : LoopArr F n P c Q a w := by
  intro b k cs hro hb hr
  obtain ⟨e, a₁, w₁, hq, harr⟩ := h b (.inLoop c :: k) cs hro hb hr
  cases e with
  | normal =>
    obtain ⟨e₂, a₂, w₂, hq₂, harr₂⟩ := hq b k cs hro hb hr
    exact ⟨e₂, a₂, w₂, hq₂, .of_steps (StepsIn.trans harr (.one (fenced_calm hb hr rfl) stepR_inLoop)) harr₂⟩
  | exit id => exact ⟨_, a₁, w₁, hq, .pass (x := .inLoop c) rfl (fun _ _ => .inl (by simp)) harr⟩
  | goto l => exact ⟨_, a₁, w₁, hq, .pass (x := .inLoop c) rfl (fun _ _ => .inl (by simp)) harr⟩
  | ret => exact ⟨_, a₁, w₁, hq, .pass (x := .inLoop c) rfl (fun _ _ => .inl (by simp)) harr⟩
  | panic ch => exact ⟨_, a₁, w₁, hq, .pass (x := .inLoop c) rfl (fun _ _ => .inl (by simp)) harr⟩
  | outgrown => exact ⟨_, a₁, w₁, hq, .pass (x := .inLoop c) rfl (fun _ _ => .inl (by simp)) harr⟩

def Snd (ro : Option Nat) (n : Nat) (P : Program) (c : Code) (Q : Exit → Act → World → Prop) (a : Act) (w : World) : Prop :=
  c.wpIn (Fw ro) n P Q a w ∧ ∀ c', c = .loop c' → LoopArr (Fw ro) n P c' Q a w

theorem Snd.of {ro : Option Nat} {n : Nat} {c : Code} {Q : Exit → Act → World → Prop} {a : Act} {w : World} (h : c.wpIn (Fw ro) n P Q a w) (hc : ∀ c', c ≠ .loop c') : Snd ro n P c Q a w :=
  ⟨h, fun c' e => absurd e (hc c')⟩

theorem LoopArr.mono {F : Fence} {n : Nat} {c : Code} {Q Q' : Exit → Act → World → Prop} {a : Act} {w : World} (h : LoopArr F n P c Q a w) (hq : ∀ e a w, Q e a w → Q' e a w) : LoopArr F n P c Q' a w :=
  fun b k cs hro hb hr => let ⟨e, a', w', q, r⟩ := h b k cs hro hb hr; ⟨e, a', w', hq _ _ _ q, r⟩

def LoopOk (P : Program) (B : Nat) (w0 : World) (L : LoopF) : Prop :=
  ∀ (ro : Option Nat) (n nt : Nat) (c : Code) (ac : AC), codeC P nt c = some ac → ∀ (ρ : Rho) (tm : TM) (a : Act) (h : Heap) (w : World), TMR ρ nt tm a.tmps → Rel B w0 ρ h w →
    ∀ (ex : Ex) (tm' : TM) (h' : Heap), L ac tm h = some (ex, tm', h') → Snd ro n P c (Post B w0 ρ h.size nt a.defers ex tm' h') a w

theorem code_sound {call : CallF} {L : LoopF} (hc : CallOk P B w0 call) (hm : CallHM call) (hl : LoopOk P B w0 L) (hlm : LoopHM L) (ro : Option Nat) (n nt : Nat) :
    ∀ (c : Code) (ac : AC), codeC P nt c = some ac → ∀ (ρ : Rho) (tm : TM) (a : Act) (h : Heap) (w : World), TMR ρ nt tm a.tmps → Rel B w0 ρ h w →
    ∀ (ex : Ex) (tm' : TM) (h' : Heap), execC call L ac tm h = some (ex, tm', h') → Snd ro n P c (Post B w0 ρ h.size nt a.defers ex tm' h') a w := by
  intro c
  induction c with
  | skip =>
    intro ac hac ρ tm a h w ht r ex tm' h' hx
    cases hac
    cases hx
    exact .of (wpIn_skip ⟨.normal, rfl, ρ, ht, r, New.refl _ _⟩) (fun _ e => by cases e)
  | region id ops draw =>
    intro ac hac ρ tm a h w ht r ex tm' h' hx
    cases draw with
    | false =>
      simp only [codeC] at hac
      split at hac
      · rename_i l hops
        cases hac
        unfold execC at hx
        split at hx
        · rename_i tm2 h2 hrun
          cases hx
          refine .of (wpIn_region ?_) (fun _ e => by cases e)
          have := ops_sound (P := P) hc hm (ro := ro) (n := n) (ops := ops) ops.toList 0 (fun j o hj => by simpa using hj) hops ht r hrun
            (Q := Post B w0 ρ h.size nt a.defers .normal tm' h') (fun a' w' ρ' q1 q2 q3 q4 => ⟨.normal, q1, ρ', q2, q3, q4⟩)
          rw [List.range_eq_range', ← Array.length_toList]
          exact this
        · cases hx
      · cases hac
    | true =>
      simp only [codeC] at hac
      split at hac
      · rename_i hmix
        split at hac
        · rename_i l hdl
          cases hac
          unfold execC at hx
          split at hx
          · rename_i tm2 h2 hrun
            cases hx
            exact .of (draw_sound hc hm hmix hdl ht r hrun (fun a' w' ρ' q1 q2 q3 q4 => ⟨.normal, q1, ρ', q2, q3, q4⟩)) (fun _ e => by cases e)
          · cases hx
        · cases hac
      · cases hac
  | seq x y ihx ihy =>
    intro ac hac ρ tm a h w ht r ex tm' h' hx
    simp only [codeC] at hac
    split at hac
    · rename_i ax ay hax hay
      cases hac
      refine .of (wpIn_seq ?_) (fun _ e => by cases e)
      unfold execC at hx
      split at hx
      · rename_i tm2 h2 hx2
        have hsz := (HM.exec hm hlm ax hx2).size
        refine wpIn_mono (ihx ax hax ρ tm a h w ht r _ _ _ hx2).1 ?_
        rintro e a' w' ⟨he, hd, ρ', q1, q2, q3⟩
        cases he
        refine wpIn_mono (ihy ay hay ρ' tm2 a' h2 w' q1 q2 _ _ _ hx).1 ?_
        rintro e a'' w'' ⟨he2, hd2, ρ'', g1, g2, g3⟩
        exact ⟨he2, hd2.trans hd, ρ'', g1, g2, q3.trans g3 hsz⟩
      · rename_i hnn
        refine wpIn_mono (ihx ax hax ρ tm a h w ht r _ _ _ hx).1 ?_
        rintro e a' w' ⟨he, hd, ρ', q1, q2, q3⟩
        cases he with
        | normal => exact absurd hx (hnn _ _)
        | exit id => exact ⟨.exit id, hd, ρ', q1, q2, q3⟩
        | ret => exact ⟨.ret, hd, ρ', q1, q2, q3⟩
    · cases hac
  | cond cx x y ihx ihy =>
    intro ac hac ρ tm a h w ht r ex tm' h' hx
    simp only [codeC] at hac
    split at hac
    · rename_i acx ax ay hcx hax hay
      cases hac
      refine .of ?_ (fun _ e => by cases e)
      unfold execC at hx
      split at hx
      · rename_i t hev
        have hv := ev_sound ht hcx hev
        have hcr : a.eval cx = .bool t := by
          cases hcr : a.eval cx <;> rw [hcr] at hv <;> cases hv
          rfl
        refine wpIn_cond hcr ?_
        cases t with
        | true => exact (ihx ax hax ρ tm a h w ht r _ _ _ hx).1
        | false => exact (ihy ay hay ρ tm a h w ht r _ _ _ (by simpa using hx)).1
      · cases hx
    · cases hac
  | block id c ih =>
    intro ac hac ρ tm a h w ht r ex tm' h' hx
    simp only [codeC] at hac
    split at hac
    · rename_i ac' hac'
      cases hac
      refine .of (wpIn_block ?_) (fun _ e => by cases e)
      unfold execC at hx
      split at hx
      · rename_i i tm2 h2 hx2
        cases hx
        refine wpIn_mono (ih ac' hac' ρ tm a h w ht r _ _ _ hx2).1 ?_
        rintro e a' w' ⟨he, hd, ρ', q1, q2, q3⟩
        cases he
        by_cases hi : i = id
        · simp only [Exit.inBlock, hi, if_true]; exact ⟨.normal, hd, ρ', q1, q2, q3⟩
        · simp only [Exit.inBlock, hi, if_false]; exact ⟨.exit i, hd, ρ', q1, q2, q3⟩
      · rename_i hne
        refine wpIn_mono (ih ac' hac' ρ tm a h w ht r _ _ _ hx).1 ?_
        rintro e a' w' ⟨he, hd, ρ', q1, q2, q3⟩
        cases he with
        | normal => exact ⟨.normal, hd, ρ', q1, q2, q3⟩
        | exit i => exact absurd hx (hne _ _ _)
        | ret => exact ⟨.ret, hd, ρ', q1, q2, q3⟩
    · cases hac
  | loop c ih =>
    intro ac hac ρ tm a h w ht r ex tm' h' hx
    have hac0 := hac
    simp only [codeC] at hac
    split at hac
    · rename_i ac' hac'
      cases hac
      have key : LoopArr (Fw ro) n P c (Post B w0 ρ h.size nt a.defers ex tm' h') a w := by
        refine loop_unroll ?_
        unfold execC at hx
        split at hx
        · rename_i tm2 h2 hx2
          have hsz := (HM.exec hm hlm ac' hx2).size
          refine wpIn_mono (ih ac' hac' ρ tm a h w ht r _ _ _ hx2).1 ?_
          rintro e a' w' ⟨he, hd, ρ', q1, q2, q3⟩
          cases he
          have := (hl ro n nt (.loop c) (.loop ac') hac0 ρ' tm2 a' h2 w' q1 q2 _ _ _ hx).2 c rfl
          refine this.mono ?_
          rintro e a'' w'' ⟨he2, hd2, ρ'', g1, g2, g3⟩
          exact ⟨he2, hd2.trans hd, ρ'', g1, g2, q3.trans g3 hsz⟩
        · rename_i hnn
          refine wpIn_mono (ih ac' hac' ρ tm a h w ht r _ _ _ hx).1 ?_
          rintro e a' w' ⟨he, hd, ρ', q1, q2, q3⟩
          cases he with
          | normal => exact absurd hx (hnn _ _)
          | exit id => exact ⟨.exit id, hd, ρ', q1, q2, q3⟩
          | ret => exact ⟨.ret, hd, ρ', q1, q2, q3⟩
      exact ⟨loop_wp key, fun c' e => by cases e; exact key⟩
    · cases hac
  | exit id =>
    intro ac hac ρ tm a h w ht r ex tm' h' hx
    cases hac
    cases hx
    exact .of (wpIn_exit ⟨.exit id, rfl, ρ, ht, r, New.refl _ _⟩) (fun _ e => by cases e)
  | ret =>
    intro ac hac ρ tm a h w ht r ex tm' h' hx
    cases hac
    cases hx
    exact .of (wpIn_ret ⟨.ret, rfl, ρ, ht, r, New.refl _ _⟩) (fun _ e => by cases e)
  | rangeFunc => intro ac hac; cases hac
  | scope => intro ac hac; cases hac
  | label => intro ac hac; cases hac
  | goto => intro ac hac; cases hac
  | refuse => intro ac hac; cases hac

/-! ### A call's end -/
theorem Rel.reset {ρ : Rho} {h : Heap} {w : World} (r : Rel B w0 ρ h w) (l : Nat) : Rel B w0 ρ { h with low := l } w := r.congr rfl fun _ => rfl

theorem CellFacts.narrow {ρ ρ' : Rho} {w w' : World} {e : Emb} {cs : List V} {n : Nat} (hn : ∀ b e, b < n → ρ' b = some e → ρ b = some e) (hd : ∀ b e, ρ b = some e → b < n) (h0 : CellFacts ρ w e cs) (h1 : CellFacts ρ' w' e cs) : CellFacts ρ w' e cs := by
  intro i v hv
  obtain ⟨u0, _, q0⟩ := h0 i v hv
  obtain ⟨u1, q1, q2⟩ := h1 i v hv
  exact ⟨u1, q1, q2.narrow hn (q0.scope hd)⟩
theorem MR.narrow {ρ ρ' : Rho} {n : Nat} (hn : ∀ b e, b < n → ρ' b = some e → ρ b = some e) (hd : ∀ b e, ρ b = some e → b < n) : ∀ {x : List (V × V)} {y z : List MapEntry}, MR ρ x y → MR ρ' x z → MR ρ x z
  | [], [], [], _, _ => trivial
  | (k, v) :: x, m :: y, m' :: z, h0, h1 => ⟨h1.1.narrow hn (h0.1.scope hd), h1.2.1.narrow hn (h0.2.1.scope hd), MR.narrow hn hd h0.2.2 h1.2.2⟩
  | [], _ :: _, _, h0, _ => h0.elim
  | _ :: _, [], _, h0, _ => h0.elim
  | [], [], _ :: _, _, h1 => h1.elim
  | _ :: _, _ :: _, [], _, h1 => h1.elim
theorem ORel.narrow {ρ ρ' : Rho} {w w' : World} {e : Emb} {o : Obj} {n : Nat} (hn : ∀ b e, b < n → ρ' b = some e → ρ b = some e) (hd : ∀ b e, ρ b = some e → b < n) (h0 : ORel B ρ w e o) (h1 : ORel B ρ' w' e o) : ORel B ρ w' e o := by
  cases o with
  | cells cs st => cases st with
    | ro => exact ⟨h1.1, h0.2.narrow hn hd h1.2⟩
    | tip S fz => exact ⟨h1.1, h0.2.1.narrow hn hd h1.2.1, h1.2.2⟩
    | sup => exact CellFacts.narrow hn hd h0 h1
  | map es =>
    obtain ⟨_, ces0, cl0, q0, q1⟩ := h0
    obtain ⟨g0, ces, cl, g1, g2⟩ := h1
    exact ⟨g0, ces, cl, g1, MR.narrow hn hd q1 g2⟩
  | dead => trivial

theorem Rel.cut {ρ ρ' : Rho} {h h1 : Heap} {w w' : World} (r : Rel B w0 ρ h w) (r1 : Rel B w0 ρ' h1 w') (hn : New ρ ρ' h.size) (hg : ∀ b, b < h.size → h1.get b = h.get b) : Rel B w0 ρ h w' := by
  have nar : ∀ b e, b < h.size → ρ' b = some e → ρ b = some e := fun b e hb he => (hn.2 b e he).resolve_right (by omega)
  refine ⟨r.dom, fun b e hb => ?_, ?_, fun b e o h1' h2 h3 => ?_, r.fresh, r1.below, r1.base⟩
  · obtain ⟨o, q1, q2⟩ := r.obj b e hb
    obtain ⟨o', g1, g2⟩ := r1.obj b e (hn.1 b e hb)
    rw [hg b (r.dom b e hb), q1] at g1
    cases g1
    exact ⟨o, q1, ORel.narrow nar r.dom q2 g2⟩
  · intro b b' e e' o o' S q1 q2 q3 q4 q5 q6 q7 q8
    exact r1.sep b b' e e' o o' S (hn.1 _ _ q1) (hn.1 _ _ q2) q3 (by rw [hg b (r.dom _ _ q1)]; exact q4) q5 (by rw [hg b' (r.dom _ _ q2)]; exact q6) q7 q8
  · exact r1.live b e o (hn.1 _ _ h1') (by rw [hg b (r.dom _ _ h1')]; exact h2) h3

theorem close_sound {ρ ρ' : Rho} {h h1 : Heap} {w w' : World} {v v' : V} {h' : Heap} {u : Value} (r : Rel B w0 ρ h w) (r1 : Rel B w0 ρ' h1 w') (hn : New ρ ρ' h.size) (hm : HM { h with low := h.size } h1) (hv : VR ρ' v u)
    (hc : closeCall h v h1 = (v', h')) : v' = v ∧ ∃ ρ'', VR ρ'' v u ∧ Rel B w0 ρ'' h' w' ∧ New ρ ρ'' h.size := by
  unfold closeCall at hc
  split at hc
  · rename_i hk
    cases hc
    refine ⟨rfl, ρ, ?_, r.cut r1 hn (fun b hb => hm.get b (by omega) hb), New.refl _ _⟩
    exact hv.narrow (fun b e hb he => (hn.2 b e he).resolve_right (by omega)) hk.2
  · cases hc
    exact ⟨rfl, ρ', hv, r1.reset _, hn⟩

def resSem (a : Array Value) : ResultVar → Sem Value
  | .tmp t => pure (a.getD t undef)
  | .cell p t => do loadVar t (← asAddr (a.getD p undef))
theorem results_eq (fn : Func) (a : Array Value) : results fn a = (do let vs ← fn.results.mapM (resSem a); pure (if h : vs.size = 1 then vs[0] else .tuple vs)) := by
  unfold results
  congr 1

theorem res_sound {ρ : Rho} {h : Heap} {w : World} (r : Rel B w0 ρ h w) {nt : Nat} {tm : TM} {a : Array Value} (ht : TMR ρ nt tm a) {x : ResultVar} {y : Res} (hy : resC P x = some y) {v : V} (hv : resA tm h y = some v) :
    ∃ u, (resSem a x).run P w = .ok u w ∧ VR ρ v u := by
  unfold resC at hy
  split at hy
  · cases hy
    simp only [resA] at hv
    obtain ⟨u, q1, q2⟩ := ht.2 _ _ hv
    exact ⟨u, by simp [resSem, q1], q2⟩
  · split at hy
    · rename_i p t g hg
      cases hy
      simp only [resA] at hv
      split at hv
      · rename_i q hq
        obtain ⟨u, q1, q2⟩ := ht.2 _ _ hq
        obtain ⟨ad, had, u', g1, g2⟩ := load_sound (P := P) r hg q2 hv
        subst had
        exact ⟨u', by simp [resSem, q1, asAddr, g1], g2⟩
      · cases hv
    · cases hy

theorem ress_sound {ρ : Rho} {h : Heap} {w : World} (r : Rel B w0 ρ h w) {nt : Nat} {tm : TM} {a : Array Value} (ht : TMR ρ nt tm a) : ∀ {x : List ResultVar} {y : List Res}, ressC P x = some y → ∀ {v : List V}, ressA tm h y = some v →
    ∃ u, (x.mapM (m := Sem) (resSem a)).run P w = .ok u w ∧ VRs ρ v u
  | [], y, hy, v, hv => by cases hy; cases hv; exact ⟨[], rfl, .nil⟩
  | x :: xs, y, hy, v, hv => by
    unfold ressC at hy
    split at hy
    · rename_i p q hp hq
      cases hy
      unfold ressA at hv
      split at hv
      · rename_i s t hs ht'
        cases hv
        obtain ⟨u, g1, g2⟩ := res_sound (P := P) r ht hp hs
        obtain ⟨us, g3, g4⟩ := ress_sound r ht hq ht'
        refine ⟨u :: us, ?_, .cons _ _ _ _ g2 g4⟩
        rw [List.mapM_cons]
        simp only [Sem.run_bind, g1, Result.andThen_ok, g3, Sem.run_pure]
      · cases hv
    · cases hy

theorem results_sound {ρ : Rho} {h : Heap} {w : World} (r : Rel B w0 ρ h w) {fn : Func} {nt : Nat} {tm : TM} {a : Array Value} (ht : TMR ρ nt tm a) {rs : List Res} (hr : ressC P fn.results.toList = some rs) {v : List V} (hv : ressA tm h rs = some v) :
    ∃ u, (results fn a).run P w = .ok u w ∧ VR ρ (oneOf v) u := by
  obtain ⟨us, q1, q2⟩ := ress_sound (P := P) r ht hr hv
  have hm := arrMapM (P := P) (w := w) (resSem a) fn.results q1
  refine ⟨if h : us.toArray.size = 1 then us.toArray[0] else .tuple us.toArray, ?_, ?_⟩
  · rw [results_eq]
    simp only [Sem.run_bind, hm, Result.andThen_ok, Sem.run_pure]
  · cases q2 with
    | nil => simp only [oneOf]; exact .tuple _ _ .nil
    | cons v u vs us hv1 hvs =>
      cases hvs with
      | nil => simpa [oneOf] using hv1
      | cons v2 u2 vs us hv2 hvs =>
        simp only [oneOf, List.size_toArray, List.length_cons]
        rw [dif_neg (by omega)]
        exact .tuple _ _ (.cons _ _ _ _ hv1 (.cons _ _ _ _ hv2 hvs))

theorem args_sound {ρ : Rho} : ∀ {vs : List V} {us : List Value} (hv : VRs ρ vs us) (i : Nat) (tm : TM) (A : Array Value), (∀ j v, tm.get j = some v → ∃ u, A[j]? = some u ∧ VR ρ v u) → (∀ j u, us[j]? = some u → A[i + j]? = some u) →
    ∀ j v, (argsTM i vs tm).get j = some v → ∃ u, A[j]? = some u ∧ VR ρ v u
  | _, _, .nil, i, tm, A, h0, h1 => h0
  | _, _, .cons v u vs us hv ht, i, tm, A, h0, h1 => by
    unfold argsTM
    refine args_sound ht (i + 1) (tm.set i v) A (fun j v' hj => ?_) (fun j u' hj => ?_)
    · rw [Tr.get_set] at hj
      by_cases e : j = i
      · rw [if_pos e] at hj
        cases hj
        subst e
        exact ⟨u, by simpa using h1 0 u (by simp), hv⟩
      · rw [if_neg e] at hj
        exact h0 j v' hj
    · have := h1 (j + 1) u' (by simpa using hj)
      rwa [show i + (j + 1) = i + 1 + j by omega] at this

theorem Tr.get_nil {α : Type} (n : Nat) : (Tr.nil : Tr α).get n = none := rfl

/-- A function of the program's. -/
theorem body_sound {call : CallF} {L : LoopF} (hc : CallOk P B w0 call) (hm : CallHM call) (hl : LoopOk P B w0 L) (hlm : LoopHM L) {f : FuncId} {fn : Func} {af : AFunc} (hf : P.funcs[f]? = some fn) (haf : funcC P fn = some af)
    {args : List V} {h : Heap} {v : V} {h' : Heap} (hx : callBody (execC call L) af args h = some (v, h')) {ρ : Rho} {w : World} {us : Array Value} (r : Rel B w0 ρ h w) (hv : VRs ρ args us.toList) : CallSnd P B w0 ρ f us w h v h' := by
  unfold funcC at haf
  split at haf
  · rename_i c hbody
    split at haf
    · cases haf
    · rename_i hname
      split at haf
      · rename_i hnt
        split at haf
        · rename_i ac rs hac hrs
          cases haf
          unfold callBody at hx
          split at hx
          · rename_i hlen
            simp only at hlen hx
            refine .inl ⟨?_, fun n => ?_⟩
            · simp only [callFunc, Sem.run_bind, run_program, Result.andThen_ok, hf]
              simp only [hname, Bool.false_eq_true, if_false, hbody, Option.isNone_some, Sem.run_pure]
            · refine callsIn_of_wp hf hbody trivial ?_
              have hul : us.size = fn.params.size + fn.nfree := by
                have := hv.length
                simp only [Array.length_toList] at this
                omega
              have ht : TMR ρ fn.ntmps (argsTM 0 args .nil) (us ++ Array.replicate (fn.ntmps - us.size) undef) := by
                refine ⟨by simp; omega, ?_⟩
                refine args_sound hv 0 .nil _ (fun j v' hj => by rw [Tr.get_nil] at hj; cases hj) (fun j u hj => ?_)
                have hj' : us[j]? = some u := by simpa using hj
                have hlt : j < us.size := (Array.getElem?_eq_some_iff.1 hj').1
                rw [Nat.zero_add, Array.getElem?_append_left hlt]
                exact hj'
              split at hx
              · cases hx
              · rename_i ex tm h1 hne hex
                split at hx
                · rename_i vs hvs
                  have hmex := HM.exec hm hlm ac hex
                  have hw := (code_sound (P := P) hc hm hl hlm none n fn.ntmps c ac hac ρ (argsTM 0 args .nil) { tmps := us ++ Array.replicate (fn.ntmps - us.size) undef, defers := [] } _ w ht (r.reset h.size) _ _ _ hex).1
                  refine wpIn_mono (F := Fence.wide) hw ?_
                  rintro e a' w' ⟨he, hd, ρ', q1, q2, q3⟩
                  have fin : a'.defers = [] ∧ ∃ u, (results fn a'.tmps).run P w' = .ok u w' ∧ RetE B w0 ρ h.size v h' (.returned u) w' := by
                    obtain ⟨u, g1, g2⟩ := results_sound (P := P) q2 q1 hrs hvs
                    refine ⟨hd, u, g1, ?_⟩
                    have hcl : closeCall h (oneOf vs) h1 = (v, h') := Option.some.inj hx
                    obtain ⟨e1, ρ'', g3, g4, g5⟩ := close_sound r q2 q3 hmex g2 hcl
                    subst e1
                    exact ⟨ρ'', g3, g4, g5⟩
                  cases he with
                  | normal => exact fin
                  | exit id => exact absurd rfl (hne id)
                  | ret => exact fin
                · cases hx
              · cases hx
          · cases hx
        · cases haf
      · cases haf
  · cases haf

/-- The table of functions is the program's. -/
def TableOk (P : Program) (C : Cfg) : Prop := ∀ f af, C.F f = some af → ∃ fn, P.funcs[f]? = some fn ∧ funcC P fn = some af
/-- The summaries are the program's. -/
def SumOk (P : Program) (B : Nat) (w0 : World) (C : Cfg) : Prop :=
  ∀ f args h v h', C.S f args h = some (some (v, h')) → HM h h' ∧ ∀ (ρ : Rho) (w : World) (us : Array Value), Rel B w0 ρ h w → VRs ρ args us.toList → CallSnd P B w0 ρ f us w h v h'

/-- THE ABSTRACT MACHINE IS SOUND. -/
theorem run_sound {C : Cfg} (hT : TableOk P C) (hS : SumOk P B w0 C) : ∀ n, CallOk P B w0 (run C n).1 ∧ LoopOk P B w0 (run C n).2
  | 0 => by
    refine ⟨?_, ?_⟩
    · intro f args h v h' hx; simp [run] at hx
    · intro ro n nt c ac hac ρ tm a h w ht r ex tm' h' hx; simp [run] at hx
  | n + 1 => by
    obtain ⟨h1, h2⟩ := run_sound hT hS n
    obtain ⟨m1, m2⟩ := HM.run C (fun f args h v h' hx => (hS f args h v h' hx).1) n
    refine ⟨?_, ?_⟩
    · intro f args h v h' hx ρ w us r hv
      simp only [run] at hx
      split at hx
      · rename_i q hq
        subst hx
        exact (hS f args h v h' hq).2 ρ w us r hv
      · split at hx
        · rename_i af haf
          obtain ⟨fn, g1, g2⟩ := hT f af haf
          exact body_sound h1 m1 h2 m2 g1 g2 hx r hv
        · cases hx
    · intro ro m nt c ac hac ρ tm a h w ht r ex tm' h' hx
      exact code_sound h1 m1 h2 m2 ro m nt c ac hac ρ tm a h w ht r ex tm' h' hx
end
end Abs
end Go.Proofs.Ytnbljblnikdeiaa
