/- The abstract machine's operations are the model's: all that calls nothing. -/
import Derived.Test.YtmgbcaboljilnaaGreatDoorA11b
namespace Go.Proofs.YtmgbcaboljilnaaGreatDoor
namespace Abs
set_option linter.unusedVariables false
set_option linter.unusedSimpArgs false
open Go.RowKit

section
variable {P : Program} {B : Nat} {w0 w : World} {ρ : Rho} {h : Heap}

/-- What an operation comes to. -/
def Done (P : Program) (o : Oper) (a : Act) (w : World) (u : Value) (w' : World) : Prop :=
  (execOp a.eval o).run P w = .ok (.value u) w' ∨ ((execOp a.eval o).run P w = .ok .skip w' ∧ u = undef)

theorem run_val {s : Sem Value} {u : Value} {w w' : World} (h : s.run P w = .ok u w') : (do pure (Next.value (← s)) : Sem Next).run P w = .ok (.value u) w' := by
  simp only [Sem.run_bind, h, Result.andThen_ok, Sem.run_pure]
theorem run_skip {s : Sem Unit} {w w' : World} (h : s.run P w = .ok () w') : (do s; pure Next.skip : Sem Next).run P w = .ok .skip w' := by
  simp only [Sem.run_bind, h, Result.andThen_ok, Sem.run_pure]

abbrev Out (P : Program) (B : Nat) (w0 : World) (ρ : Rho) (n : Nat) (o : Oper) (a : Act) (w : World) (v : V) (h' : Heap) : Prop :=
  ∃ u w' ρ', Done P o a w u w' ∧ VR ρ' v u ∧ Rel P B w0 ρ' h' w' ∧ New ρ ρ' n

theorem Out.same (r : Rel P B w0 ρ h w) {n : Nat} {o : Oper} {a : Act} {v : V} {u : Value} (hd : (execOp a.eval o).run P w = .ok (.value u) w) (hv : VR ρ v u) : Out P B w0 ρ n o a w v h :=
  ⟨u, w, ρ, .inl hd, hv, r, New.refl _ _⟩

theorem eqRun {op : BinOp} {t : TypeId} {ox oy : Operand} {x y : V} {b : Bool} {d : EqD} (hd : eqdC P 1000 t = some d) (hg : P.eqGuardType P.depth t = false) (hv : eqA d x y = some b) {ux uy : Value} (hx : VR ρ x ux) (hy : VR ρ y uy)
    (hop : op = .eql ∨ op = .neq) (hni : (isInt P t || isStr P t) = false) : (do eqGuard op t ox oy ux uy; binOp op t ux uy : Sem Value).run P w = .ok (.bool (if op = .neq then !b else b)) w := by
  have hguard : (eqGuard op t ox oy ux uy).run P w = .ok () w := by
    cases d with
    | flat k =>
      refine guard_flat op t ox oy ?_ ?_
      · rintro ⟨rfl, rfl⟩
        cases hx; cases hy
        cases k <;> simp [eqA, flatEq] at hv
      · rintro c e ⟨rfl, rfl⟩
        cases hx; cases hy
        cases k <;> simp [eqA, flatEq] at hv
    | struct fs =>
      cases x <;> try (simp [eqA] at hv; done)
      cases y <;> try (simp [eqA] at hv; done)
      cases hx; cases hy
      exact run_eqGuard_agg w op t ox oy _ _ hg
  have heq := eqA_sound (P := P) (w := w) 1000 hd hv hx hy 10000 (by omega)
  have hbin : (binOp op t ux uy).run P w = ((Op.equalIn 10000 t ux uy).run P w).andThen fun b w' => .ok (.bool (if op = .neq then !b else b)) w' := by
    cases d with
    | flat k =>
      have hc := flatC hd
      rcases hop with rfl | rfl <;> simp only [eqA] at hv <;> unfold flatEq at hv <;> split at hv <;> first | (cases hv; done) | skip
      all_goals (cases hx; cases hy)
      all_goals try (cases hv; done)
      all_goals (first | rw [heq] | skip)
      all_goals simp only [Result.andThen_ok, reduceCtorEq, if_false, if_true]
      all_goals first
        | (rfl; done)
        | (simp only [binOp, Op.equal, Op.maxDepth, Sem.run_bind, heq, Result.andThen_ok, Sem.run_pure, reduceCtorEq, if_false, if_true]; done)
        | (obtain ⟨i, hi⟩ := hc; simp [isInt, hi] at hni; done)
        | (have hc' : P.underlying t = some .string := hc; simp [isStr, hc'] at hni; done)
    | struct fs =>
      cases x <;> try (simp [eqA] at hv; done)
      cases y <;> try (simp [eqA] at hv; done)
      cases hx; cases hy
      rcases hop with rfl | rfl
      · rw [run_eql_struct]; simp
      · rw [run_neq_struct]; simp
  simp only [Sem.run_bind, hguard, Result.andThen_ok, hbin, heq]


theorem isNil_run {t : TypeId} {neg : Bool} {x : Operand} {y0 : Operand} {k : K} (hk : isNilC P t neg x y0 = some k) : ∃ x', opdC x = some x' ∧ k = .isNil neg x' ∧ y0 = .const .nilIface ∧ ∃ i, P.underlying t = some (.interface i) := by
  unfold isNilC at hk
  split at hk
  · rename_i i x' h1 h2
    cases hk
    exact ⟨x', h2, rfl, rfl, i, h1⟩
  · cases hk
theorem nil_eq {op : BinOp} {t : TypeId} {x : Operand} {i : Array (String × TypeId)} (hu : P.underlying t = some (.interface i)) (hop : op = .eql ∨ op = .neq) {v : V} {ux : Value} (hx : VR ρ v ux) {b : Bool} (hv : (v = .nilIface ∧ b = true) ∨ (∃ t' v', v = .iface t' v' ∧ b = false)) :
    (do eqGuard op t x (.const .nilIface) ux .nilIface; binOp op t ux .nilIface : Sem Value).run P w = .ok (.bool (if op = .neq then !b else b)) w := by
  rcases hv with ⟨rfl, rfl⟩ | ⟨t', v', rfl, rfl⟩
  · cases hx
    have hg : (eqGuard op t x (.const .nilIface) .nilIface .nilIface).run P w = .ok () w := by
      rcases hop with rfl | rfl <;> simp [eqGuard]
    have he : (Op.equal t .nilIface .nilIface).run P w = .ok true w := by
      show (Op.equalIn (9999 + 1) t .nilIface .nilIface).run P w = _
      unfold Op.equalIn
      simp only [Sem.run_bind, run_und hu, Result.andThen_ok, Sem.run_pure]
    rcases hop with rfl | rfl <;> simp [hg, binOp, he]
  · cases hx
    have hg := guard_flat (P := P) (w := w) op t x (.const .nilIface) (a := .iface t' ‹Value›) (b := .nilIface) (by simp) (by simp)
    have he : (Op.equal t (.iface t' ‹Value›) .nilIface).run P w = .ok false w := by
      show (Op.equalIn (9999 + 1) t (.iface t' ‹Value›) .nilIface).run P w = _
      unfold Op.equalIn
      simp only [Sem.run_bind, run_und hu, Result.andThen_ok, Sem.run_pure]
    rcases hop with rfl | rfl <;> simp [hg, binOp, he]

theorem byteTy_is {e t : TypeId} (h : byteTy P e = some t) : e = t := by
  unfold byteTy at h
  split at h
  · cases h; rfl
  · cases h

theorem exec_builtin (a : Act) (b : Builtin) (args : List Operand) (ts : List TypeId) (dst : Option Tmp) (type : TypeId) (pos : String) (after : Array Edge) (guard : Option (Nat × Bool)) {s : Sem Value} (hb : ∀ cs, builtin b ts.toArray type cs (args.map a.eval).toArray = (do pure (Next.value (← s))))
    {u : Value} {w w' : World} (hs : s.run P w = .ok u w') : (execOp a.eval ⟨dst, .call ⟨.builtin b, args.toArray, ts.toArray⟩, type, pos, after, guard⟩).run P w = .ok (.value u) w' := by
  simp only [execOp, resolve, invoke, Sem.run_bind, Sem.run_pure, Result.andThen_ok, List.map_toArray, hb, hs]

theorem minNA_sound (mx : Bool) : ∀ (r : List V) (us : List Value) (k : IntKind) (a m : Int), VRs ρ r us → minNA mx a r = some m → (us.foldlM (m := Sem) (if mx then Builtin.max2 else Builtin.min2) (.int k a)).run P w = .ok (.int k m) w
  | [], _, k, a, m, .nil, h => by cases h; rfl
  | .int k' b :: r, _, k, a, m, .cons _ _ _ us hv ht, h => by
    cases hv
    simp only [minNA] at h
    rw [List.foldlM_cons]
    have : ((if mx then Builtin.max2 else Builtin.min2) (.int k a) (.int k' b)).run P w = .ok (.int k (if mx then (if b > a then b else a) else (if b < a then b else a))) w := by
      cases mx <;> simp [Builtin.max2, Builtin.min2]
    simp only [Sem.run_bind, this, Result.andThen_ok]
    exact minNA_sound mx r us k _ m ht h
  | .bool _ :: _, _, _, _, _, _, h | .str _ :: _, _, _, _, _, _, h | .ptr _ :: _, _, _, _, _, _, h | .slice .. :: _, _, _, _, _, _, h | .oslice .. :: _, _, _, _, _, _, h | .map _ :: _, _, _, _, _, _, h | .func .. :: _, _, _, _, _, _, h
  | .nilFunc :: _, _, _, _, _, _, h | .iface .. :: _, _, _, _, _, _, h | .nilIface :: _, _, _, _, _, _, h | .agg _ :: _, _, _, _, _, _, h | .tuple _ :: _, _, _, _, _, _, h | .yld _ :: _, _, _, _, _, _, h => by simp [minNA] at h
theorem minN_sound (mx : Bool) {k : IntKind} {a m : Int} {r : List V} {us : List Value} (hv : VRs ρ (.int k a :: r) us) (h : minNA mx a r = some m) :
    (match us with | [] => stuck "" | x :: rest => rest.foldlM (m := Sem) (if mx then Builtin.max2 else Builtin.min2) x).run P w = .ok (.int k m) w ∧ True := by
  cases hv with
  | cons _ u _ us hu ht =>
    cases hu
    exact ⟨minNA_sound mx r us k a m ht h, trivial⟩

theorem builtin_sound {b : Builtin} {args : List Operand} {ts : List TypeId} {dst : Option Tmp} {type : TypeId} {pos : String} {after : Array Edge} {guard : Option (Nat × Bool)} {k : K} (hk : builtinC P b ts args = some k) (hna : k.isAlloc = false)
    {nt : Nat} {tm : TM} {a : Act} (ht : TMR ρ nt tm a.tmps) (r : Rel P B w0 ρ h w) {v : V} {h' : Heap} (hx : opK k tm h = some (v, h')) :
    Out P B w0 ρ h.size ⟨dst, .call ⟨.builtin b, args.toArray, ts.toArray⟩, type, pos, after, guard⟩ a w v h' := by
  cases b <;> simp only [builtinC] at hk
  case append =>
    split at hk
    case h_2 => cases hk
    rename_i t u x y
    unfold appendC at hk
    split at hk
    · rename_i x' y' e hx' hy' hu
      split at hk
      · rename_i s bt z hs hb hz
        split at hk
        · rename_i hc
          obtain ⟨hzl, hs0, hb0⟩ := hc
          split at hk
          · rename_i d hd
            cases hk
            simp only [opK] at hx
            split at hx
            · rename_i p q hp hq
              unfold appendA at hx
              split at hx
              · rename_i n hn
                split at hx
                · rename_i items hi
                  split at hx
                  · rename_i hcond
                    obtain ⟨_, _, hil, hone⟩ := hcond
                    obtain ⟨us, g1, g2⟩ := items_slice (P := P) r hi (ev_sound ht hy' hq) hn
                    obtain ⟨uv, w', ρ', q1, q2, q3, q4⟩ := core_sound (P := P) (ty := type) r ⟨hu, .inl ⟨d, hd⟩⟩ hs hb hz hzl (ev_sound ht hx' hp) g1 g2 hil hone hb0 hs0 (fun t => byteTy_is) hx
                    exact ⟨uv, w', ρ', .inl (exec_builtin a _ _ _ _ _ _ _ _ (fun _ => rfl) q1), q2, q3, q4⟩
                  · cases hx
                · cases hx
              · cases hx
            · cases hx
          · rename_i hd
            split at hk
            · rename_i h11
              obtain ⟨rfl, rfl⟩ := h11
              cases hk
              simp only [opK] at hx
              split at hx
              · rename_i p q hp hq
                unfold appendSA at hx
                split at hx
                · rename_i s
                  have hvy := ev_sound ht hy' hq
                  cases hcr : a.eval y <;> rw [hcr] at hvy
                  case string sb =>
                    cases hvy with
                    | str _ _ hsb =>
                    subst hsb
                    have hlen : (strOf sb).length = sb.size := by simp [strOf]
                    rw [hlen] at hx
                    have hfc : ∀ w : World, (Builtin.firstCells 1 sb.size (.string sb)).run P w = .ok (sb.data.map fun b => Value.int .u8 b.toNat).toList.toArray w := by
                      intro w
                      simp only [Builtin.firstCells, Sem.run_pure]
                      have : sb.extract 0 sb.size = sb := by
                        rw [ByteArray.ext_iff]; simp [ByteArray.data_extract]
                      rw [this]
                    have hit : Items P w 1 sb.size (.string sb) (sb.data.map fun b => Value.int .u8 b.toNat).toList := ⟨fun _ => rfl, hfc w, hfc w.drew⟩
                    obtain ⟨uv, w', ρ', q1, q2, q3, q4⟩ := core_sound (P := P) (ty := type) r ⟨hu, .inr hd⟩ hs hb hz hzl (ev_sound ht hx' hp) (bytesV_sound sb) hit (by simp [bytesV, strOf]) (by simp [bytesV, V.one]) hb0 hs0 (fun t => byteTy_is) hx
                    refine ⟨uv, w', ρ', .inl (exec_builtin a _ _ _ _ _ _ _ _ (fun _ => rfl) ?_), q2, q3, q4⟩
                    simp only [List.map_cons, List.map_nil, hcr]
                    exact q1
                  all_goals cases hvy
                · cases hx
              · cases hx
            · cases hk
          · cases hk
        · cases hk
      · cases hk
    · cases hk
  case unsafeSliceData =>
    split at hk
    case h_2 => cases hk
    rename_i x
    split at hk
    · rename_i x' hx'
      cases hk
      simp only [opK] at hx
      split at hx
      · rename_i p hp
        split at hx
        · rename_i q hq
          cases hx
          obtain ⟨u, q1, q2⟩ := sliceData_sound (P := P) (w := w) hq (ev_sound ht hx' hp) ts.toArray type
          exact ⟨u, w, ρ, .inl (exec_builtin a _ _ _ _ _ _ _ _ (fun _ => rfl) q1), q2, r, New.refl _ _⟩
        · cases hx
      · cases hx
    · cases hk
  case unsafeString =>
    split at hk
    case h_2 => cases hk
    rename_i pt it x n
    split at hk
    · rename_i x' n' e hx' hn' hp'
      split at hk
      · rename_i hc
        cases hk
        simp only [opK] at hx
        split at hx
        · rename_i p q hp hq
          obtain ⟨u, w', q1, q2, q3⟩ := unsStr_sound (P := P) r hx (ev_sound ht hx' hp) (ev_sound ht hn' hq) pt it type hp' hc
          exact ⟨u, w', ρ, .inl (exec_builtin a _ _ _ _ _ _ _ _ (fun _ => rfl) q1), q2, q3, New.refl _ _⟩
        · cases hx
      · cases hk
    · cases hk
  case len =>
    split at hk
    case h_2 => cases hk
    rename_i t x
    unfold lenC at hk
    split at hk
    · rename_i x' hx' hu
      cases hk
      simp only [opK] at hx
      split at hx
      · rename_i l hq
        cases hx
        have hv := ev_sound ht hx' hq
        cases hcr : a.eval x <;> rw [hcr] at hv
        case string sb =>
          cases hv with
          | str _ _ hs =>
          subst hs
          refine Out.same r (exec_builtin a _ _ _ _ _ _ _ _ (fun _ => rfl) (u := .int .i64 (sb.size : Nat)) ?_) (by simp only [strOf, List.length_map, Array.length_toList]; exact .int _ _)
          simp [Builtin.len_, run_und hu, hcr, goInt]
        all_goals cases hv
      · cases hx
    · rename_i x' e hx' hu
      cases hk
      simp only [opK] at hx
      split at hx
      · rename_i q hq
        split at hx
        · rename_i n hn
          cases hx
          obtain ⟨A, c, hcr⟩ := slLen_of hn (ev_sound ht hx' hq)
          refine Out.same r (exec_builtin a _ _ _ _ _ _ _ _ (fun _ => rfl) (u := .int .i64 (n : Nat)) ?_) (.int _ _)
          simp [Builtin.len_, run_und hu, hcr, goInt]
        · cases hx
      · cases hx
    · rename_i x' kt et hx' hu
      cases hk
      simp only [opK] at hx
      split at hx
      · rename_i q hq
        split at hx
        · rename_i es hes
          cases hx
          have hv := ev_sound ht hx' hq
          unfold mapOf at hes
          split at hes
          · cases hes
            cases hcr : a.eval x <;> rw [hcr] at hv
            case map mr =>
              cases hv
              refine Out.same r (exec_builtin a _ _ _ _ _ _ _ _ (fun _ => rfl) (u := .int .i64 ((0 : Nat) : Int)) ?_) (.int _ _)
              simp [Builtin.len_, run_und hu, hcr, goInt]
            all_goals cases hv
          · split at hes
            · rename_i b _ es' _ hg
              cases hes
              cases hcr : a.eval x <;> rw [hcr] at hv
              case map mr =>
                cases hv with
                | map _ e rr he hr =>
                subst hr
                obtain ⟨ces, g1, g2, _⟩ := map_of r he hg
                have hl : es.length = ces.size := by simpa using g2.length
                rw [hl]
                refine Out.same r (exec_builtin a _ _ _ _ _ _ _ _ (fun _ => rfl) (u := .int .i64 (ces.size : Nat)) ?_) (.int _ _)
                simp [Builtin.len_, run_und hu, hcr, goInt, run_getObj g1]
              all_goals cases hv
            · cases hes
          · cases hes
        · cases hx
      · cases hx
    · rename_i x' n e hx' hu
      cases hk
      simp only [opK, ev] at hx
      cases hx
      refine Out.same r (exec_builtin a _ _ _ _ _ _ _ _ (fun _ => rfl) (u := .int .i64 (n : Nat)) ?_) (.int _ _)
      simp [Builtin.len_, run_und hu, goInt]
    · cases hk
  case min =>
    split at hk
    case h_3 => cases hk
    case h_2 =>
      rename_i x y z
      unfold mmNC at hk
      split at hk
      · rename_i xs hxs
        cases hk
        simp only [opK] at hx
        split at hx
        · rename_i k' n' r' hr
          split at hx
          · rename_i m hm
            cases hx
            have h1 := evs_sound ht hxs hr
            obtain ⟨q1, q2⟩ := minN_sound (P := P) (w := w) false h1 hm
            exact Out.same r (exec_builtin a _ _ _ _ _ _ _ _ (fun _ => rfl) (by simpa [Builtin.min_] using q1)) (.int _ _)
          · cases hx
        · cases hx
      · cases hk
    rename_i x y
    unfold mmC at hk
    split at hk
    · rename_i x' y' hx' hy'
      cases hk
      simp only [Bool.false_eq_true, if_false, opK] at hx
      split at hx
      · rename_i kx n ky m hp hq
        cases hx
        have h1 := ev_sound ht hx' hp
        have h2 := ev_sound ht hy' hq
        cases hcx : a.eval x <;> rw [hcx] at h1 <;> cases h1
        cases hcy : a.eval y <;> rw [hcy] at h2 <;> cases h2
        refine Out.same r (exec_builtin a _ _ _ _ _ _ _ _ (fun _ => rfl) (u := .int kx (if m < n then m else n)) ?_) (.int _ _)
        simp [Builtin.min_, Builtin.min2, hcx, hcy]
      · cases hx
    · cases hk
  case max =>
    split at hk
    case h_3 => cases hk
    case h_2 =>
      rename_i x y z
      unfold mmNC at hk
      split at hk
      · rename_i xs hxs
        cases hk
        simp only [opK] at hx
        split at hx
        · rename_i k' n' r' hr
          split at hx
          · rename_i m hm
            cases hx
            have h1 := evs_sound ht hxs hr
            obtain ⟨q1, q2⟩ := minN_sound (P := P) (w := w) true h1 hm
            exact Out.same r (exec_builtin a _ _ _ _ _ _ _ _ (fun _ => rfl) (by simpa [Builtin.max_] using q1)) (.int _ _)
          · cases hx
        · cases hx
      · cases hk
    rename_i x y
    unfold mmC at hk
    split at hk
    · rename_i x' y' hx' hy'
      cases hk
      simp only [if_true, opK] at hx
      split at hx
      · rename_i kx n ky m hp hq
        cases hx
        have h1 := ev_sound ht hx' hp
        have h2 := ev_sound ht hy' hq
        cases hcx : a.eval x <;> rw [hcx] at h1 <;> cases h1
        cases hcy : a.eval y <;> rw [hcy] at h2 <;> cases h2
        refine Out.same r (exec_builtin a _ _ _ _ _ _ _ _ (fun _ => rfl) (u := .int kx (if m > n then m else n)) ?_) (.int _ _)
        simp [Builtin.max_, Builtin.max2, hcx, hcy]
      · cases hx
    · cases hk
  case copy =>
    split at hk
    case h_2 => cases hk
    rename_i t u x y
    unfold copyC at hk
    split at hk
    · rename_i x' y' e hx' hy' hu
      split at hk
      · rename_i s hs
        cases hk
        simp only [opK] at hx
        split at hx
        · rename_i p q hp hq
          obtain ⟨uv, w', q1, q2, q3⟩ := copy_sound (P := P) (u := u) (ty := type) r hu hs hx (ev_sound ht hx' hp) (ev_sound ht hy' hq)
          exact ⟨uv, w', ρ, .inl (exec_builtin a _ _ _ _ _ _ _ _ (fun _ => rfl) q1), q2, q3, New.refl _ _⟩
        · cases hx
      · cases hk
    · cases hk
  case clear =>
    split at hk
    case h_2 => cases hk
    rename_i t x
    unfold clearC at hk
    split at hk
    · rename_i x' e hx' hu
      split at hk
      · rename_i s z hs hz
        split at hk
        · cases hk
          simp only [opK] at hx
          split at hx
          · rename_i p hp
            obtain ⟨uv, w', q1, q2, q3⟩ := clear_sound (P := P) (ty := type) r hu hs hz hx (ev_sound ht hx' hp)
            exact ⟨uv, w', ρ, .inl (exec_builtin a _ _ _ _ _ _ _ _ (fun _ => rfl) q1), q2, q3, New.refl _ _⟩
          · cases hx
        · cases hk
      · cases hk
    · cases hk
  case delete =>
    split at hk
    case h_2 => cases hk
    rename_i t u m k2
    unfold deleteC at hk
    split at hk
    · rename_i m' k' kt et hm' hk' hu
      split at hk
      · rename_i kk hkk
        cases hk
        simp only [opK] at hx
        split at hx
        · rename_i p q hp hq
          split at hx
          · rename_i h2 hh
            cases hx
            obtain ⟨w', q1, q2⟩ := mapDel_sound (P := P) (u := u) (ty := type) r hu hkk hh (ev_sound ht hm' hp) (ev_sound ht hk' hq)
            exact ⟨.tuple #[], w', ρ, .inl (exec_builtin a _ _ _ _ _ _ _ _ (fun _ => rfl) q1), .tuple _ _ .nil, q2, New.refl _ _⟩
          · cases hx
        · cases hx
      · cases hk
    · cases hk
  all_goals cases hk

set_option maxHeartbeats 1000000 in
theorem opK_sound {o : Oper} {k : K} (hk : kC P o = some k) (hna : k.isAlloc = false) {nt : Nat} {tm : TM} {a : Act} (ht : TMR ρ nt tm a.tmps) (r : Rel P B w0 ρ h w) {v : V} {h' : Heap} (hx : opK k tm h = some (v, h')) :
    Out P B w0 ρ h.size o a w v h' := by
  obtain ⟨dst, op, type, pos, after, guard⟩ := o
  cases op
  case move x =>
    simp only [kC] at hk
    split at hk
    · rename_i y hy
      cases hk
      simp only [opK] at hx
      split at hx
      · rename_i q hq
        cases hx
        exact Out.same r rfl (ev_sound ht hy hq)
      · cases hx
    · cases hk
  case assign x =>
    simp only [kC] at hk
    split at hk
    · rename_i y hy
      cases hk
      simp only [opK] at hx
      split at hx
      · rename_i q hq
        cases hx
        exact Out.same r rfl (ev_sound ht hy hq)
      · cases hx
    · cases hk
  case pick c x y =>
    simp only [kC] at hk
    split at hk
    · rename_i c' x' y' hc hx' hy'
      cases hk
      simp only [opK] at hx
      split at hx
      · rename_i t hq
        have hcb := ev_sound ht hc hq
        cases hcr : a.eval c <;> rw [hcr] at hcb <;> cases hcb
        split at hx
        · rename_i q hq2
          cases hx
          cases t with
          | true => exact Out.same r (by simp [execOp, hcr, asBool]) (ev_sound ht hx' hq2)
          | false => exact Out.same r (by simp [execOp, hcr, asBool]) (ev_sound ht hy' hq2)
        · cases hx
      · cases hx
    · cases hk
  case alloc t =>
    simp only [kC] at hk
    split at hk <;> cases hk
    cases hna
  case box t x =>
    simp only [kC] at hk
    split at hk <;> cases hk
    cases hna
  case build t parts =>
    simp only [kC] at hk
    split at hk
    · rename_i z fs hz hu
      split at hk
      · rename_i pl hpl
        split at hk
        · rename_i ps hps
          cases hk
          simp only [opK] at hx
          split at hx
          · rename_i vs hvs
            split at hx
            · rename_i cs hcs
              cases hx
              obtain ⟨zv, hzv, hzr⟩ := zeroC_val hz
              obtain ⟨c', q1, q2⟩ := fill_sound hps ht hvs hcs (hzr ρ)
              refine Out.same r (run_val ?_) (.agg _ _ q2)
              have hm := arrMapM (P := P) (w := w) (fun f : Field => (do pure (f.offset, ← sizeOf f.type) : Sem (Nat × Nat))) fs (places_sound hpl)
              have hpl2 : (fun i : Nat => pl.toArray[i]?) = (fun i : Nat => pl[i]?) := by funext i; simp
              have hparts : (parts.map fun (i, x) => (i, a.eval x)).toList = parts.toList.map fun (i, x) => (i, a.eval x) := by simp
              simp only [Instr.build, Sem.run_bind, run_zero hzv, Result.andThen_ok, run_und hu, hm, hpl2, hparts, q1, Sem.run_pure]
            · cases hx
          · cases hx
        · cases hk
      · cases hk
    · rename_i z n e hz hu
      split at hk
      · rename_i s hs
        split at hk
        · rename_i ps hps
          cases hk
          simp only [opK] at hx
          split at hx
          · rename_i vs hvs
            split at hx
            · rename_i cs hcs
              cases hx
              obtain ⟨zv, hzv, hzr⟩ := zeroC_val hz
              obtain ⟨c', q1, q2⟩ := fill_sound hps ht hvs hcs (hzr ρ)
              refine Out.same r (run_val ?_) (.agg _ _ q2)
              have hparts : (parts.map fun (i, x) => (i, a.eval x)).toList = parts.toList.map fun (i, x) => (i, a.eval x) := by simp
              simp only [Instr.build, Sem.run_bind, run_zero hzv, Result.andThen_ok, run_und hu, run_size hs, hparts, q1, Sem.run_pure]
            · cases hx
          · cases hx
        · cases hk
      · cases hk
    · cases hk
  case buildSlice t len parts =>
    simp only [kC] at hk
    split at hk
    · split at hk
      · split at hk
        · split at hk <;> cases hk
          cases hna
        · cases hk
      · cases hk
    · cases hk
  case load t x =>
    simp only [kC] at hk
    split at hk
    · rename_i y g hy hg
      cases hk
      simp only [opK] at hx
      split at hx
      · rename_i q hq
        split at hx
        · rename_i v' hv'
          cases hx
          obtain ⟨p, hp, u, q1, q2⟩ := load_sound (P := P) r hg (ev_sound ht hy hq) hv'
          refine Out.same r (run_val ?_) q2
          rw [hp]
          simp only [Instr.loadAt, Instr.sureAddr, Sem.run_bind, Sem.run_pure, Result.andThen_ok, q1]
        · cases hx
      · cases hx
    · cases hk
  case store t x y =>
    simp only [kC] at hk
    split at hk
    · rename_i x' y' n hx' hy' hn
      cases hk
      simp only [opK] at hx
      split at hx
      · rename_i p q hp hq
        split at hx
        · rename_i h2 hh
          cases hx
          obtain ⟨ad, had, w', q1, q2⟩ := store_sound (P := P) r hn (ev_sound ht hx' hp) (ev_sound ht hy' hq) hh
          refine ⟨undef, w', ρ, .inr ⟨run_skip ?_, rfl⟩, .tuple _ _ .nil, q2, New.refl _ _⟩
          rw [had]
          simp only [Instr.storeAt, Instr.sureAddr, Sem.run_bind, Sem.run_pure, Result.andThen_ok, q1]
        · cases hx
      · cases hx
    · cases hk
  case nilCheck x =>
    simp only [kC] at hk
    split at hk
    · rename_i y hy
      cases hk
      simp only [opK] at hx
      split at hx
      · rename_i p hq
        cases hx
        have hv := ev_sound ht hy hq
        cases hcr : a.eval x <;> rw [hcr] at hv
        case pointer ad =>
          cases ad with
          | none => cases hv
          | some ad => exact Out.same r (by simp [execOp, hcr]) hv
        all_goals cases hv
      · rename_i f c1 c2 hq
        cases hx
        have hv := ev_sound ht hy hq
        cases hcr : a.eval x <;> rw [hcr] at hv
        case func fn first caps =>
          cases hv with
          | func _ _ _ _ _ h1 h2 => exact Out.same r (by simp [execOp, hcr]) (.func _ _ _ _ _ h1 h2)
        all_goals cases hv
      · cases hx
    · cases hk
  case binOp op t x y t2 =>
    simp only [kC, binC] at hk
    split at hk
    · rename_i x' y' hx' hy'
      split at hk
      · cases hk
        simp only [opK] at hx
        split at hx
        · rename_i p q hp hq
          split at hx
          · rename_i v' hv'
            cases hx
            obtain ⟨u, q1, q2⟩ := bin_sound (P := P) (w := w) (t := t) (ox := x) (oy := y) hv' (ev_sound ht hx' hp) (ev_sound ht hy' hq)
            exact Out.same r (run_val q1) q2
          · cases hx
        · cases hx
      · rename_i hni
        split at hk
        · split at hk
          · rename_i k' hn
            cases hk
            obtain ⟨x2, n1, rfl, rfl, i, n3⟩ := isNil_run (P := P) hn
            simp only [opK] at hx
            split at hx
            · rename_i hq
              cases hx
              have := nil_eq (P := P) (w := w) (op := .eql) (x := x) n3 (.inl rfl) (ev_sound ht n1 hq) (.inl ⟨rfl, rfl⟩)
              exact Out.same r (run_val this) (.bool _)
            · rename_i hq
              cases hx
              have := nil_eq (P := P) (w := w) (op := .eql) (x := x) n3 (.inl rfl) (ev_sound ht n1 hq) (.inr ⟨_, _, rfl, rfl⟩)
              exact Out.same r (run_val this) (.bool _)
            · cases hx
          split at hk
          · cases hk
          · rename_i hg
            split at hk
            · rename_i d hd
              cases hk
              simp only [opK] at hx
              split at hx
              · rename_i p q hp hq
                split at hx
                · rename_i b hb
                  cases hx
                  have := eqRun (P := P) (w := w) (op := .eql) (ox := x) (oy := y) hd (by simpa using hg) hb (ev_sound ht hx' hp) (ev_sound ht hy' hq) (.inl rfl) (by simpa using hni)
                  exact Out.same r (run_val this) (.bool _)
                · cases hx
              · cases hx
            · cases hk
        · split at hk
          · rename_i k' hn
            cases hk
            obtain ⟨x2, n1, rfl, rfl, i, n3⟩ := isNil_run (P := P) hn
            simp only [opK] at hx
            split at hx
            · rename_i hq
              cases hx
              have := nil_eq (P := P) (w := w) (op := .neq) (x := x) n3 (.inr rfl) (ev_sound ht n1 hq) (.inl ⟨rfl, rfl⟩)
              exact Out.same r (run_val this) (.bool _)
            · rename_i hq
              cases hx
              have := nil_eq (P := P) (w := w) (op := .neq) (x := x) n3 (.inr rfl) (ev_sound ht n1 hq) (.inr ⟨_, _, rfl, rfl⟩)
              exact Out.same r (run_val this) (.bool _)
            · cases hx
          split at hk
          · cases hk
          · rename_i hg
            split at hk
            · rename_i d hd
              cases hk
              simp only [opK] at hx
              split at hx
              · rename_i p q hp hq
                split at hx
                · rename_i b hb
                  cases hx
                  have := eqRun (P := P) (w := w) (op := .neq) (ox := x) (oy := y) hd (by simpa using hg) hb (ev_sound ht hx' hp) (ev_sound ht hy' hq) (.inr rfl) (by simpa using hni)
                  exact Out.same r (run_val this) (.bool _)
                · cases hx
              · cases hx
            · cases hk
        · cases hk
    · cases hk
  case unOp op t x =>
    simp only [kC] at hk
    split at hk
    · rename_i y hy
      cases hk
      simp only [opK] at hx
      split at hx
      · rename_i b hq
        cases hx
        have hv := ev_sound ht hy hq
        cases hcr : a.eval x <;> rw [hcr] at hv <;> cases hv
        exact Out.same r (by simp [execOp, hcr, Op.unary]) (.bool _)
      · cases hx
    · rename_i y hy
      cases hk
      simp only [opK] at hx
      split at hx
      · rename_i kk n hq
        cases hx
        have hv := ev_sound ht hy hq
        cases hcr : a.eval x <;> rw [hcr] at hv <;> cases hv
        exact Out.same r (by simp [execOp, hcr, Op.unary, Op.intArith]) (.int _ _)
      · cases hx
    · rename_i y hy
      cases hk
      simp only [opK] at hx
      split at hx
      · rename_i kk n hq
        cases hx
        have hv := ev_sound ht hy hq
        cases hcr : a.eval x <;> rw [hcr] at hv <;> cases hv
        refine Out.same r (run_val (u := .int kk (kk.wrap (BitVec.ofInt kk.bits (if kk.signed then -1 else kk.max) ^^^ BitVec.ofInt kk.bits n).toNat)) ?_) (.int _ _)
        rw [hcr]
        rfl
      · cases hx
    · cases hk
  case convert s d x =>
    simp only [kC, convC] at hk
    split at hk
    · rename_i y ks kd hy hs hd
      cases hk
      simp only [opK] at hx
      split at hx
      · rename_i k0 n hq
        cases hx
        have hv := ev_sound ht hy hq
        cases hcr : a.eval x <;> rw [hcr] at hv <;> cases hv
        refine Out.same r (run_val (u := .int kd (kd.wrap n)) ?_) (.int _ _)
        simp only [hcr, convert, Sem.run_bind, run_und hs, run_und hd, Result.andThen_ok, Conv.intToInt, Sem.run_pure]
      · cases hx
    · rename_i y hy hs hd
      cases hk
      simp only [opK] at hx
      split at hx
      · rename_i l hq
        cases hx
        have hv := ev_sound ht hy hq
        cases hcr : a.eval x <;> rw [hcr] at hv
        case string sb =>
          refine Out.same r (run_val (u := .string sb) ?_) hv
          simp only [hcr, convert, Sem.run_bind, run_und hs, run_und hd, Result.andThen_ok, Sem.run_pure]
        all_goals cases hv
      · cases hx
    · rename_i y e hy hs hd
      split at hk
      · rename_i he
        cases hk
        simp only [opK] at hx
        split at hx
        · rename_i q hq
          split at hx
          · rename_i v' hv'
            cases hx
            obtain ⟨u, q1, q2⟩ := toStr_sound (P := P) r hs he hd hv' (ev_sound ht hy hq)
            exact Out.same r (run_val q1) q2
          · cases hx
        · cases hx
      · cases hk
    · split at hk <;> cases hk
      cases hna
    · rename_i y t hy hs hd
      split at hk
      · rename_i m hm
        cases hk
        simp only [opK] at hx
        split at hx
        · rename_i q hq
          split at hx
          · rename_i hc
            cases hx
            have hv := ev_sound ht hy hq
            exact Out.same r (run_val (unsP_sound (P := P) r hc hv hs hd hm)) hv
          · cases hx
        · cases hx
      · cases hk
    · rename_i y t hy hs hd
      split at hk
      · rename_i m hm
        split at hk
        · rename_i hcl
          cases hk
          simp only [opK] at hx
          split at hx
          · rename_i q hq
            split at hx
            · rename_i hc
              cases hx
              have hv := ev_sound ht hy hq
              exact Out.same r (run_val (ofUns_sound (P := P) r hc hv hs hd hm hcl)) hv
            · cases hx
          · cases hx
        · cases hk
      · cases hk
    · cases hk
  case sliceToArrayPointer => simp [kC] at hk
  case makeInterface t x =>
    simp only [kC] at hk
    split at hk
    · cases hk
    · rename_i d y h1 hu hy
      cases hk
      simp only [opK] at hx
      split at hx
      · rename_i q hq
        cases hx
        refine Out.same r (run_val (u := .iface t (a.eval x)) ?_) (.iface _ _ _ (ev_sound ht hy hq))
        simp only [Instr.makeInterface, Sem.run_bind, run_und hu, Result.andThen_ok]
        rfl
      · cases hx
    · cases hk
  case makeFunc fn first caps =>
    cases fn <;> simp only [kC] at hk <;> try (cases hk; done)
    split at hk
    · rename_i x' y' hx' hy'
      cases hk
      simp only [opK] at hx
      split at hx
      · rename_i p q hp hq
        cases hx
        refine Out.same r (run_val rfl) (.func _ _ _ _ _ ?_ ?_)
        · have := evs_sound ht hx' hp; simpa using this
        · have := evs_sound ht hy' hq; simpa using this
      · cases hx
    · cases hk
  case makeMap t rs =>
    cases rs <;> simp only [kC] at hk <;> cases hk
    cases hna
  case makeChan => simp [kC] at hk
  case makeSlice t l c =>
    simp only [kC] at hk
    split at hk
    · split at hk
      · split at hk <;> cases hk
        cases hna
      · cases hk
    · cases hk
  case slice t x lo hi mx =>
    simp only [kC, sliceC] at hk
    split at hk
    · rename_i x' lo' hi' mx' hx' hlo hhi hmx
      split at hk
      · rename_i hu
        split at hk
        · cases hk
          simp only [opK] at hx
          split at hx
          · rename_i p q1 q2 hp hq1 hq2
            split at hx
            · rename_i v' hv'
              cases hx
              cases mx with
              | some m => simp only [opdO] at hmx; split at hmx <;> cases hmx
              | none =>
              obtain ⟨u, g1, g2⟩ := sliceStr_sound (P := P) (w := w) hu hv' (ev_sound ht hx' hp) (evo_sound ht hlo hq1) (evo_sound ht hhi hq2)
              exact Out.same r (run_val g1) g2
            · cases hx
          · cases hx
        · cases hk
      · rename_i e hu
        split at hk
        · rename_i s hs
          cases hk
          simp only [opK] at hx
          split at hx
          · rename_i p q1 q2 q3 hp hq1 hq2 hq3
            split at hx
            · rename_i v' hv'
              cases hx
              obtain ⟨u, g1, g2⟩ := sliceSl_sound (P := P) (w := w) hu hs hv' (ev_sound ht hx' hp) (evo_sound ht hlo hq1) (evo_sound ht hhi hq2) (evo_sound ht hmx hq3)
              exact Out.same r (run_val g1) g2
            · cases hx
          · cases hx
        · cases hk
      · rename_i n e hu
        split at hk
        · rename_i s hs
          cases hk
          simp only [opK] at hx
          split at hx
          · rename_i p q1 q2 hp hq1 hq2
            split at hx
            · rename_i v' hv'
              cases hx
              cases mx with
              | some m => simp only [opdO] at hmx; split at hmx <;> cases hmx
              | none =>
              obtain ⟨u, g1, g2⟩ := sliceArr_sound (P := P) (w := w) hu hs hv' (ev_sound ht hx' hp) (evo_sound ht hlo hq1) (evo_sound ht hhi hq2)
              exact Out.same r (run_val g1) g2
            · cases hx
          · cases hx
        · cases hk
      · cases hk
    · cases hk
  case fieldAddr s x f =>
    simp only [kC] at hk
    split at hk
    · rename_i fs x' hu hx'
      split at hk
      · rename_i fd hfd
        split at hk
        · rename_i n hn
          cases hk
          simp only [opK] at hx
          split at hx
          · rename_i b o' hq
            cases hx
            have hv := ev_sound ht hx' hq
            cases hcr : a.eval x <;> rw [hcr] at hv
            case pointer ad =>
              cases hv with
              | ptr _ _ e ad' he had =>
              refine Out.same r (run_val (u := .pointer (some (ad'.add fd.offset))) ?_) (.ptr _ _ e _ he (by rw [had, at_add]))
              simp only [hcr, Instr.fieldAt, Sem.run_bind, run_und hu, Result.andThen_ok, hfd, Instr.sureAddr, Sem.run_pure, fieldPlace, run_size hn, Nat.add_one_ne_zero, if_false]
            all_goals cases hv
          · cases hx
        · cases hk
      · cases hk
    · cases hk
  case field t x f =>
    simp only [kC] at hk
    split at hk
    · rename_i fs x' hu hx'
      split at hk
      · rename_i fd hfd
        split at hk
        · rename_i g hg
          cases hk
          simp only [opK] at hx
          split at hx
          · rename_i cs hq
            split at hx
            · rename_i v' hv'
              cases hx
              have hv := ev_sound ht hx' hq
              cases hcr : a.eval x <;> rw [hcr] at hv
              case agg c =>
                cases hv with
                | agg _ _ hvs =>
                obtain ⟨u, q1, q2⟩ := part_sound (P := P) (w := w) hg hvs hv'
                refine Out.same r (run_val (u := u) ?_) q2
                simp only [hcr, Instr.field, Sem.run_bind, run_und hu, Result.andThen_ok, hfd, asAgg, Sem.run_pure, q1]
              all_goals cases hv
            · cases hx
          · cases hx
        · cases hk
      · cases hk
    · cases hk
  case indexAddr t x i =>
    simp only [kC] at hk
    split at hk
    · rename_i e x' i' hu hx' hi'
      split at hk
      · rename_i s hs
        cases hk
        simp only [opK] at hx
        split at hx
        · rename_i p q hp hq
          split at hx
          · rename_i v' hv'
            cases hx
            obtain ⟨u, q1, q2⟩ := idxSl_sound (P := P) (w := w) hu hs hv' (ev_sound ht hx' hp) (ev_sound ht hi' hq)
            exact Out.same r (run_val q1) q2
          · cases hx
        · cases hx
      · cases hk
    · rename_i n e x' i' hu hx' hi'
      split at hk
      · rename_i s hs
        cases hk
        simp only [opK] at hx
        split at hx
        · rename_i p q hp hq
          split at hx
          · rename_i v' hv'
            cases hx
            obtain ⟨u, q1, q2⟩ := idxArr_sound (P := P) (w := w) hu hs hv' (ev_sound ht hx' hp) (ev_sound ht hi' hq)
            exact Out.same r (run_val q1) q2
          · cases hx
        · cases hx
      · cases hk
    · cases hk
  case index t x i =>
    simp only [kC] at hk
    split at hk
    · rename_i x' i' hu hx' hi'
      cases hk
      simp only [opK] at hx
      split at hx
      · rename_i p q hp hq
        split at hx
        · rename_i v' hv'
          cases hx
          obtain ⟨u, q1, q2⟩ := atStr_sound (P := P) (w := w) hu hv' (ev_sound ht hx' hp) (ev_sound ht hi' hq)
          exact Out.same r (run_val q1) q2
        · cases hx
      · cases hx
    · rename_i n e x' i' hu hx' hi'
      split at hk
      · rename_i s g hs hg
        cases hk
        simp only [opK] at hx
        split at hx
        · rename_i p q hp hq
          split at hx
          · rename_i v' hv'
            cases hx
            obtain ⟨u, q1, q2⟩ := atArr_sound (P := P) (w := w) hu hs hg hv' (ev_sound ht hx' hp) (ev_sound ht hi' hq)
            exact Out.same r (run_val q1) q2
          · cases hx
        · cases hx
      · cases hk
    · cases hk
  case lookup t m k' ok =>
    simp only [kC] at hk
    split at hk
    · rename_i kt et m' k2 hu hm hk2
      split at hk
      · rename_i z hz
        split at hk
        · rename_i zv hzv
          split at hk
          · rename_i kk hkk
            cases hk
            simp only [opK] at hx
            split at hx
            · rename_i p q hp hq
              split at hx
              · rename_i v' hv'
                cases hx
                obtain ⟨u, q1, q2⟩ := lookup_sound (P := P) r hu hkk hz hzv hv' (ev_sound ht hm hp) (ev_sound ht hk2 hq)
                exact Out.same r (run_val q1) q2
              · cases hx
            · cases hx
          · cases hk
        · cases hk
      · cases hk
    · cases hk
  case mapUpdate t m k' v2 =>
    simp only [kC] at hk
    split at hk
    · rename_i kt et m' k2 v3 hu hm hk2 hv3
      split at hk
      · rename_i kk hkk
        cases hk
        simp only [opK] at hx
        split at hx
        · rename_i p q s hp hq hs
          split at hx
          · rename_i h2 hh
            cases hx
            obtain ⟨w', q1, q2⟩ := mapUpd_sound (P := P) r hu hkk hh (ev_sound ht hm hp) (ev_sound ht hk2 hq) (ev_sound ht hv3 hs)
            exact ⟨undef, w', ρ, .inr ⟨run_skip q1, rfl⟩, .tuple _ _ .nil, q2, New.refl _ _⟩
          · cases hx
        · cases hx
      · cases hk
    · cases hk
  case insert t m k' v2 =>
    simp only [kC] at hk
    split at hk
    · rename_i kt et m' k2 v3 hu hm hk2 hv3
      split at hk
      · rename_i kk hkk
        cases hk
        simp only [opK] at hx
        split at hx
        · rename_i p q s hp hq hs
          split at hx
          · rename_i h2 hh
            cases hx
            obtain ⟨w', q1, q2⟩ := mapUpd_sound (P := P) r hu hkk hh (ev_sound ht hm hp) (ev_sound ht hk2 hq) (ev_sound ht hv3 hs)
            exact ⟨undef, w', ρ, .inr ⟨run_skip q1, rfl⟩, .tuple _ _ .nil, q2, New.refl _ _⟩
          · cases hx
        · cases hx
      · cases hk
    · cases hk
  case typeAssert x xt at_ ok =>
    cases ok with
    | true => simp [kC] at hk
    | false =>
    simp only [kC] at hk
    split at hk
    · cases hk
    · rename_i y d hni hy hd
      cases hk
      simp only [opK] at hx
      split at hx
      · rename_i t' v' hq
        split at hx
        · rename_i ht'
          cases hx
          subst ht'
          have hv := ev_sound ht hy hq
          cases hcr : a.eval x <;> rw [hcr] at hv
          case iface t2 u2 =>
            cases hv with
            | iface _ _ _ hv2 =>
            refine Out.same r (run_val (u := u2) ?_) hv2
            rw [hcr]
            unfold Instr.typeAssert
            simp only [Sem.run_bind, run_und hd, Result.andThen_ok]
            split
            all_goals first
              | exact (hni _ rfl).elim
              | (simp; done)
              | (rename_i h2; exact absurd rfl (h2 _ _))
              | (rename_i h2 h3; simp_all; done)
          all_goals cases hv
        · cases hx
      · cases hx
    · cases hk
  case mapEntry t m k' =>
    simp only [kC] at hk
    split at hk
    · rename_i kt et m' k2 hu hm hk2
      split at hk
      · rename_i z hz
        split at hk
        · rename_i zv hzv
          split at hk
          · rename_i kk hkk
            cases hk
            simp only [opK] at hx
            split at hx
            · rename_i p q hp hq
              obtain ⟨u, w', q1, q2, q3⟩ := mapEnt_sound (P := P) r hu hkk hz hzv hx (ev_sound ht hm hp) (ev_sound ht hk2 hq)
              exact ⟨u, w', ρ, .inl (run_val q1), q2, q3, New.refl _ _⟩
            · cases hx
          · cases hk
        · cases hk
      · cases hk
    · cases hk
  case entryStore t m s x =>
    simp only [kC] at hk
    split at hk
    · rename_i m' s' x' hm hs hx'
      cases hk
      simp only [opK] at hx
      split at hx
      · rename_i p q s2 hp hq hs2
        split at hx
        · rename_i h2 hh
          cases hx
          obtain ⟨w', q1, q2⟩ := entSt_sound (P := P) (t := t) r hh (ev_sound ht hm hp) (ev_sound ht hs hq) (ev_sound ht hx' hs2)
          exact ⟨undef, w', ρ, .inr ⟨run_skip q1, rfl⟩, .tuple _ _ .nil, q2, New.refl _ _⟩
        · cases hx
      · cases hx
    · cases hk
  case extract x i =>
    simp only [kC] at hk
    split at hk
    · rename_i y hy
      cases hk
      simp only [opK] at hx
      split at hx
      · rename_i vs hq
        split at hx
        · rename_i v' hv'
          cases hx
          have hv := ev_sound ht hy hq
          cases hcr : a.eval x <;> rw [hcr] at hv
          case tuple c =>
            cases hv with
            | tuple _ _ hvs =>
            obtain ⟨u, q1, q2⟩ := hvs.get _ _ hv'
            have q1' : c[i]? = some u := by simpa using q1
            refine Out.same r (run_val (u := u) ?_) q2
            simp only [hcr, Instr.extract, q1', Sem.run_pure]
          all_goals cases hv
        · cases hx
      · cases hx
    · cases hk
  case call c =>
    obtain ⟨callee, args, ts⟩ := c
    cases callee
    case value f =>
      simp only [kC] at hk
      split at hk <;> cases hk
      simp [opK] at hx
    case invoke =>
      simp only [kC] at hk
      split at hk <;> cases hk
      simp [opK] at hx
    case builtin b =>
      obtain ⟨args⟩ := args
      obtain ⟨ts⟩ := ts
      simp only [kC] at hk
      exact builtin_sound hk hna ht r hx
  all_goals simp [kC] at hk
end
end Abs
end Go.Proofs.YtmgbcaboljilnaaGreatDoor
