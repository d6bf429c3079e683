/- The abstract machine's operations are the model's: all that calls nothing. -/
import Derived.Test.YtnbljblnikdeiaaA11
namespace Go.Proofs.Ytnbljblnikdeiaa
namespace Abs
set_option linter.unusedVariables false
set_option linter.unusedSimpArgs false
open Go.RowKit

section
variable {P : Program} {B : Nat} {w0 w : World} {ρ : Rho} {h : Heap}

/-- What an operation comes to. -/
def Done (P : Program) (o : Oper) (a : Act) (w : World) (u : Value) (w' : World) : Prop :=
  (execOp a.eval o).run P w = .ok (.value u) w' ∨ ((execOp a.eval o).run P w = .ok .skip w' ∧ u = undef)

theorem run_val {s : Sem Value} {u : Value} {w w' : World} (h : s.run P w = .ok u w') : (do pure (Next.value (← s)) : Sem Next).run P w = .ok (.value u) w' := by
  simp only [Sem.run_bind, h, Result.andThen_ok, Sem.run_pure]
theorem run_skip {s : Sem Unit} {w w' : World} (h : s.run P w = .ok () w') : (do s; pure Next.skip : Sem Next).run P w = .ok .skip w' := by
  simp only [Sem.run_bind, h, Result.andThen_ok, Sem.run_pure]

abbrev Out (P : Program) (B : Nat) (w0 : World) (ρ : Rho) (n : Nat) (o : Oper) (a : Act) (w : World) (v : V) (h' : Heap) : Prop :=
  ∃ u w' ρ', Done P o a w u w' ∧ VR ρ' v u ∧ Rel B w0 ρ' h' w' ∧ New ρ ρ' n

theorem Out.same (r : Rel B w0 ρ h w) {n : Nat} {o : Oper} {a : Act} {v : V} {u : Value} (hd : (execOp a.eval o).run P w = .ok (.value u) w) (hv : VR ρ v u) : Out P B w0 ρ n o a w v h :=
  ⟨u, w, ρ, .inl hd, hv, r, New.refl _ _⟩

theorem eqRun {op : BinOp} {t : TypeId} {ox oy : Operand} {x y : V} {b : Bool} {d : EqD} (hd : eqdC P 1000 t = some d) (hg : P.eqGuardType P.depth t = false) (hv : eqA d x y = some b) {ux uy : Value} (hx : VR ρ x ux) (hy : VR ρ y uy)
    (hop : op = .eql ∨ op = .neq) (hni : (isInt P t || isStr P t) = false) : (do eqGuard op t ox oy ux uy; binOp op t ux uy : Sem Value).run P w = .ok (.bool (if op = .neq then !b else b)) w := by
  have hguard : (eqGuard op t ox oy ux uy).run P w = .ok () w := by
    cases d with
    | flat k =>
      refine guard_flat op t ox oy ?_ ?_
      · rintro ⟨rfl, rfl⟩
        cases hx; cases hy
        cases k <;> simp [eqA, flatEq] at hv
      · rintro c e ⟨rfl, rfl⟩
        cases hx; cases hy
        cases k <;> simp [eqA, flatEq] at hv
    | struct fs =>
      cases x <;> try (simp [eqA] at hv; done)
      cases y <;> try (simp [eqA] at hv; done)
      cases hx; cases hy
      exact run_eqGuard_agg w op t ox oy _ _ hg
  have heq := eqA_sound (P := P) (w := w) 1000 hd hv hx hy 10000 (by omega)
  have hbin : (binOp op t ux uy).run P w = ((Op.equalIn 10000 t ux uy).run P w).andThen fun b w' => .ok (.bool (if op = .neq then !b else b)) w' := by
    cases d with
    | flat k =>
      have hc := flatC hd
      rcases hop with rfl | rfl <;> simp only [eqA] at hv <;> unfold flatEq at hv <;> split at hv <;> first | (cases hv; done) | skip
      all_goals (cases hx; cases hy)
      all_goals try (cases hv; done)
      all_goals (first | rw [heq] | skip)
      all_goals simp only [Result.andThen_ok, reduceCtorEq, if_false, if_true]
      all_goals first
        | (rfl; done)
        | (simp only [binOp, Op.equal, Op.maxDepth, Sem.run_bind, heq, Result.andThen_ok, Sem.run_pure, reduceCtorEq, if_false, if_true]; done)
        | (obtain ⟨i, hi⟩ := hc; simp [isInt, hi] at hni; done)
        | (have hc' : P.underlying t = some .string := hc; simp [isStr, hc'] at hni; done)
    | struct fs =>
      cases x <;> try (simp [eqA] at hv; done)
      cases y <;> try (simp [eqA] at hv; done)
      cases hx; cases hy
      rcases hop with rfl | rfl
      · rw [run_eql_struct]; simp
      · rw [run_neq_struct]; simp
  simp only [Sem.run_bind, hguard, Result.andThen_ok, hbin, heq]


theorem exec_builtin (a : Act) (b : Builtin) (args : List Operand) (ts : List TypeId) (dst : Option Tmp) (type : TypeId) (pos : String) (after : Array Edge) (guard : Option (Nat × Bool)) {s : Sem Value} (hb : ∀ cs, builtin b ts.toArray type cs (args.map a.eval).toArray = (do pure (Next.value (← s))))
    {u : Value} {w w' : World} (hs : s.run P w = .ok u w') : (execOp a.eval ⟨dst, .call ⟨.builtin b, args.toArray, ts.toArray⟩, type, pos, after, guard⟩).run P w = .ok (.value u) w' := by
  simp only [execOp, resolve, invoke, Sem.run_bind, Sem.run_pure, Result.andThen_ok, List.map_toArray, hb, hs]

theorem builtin_sound {b : Builtin} {args : List Operand} {ts : List TypeId} {dst : Option Tmp} {type : TypeId} {pos : String} {after : Array Edge} {guard : Option (Nat × Bool)} {k : K} (hk : builtinC P b ts args = some k) (hna : k.isAlloc = false)
    {nt : Nat} {tm : TM} {a : Act} (ht : TMR ρ nt tm a.tmps) (r : Rel B w0 ρ h w) {v : V} {h' : Heap} (hx : opK k tm h = some (v, h')) :
    Out P B w0 ρ h.size ⟨dst, .call ⟨.builtin b, args.toArray, ts.toArray⟩, type, pos, after, guard⟩ a w v h' := by
  cases b <;> simp only [builtinC] at hk
  case append =>
    split at hk
    case h_2 => cases hk
    rename_i t u x y
    unfold appendC at hk
    split at hk
    · rename_i x' y' e hx' hy' hu
      split at hk
      · rename_i s bt z hs hb hz
        split at hk
        · rename_i hc
          obtain ⟨hzl, hs0, hb0⟩ := hc
          split at hk
          · rename_i d hd
            cases hk
            simp only [opK] at hx
            split at hx
            · rename_i p q hp hq
              unfold appendA at hx
              split at hx
              · rename_i n hn
                split at hx
                · rename_i items hi
                  split at hx
                  · rename_i hcond
                    obtain ⟨_, _, hil, hone⟩ := hcond
                    obtain ⟨us, g1, g2⟩ := items_slice (P := P) r hi (ev_sound ht hy' hq) hn
                    obtain ⟨uv, w', ρ', q1, q2, q3, q4⟩ := core_sound (P := P) (ty := type) r ⟨hu, .inl ⟨d, hd⟩⟩ hs hb hz hzl (ev_sound ht hx' hp) g1 g2 hil hone hb0 hs0 hx
                    exact ⟨uv, w', ρ', .inl (exec_builtin a _ _ _ _ _ _ _ _ (fun _ => rfl) q1), q2, q3, q4⟩
                  · cases hx
                · cases hx
              · cases hx
            · cases hx
          · rename_i hd
            split at hk
            · rename_i h11
              obtain ⟨rfl, rfl⟩ := h11
              cases hk
              simp only [opK] at hx
              split at hx
              · rename_i p q hp hq
                unfold appendSA at hx
                split at hx
                · rename_i s
                  have hvy := ev_sound ht hy' hq
                  cases hcr : a.eval y <;> rw [hcr] at hvy
                  case string sb =>
                    cases hvy with
                    | str _ _ hsb =>
                    subst hsb
                    have hlen : (strOf sb).length = sb.size := by simp [strOf]
                    rw [hlen] at hx
                    have hfc : ∀ w : World, (Builtin.firstCells 1 sb.size (.string sb)).run P w = .ok (sb.data.map fun b => Value.int .u8 b.toNat).toList.toArray w := by
                      intro w
                      simp only [Builtin.firstCells, Sem.run_pure]
                      have : sb.extract 0 sb.size = sb := by
                        rw [ByteArray.ext_iff]; simp [ByteArray.data_extract]
                      rw [this]
                    have hit : Items P w 1 sb.size (.string sb) (sb.data.map fun b => Value.int .u8 b.toNat).toList := ⟨fun _ => rfl, hfc w, hfc w.drew⟩
                    obtain ⟨uv, w', ρ', q1, q2, q3, q4⟩ := core_sound (P := P) (ty := type) r ⟨hu, .inr hd⟩ hs hb hz hzl (ev_sound ht hx' hp) (bytesV_sound sb) hit (by simp [bytesV, strOf]) (by simp [bytesV, V.one]) hb0 hs0 hx
                    refine ⟨uv, w', ρ', .inl (exec_builtin a _ _ _ _ _ _ _ _ (fun _ => rfl) ?_), q2, q3, q4⟩
                    simp only [List.map_cons, List.map_nil, hcr]
                    exact q1
                  all_goals cases hvy
                · cases hx
              · cases hx
            · cases hk
          · cases hk
        · cases hk
      · cases hk
    · cases hk
  case len =>
    split at hk
    case h_2 => cases hk
    rename_i t x
    unfold lenC at hk
    split at hk
    · rename_i x' hx' hu
      cases hk
      simp only [opK] at hx
      split at hx
      · rename_i l hq
        cases hx
        have hv := ev_sound ht hx' hq
        cases hcr : a.eval x <;> rw [hcr] at hv
        case string sb =>
          cases hv with
          | str _ _ hs =>
          subst hs
          refine Out.same r (exec_builtin a _ _ _ _ _ _ _ _ (fun _ => rfl) (u := .int .i64 (sb.size : Nat)) ?_) (by simp only [strOf, List.length_map, Array.length_toList]; exact .int _ _)
          simp [Builtin.len_, run_und hu, hcr, goInt]
        all_goals cases hv
      · cases hx
    · rename_i x' e hx' hu
      cases hk
      simp only [opK] at hx
      split at hx
      · rename_i q hq
        split at hx
        · rename_i n hn
          cases hx
          obtain ⟨A, c, hcr⟩ := slLen_of hn (ev_sound ht hx' hq)
          refine Out.same r (exec_builtin a _ _ _ _ _ _ _ _ (fun _ => rfl) (u := .int .i64 (n : Nat)) ?_) (.int _ _)
          simp [Builtin.len_, run_und hu, hcr, goInt]
        · cases hx
      · cases hx
    · rename_i x' kt et hx' hu
      cases hk
      simp only [opK] at hx
      split at hx
      · rename_i q hq
        split at hx
        · rename_i es hes
          cases hx
          have hv := ev_sound ht hx' hq
          unfold mapOf at hes
          split at hes
          · cases hes
            cases hcr : a.eval x <;> rw [hcr] at hv
            case map mr =>
              cases hv
              refine Out.same r (exec_builtin a _ _ _ _ _ _ _ _ (fun _ => rfl) (u := .int .i64 ((0 : Nat) : Int)) ?_) (.int _ _)
              simp [Builtin.len_, run_und hu, hcr, goInt]
            all_goals cases hv
          · split at hes
            · rename_i b es' hg
              cases hes
              cases hcr : a.eval x <;> rw [hcr] at hv
              case map mr =>
                cases hv with
                | map _ e rr he hr =>
                subst hr
                obtain ⟨ces, clock, g1, g2⟩ := map_of r he hg
                have hl : es.length = ces.size := by simpa using g2.length
                rw [hl]
                refine Out.same r (exec_builtin a _ _ _ _ _ _ _ _ (fun _ => rfl) (u := .int .i64 (ces.size : Nat)) ?_) (.int _ _)
                simp [Builtin.len_, run_und hu, hcr, goInt, run_getObj g1]
              all_goals cases hv
            · cases hes
          · cases hes
        · cases hx
      · cases hx
    · rename_i x' n e hx' hu
      cases hk
      simp only [opK, ev] at hx
      cases hx
      refine Out.same r (exec_builtin a _ _ _ _ _ _ _ _ (fun _ => rfl) (u := .int .i64 (n : Nat)) ?_) (.int _ _)
      simp [Builtin.len_, run_und hu, goInt]
    · cases hk
  case min =>
    split at hk
    case h_2 => cases hk
    rename_i x y
    unfold mmC at hk
    split at hk
    · rename_i x' y' hx' hy'
      cases hk
      simp only [Bool.false_eq_true, if_false, opK] at hx
      split at hx
      · rename_i kx n ky m hp hq
        cases hx
        have h1 := ev_sound ht hx' hp
        have h2 := ev_sound ht hy' hq
        cases hcx : a.eval x <;> rw [hcx] at h1 <;> cases h1
        cases hcy : a.eval y <;> rw [hcy] at h2 <;> cases h2
        refine Out.same r (exec_builtin a _ _ _ _ _ _ _ _ (fun _ => rfl) (u := .int kx (if m < n then m else n)) ?_) (.int _ _)
        simp [Builtin.min_, Builtin.min2, hcx, hcy]
      · cases hx
    · cases hk
  case max =>
    split at hk
    case h_2 => cases hk
    rename_i x y
    unfold mmC at hk
    split at hk
    · rename_i x' y' hx' hy'
      cases hk
      simp only [if_true, opK] at hx
      split at hx
      · rename_i kx n ky m hp hq
        cases hx
        have h1 := ev_sound ht hx' hp
        have h2 := ev_sound ht hy' hq
        cases hcx : a.eval x <;> rw [hcx] at h1 <;> cases h1
        cases hcy : a.eval y <;> rw [hcy] at h2 <;> cases h2
        refine Out.same r (exec_builtin a _ _ _ _ _ _ _ _ (fun _ => rfl) (u := .int kx (if m > n then m else n)) ?_) (.int _ _)
        simp [Builtin.max_, Builtin.max2, hcx, hcy]
      · cases hx
    · cases hk
  case copy =>
    split at hk
    case h_2 => cases hk
    rename_i t u x y
    unfold copyC at hk
    split at hk
    · rename_i x' y' e hx' hy' hu
      split at hk
      · rename_i s hs
        cases hk
        simp only [opK] at hx
        split at hx
        · rename_i p q hp hq
          obtain ⟨uv, w', q1, q2, q3⟩ := copy_sound (P := P) (u := u) (ty := type) r hu hs hx (ev_sound ht hx' hp) (ev_sound ht hy' hq)
          exact ⟨uv, w', ρ, .inl (exec_builtin a _ _ _ _ _ _ _ _ (fun _ => rfl) q1), q2, q3, New.refl _ _⟩
        · cases hx
      · cases hk
    · cases hk
  case clear =>
    split at hk
    case h_2 => cases hk
    rename_i t x
    unfold clearC at hk
    split at hk
    · rename_i x' e hx' hu
      split at hk
      · rename_i s z hs hz
        split at hk
        · cases hk
          simp only [opK] at hx
          split at hx
          · rename_i p hp
            obtain ⟨uv, w', q1, q2, q3⟩ := clear_sound (P := P) (ty := type) r hu hs hz hx (ev_sound ht hx' hp)
            exact ⟨uv, w', ρ, .inl (exec_builtin a _ _ _ _ _ _ _ _ (fun _ => rfl) q1), q2, q3, New.refl _ _⟩
          · cases hx
        · cases hk
      · cases hk
    · cases hk
  case delete =>
    split at hk
    case h_2 => cases hk
    rename_i t u m k2
    unfold deleteC at hk
    split at hk
    · rename_i m' k' kt et hm' hk' hu
      split at hk
      · rename_i kk hkk
        cases hk
        simp only [opK] at hx
        split at hx
        · rename_i p q hp hq
          split at hx
          · rename_i h2 hh
            cases hx
            obtain ⟨w', q1, q2⟩ := mapDel_sound (P := P) (u := u) (ty := type) r hu hkk hh (ev_sound ht hm' hp) (ev_sound ht hk' hq)
            exact ⟨.tuple #[], w', ρ, .inl (exec_builtin a _ _ _ _ _ _ _ _ (fun _ => rfl) q1), .tuple _ _ .nil, q2, New.refl _ _⟩
          · cases hx
        · cases hx
      · cases hk
    · cases hk
  all_goals cases hk

set_option maxHeartbeats 1000000 in
theorem opK_sound {o : Oper} {k : K} (hk : kC P o = some k) (hna : k.isAlloc = false) {nt : Nat} {tm : TM} {a : Act} (ht : TMR ρ nt tm a.tmps) (r : Rel B w0 ρ h w) {v : V} {h' : Heap} (hx : opK k tm h = some (v, h')) :
    Out P B w0 ρ h.size o a w v h' := by
  obtain ⟨dst, op, type, pos, after, guard⟩ := o
  cases op
  case move x =>
    simp only [kC] at hk
    split at hk
    · rename_i y hy
      cases hk
      simp only [opK] at hx
      split at hx
      · rename_i q hq
        cases hx
        exact Out.same r rfl (ev_sound ht hy hq)
      · cases hx
    · cases hk
  case assign x =>
    simp only [kC] at hk
    split at hk
    · rename_i y hy
      cases hk
      simp only [opK] at hx
      split at hx
      · rename_i q hq
        cases hx
        exact Out.same r rfl (ev_sound ht hy hq)
      · cases hx
    · cases hk
  case pick c x y =>
    simp only [kC] at hk
    split at hk
    · rename_i c' x' y' hc hx' hy'
      cases hk
      simp only [opK] at hx
      split at hx
      · rename_i t hq
        have hcb := ev_sound ht hc hq
        cases hcr : a.eval c <;> rw [hcr] at hcb <;> cases hcb
        split at hx
        · rename_i q hq2
          cases hx
          cases t with
          | true => exact Out.same r (by simp [execOp, hcr, asBool]) (ev_sound ht hx' hq2)
          | false => exact Out.same r (by simp [execOp, hcr, asBool]) (ev_sound ht hy' hq2)
        · cases hx
      · cases hx
    · cases hk
  case alloc t =>
    simp only [kC] at hk
    split at hk <;> cases hk
    cases hna
  case box t x =>
    simp only [kC] at hk
    split at hk <;> cases hk
    cases hna
  case build t parts =>
    simp only [kC] at hk
    split at hk
    · rename_i z fs hz hu
      split at hk
      · rename_i pl hpl
        split at hk
        · rename_i ps hps
          cases hk
          simp only [opK] at hx
          split at hx
          · rename_i vs hvs
            split at hx
            · rename_i cs hcs
              cases hx
              obtain ⟨zv, hzv, hzr⟩ := zeroC_val hz
              obtain ⟨c', q1, q2⟩ := fill_sound hps ht hvs hcs (hzr ρ)
              refine Out.same r (run_val ?_) (.agg _ _ q2)
              have hm := arrMapM (P := P) (w := w) (fun f : Field => (do pure (f.offset, ← sizeOf f.type) : Sem (Nat × Nat))) fs (places_sound hpl)
              have hpl2 : (fun i : Nat => pl.toArray[i]?) = (fun i : Nat => pl[i]?) := by funext i; simp
              have hparts : (parts.map fun (i, x) => (i, a.eval x)).toList = parts.toList.map fun (i, x) => (i, a.eval x) := by simp
              simp only [Instr.build, Sem.run_bind, run_zero hzv, Result.andThen_ok, run_und hu, hm, hpl2, hparts, q1, Sem.run_pure]
            · cases hx
          · cases hx
        · cases hk
      · cases hk
    · rename_i z n e hz hu
      split at hk
      · rename_i s hs
        split at hk
        · rename_i ps hps
          cases hk
          simp only [opK] at hx
          split at hx
          · rename_i vs hvs
            split at hx
            · rename_i cs hcs
              cases hx
              obtain ⟨zv, hzv, hzr⟩ := zeroC_val hz
              obtain ⟨c', q1, q2⟩ := fill_sound hps ht hvs hcs (hzr ρ)
              refine Out.same r (run_val ?_) (.agg _ _ q2)
              have hparts : (parts.map fun (i, x) => (i, a.eval x)).toList = parts.toList.map fun (i, x) => (i, a.eval x) := by simp
              simp only [Instr.build, Sem.run_bind, run_zero hzv, Result.andThen_ok, run_und hu, run_size hs, hparts, q1, Sem.run_pure]
            · cases hx
          · cases hx
        · cases hk
      · cases hk
    · cases hk
  case buildSlice t len parts =>
    simp only [kC] at hk
    split at hk
    · split at hk
      · split at hk
        · split at hk <;> cases hk
          cases hna
        · cases hk
      · cases hk
    · cases hk
  case load t x =>
    simp only [kC] at hk
    split at hk
    · rename_i y g hy hg
      cases hk
      simp only [opK] at hx
      split at hx
      · rename_i q hq
        split at hx
        · rename_i v' hv'
          cases hx
          obtain ⟨p, hp, u, q1, q2⟩ := load_sound (P := P) r hg (ev_sound ht hy hq) hv'
          refine Out.same r (run_val ?_) q2
          rw [hp]
          simp only [Instr.loadAt, Instr.sureAddr, Sem.run_bind, Sem.run_pure, Result.andThen_ok, q1]
        · cases hx
      · cases hx
    · cases hk
  case store t x y =>
    simp only [kC] at hk
    split at hk
    · rename_i x' y' n hx' hy' hn
      cases hk
      simp only [opK] at hx
      split at hx
      · rename_i p q hp hq
        split at hx
        · rename_i h2 hh
          cases hx
          obtain ⟨ad, had, w', q1, q2⟩ := store_sound (P := P) r hn (ev_sound ht hx' hp) (ev_sound ht hy' hq) hh
          refine ⟨undef, w', ρ, .inr ⟨run_skip ?_, rfl⟩, .tuple _ _ .nil, q2, New.refl _ _⟩
          rw [had]
          simp only [Instr.storeAt, Instr.sureAddr, Sem.run_bind, Sem.run_pure, Result.andThen_ok, q1]
        · cases hx
      · cases hx
    · cases hk
  case nilCheck x =>
    simp only [kC] at hk
    split at hk
    · rename_i y hy
      cases hk
      simp only [opK] at hx
      split at hx
      · rename_i p hq
        cases hx
        have hv := ev_sound ht hy hq
        cases hcr : a.eval x <;> rw [hcr] at hv
        case pointer ad =>
          cases ad with
          | none => cases hv
          | some ad => exact Out.same r (by simp [execOp, hcr]) hv
        all_goals cases hv
      · rename_i f c1 c2 hq
        cases hx
        have hv := ev_sound ht hy hq
        cases hcr : a.eval x <;> rw [hcr] at hv
        case func fn first caps =>
          cases hv with
          | func _ _ _ _ _ h1 h2 => exact Out.same r (by simp [execOp, hcr]) (.func _ _ _ _ _ h1 h2)
        all_goals cases hv
      · cases hx
    · cases hk
  case binOp op t x y t2 =>
    simp only [kC, binC] at hk
    split at hk
    · rename_i x' y' hx' hy'
      split at hk
      · cases hk
        simp only [opK] at hx
        split at hx
        · rename_i p q hp hq
          split at hx
          · rename_i v' hv'
            cases hx
            obtain ⟨u, q1, q2⟩ := bin_sound (P := P) (w := w) (t := t) (ox := x) (oy := y) hv' (ev_sound ht hx' hp) (ev_sound ht hy' hq)
            exact Out.same r (run_val q1) q2
          · cases hx
        · cases hx
      · rename_i hni
        split at hk
        · split at hk
          · cases hk
          · rename_i hg
            split at hk
            · rename_i d hd
              cases hk
              simp only [opK] at hx
              split at hx
              · rename_i p q hp hq
                split at hx
                · rename_i b hb
                  cases hx
                  have := eqRun (P := P) (w := w) (op := .eql) (ox := x) (oy := y) hd (by simpa using hg) hb (ev_sound ht hx' hp) (ev_sound ht hy' hq) (.inl rfl) (by simpa using hni)
                  exact Out.same r (run_val this) (.bool _)
                · cases hx
              · cases hx
            · cases hk
        · split at hk
          · cases hk
          · rename_i hg
            split at hk
            · rename_i d hd
              cases hk
              simp only [opK] at hx
              split at hx
              · rename_i p q hp hq
                split at hx
                · rename_i b hb
                  cases hx
                  have := eqRun (P := P) (w := w) (op := .neq) (ox := x) (oy := y) hd (by simpa using hg) hb (ev_sound ht hx' hp) (ev_sound ht hy' hq) (.inr rfl) (by simpa using hni)
                  exact Out.same r (run_val this) (.bool _)
                · cases hx
              · cases hx
            · cases hk
        · cases hk
    · cases hk
  case unOp op t x =>
    simp only [kC] at hk
    split at hk
    · rename_i y hy
      cases hk
      simp only [opK] at hx
      split at hx
      · rename_i b hq
        cases hx
        have hv := ev_sound ht hy hq
        cases hcr : a.eval x <;> rw [hcr] at hv <;> cases hv
        exact Out.same r (by simp [execOp, hcr, Op.unary]) (.bool _)
      · cases hx
    · rename_i y hy
      cases hk
      simp only [opK] at hx
      split at hx
      · rename_i kk n hq
        cases hx
        have hv := ev_sound ht hy hq
        cases hcr : a.eval x <;> rw [hcr] at hv <;> cases hv
        exact Out.same r (by simp [execOp, hcr, Op.unary, Op.intArith]) (.int _ _)
      · cases hx
    · rename_i y hy
      cases hk
      simp only [opK] at hx
      split at hx
      · rename_i kk n hq
        cases hx
        have hv := ev_sound ht hy hq
        cases hcr : a.eval x <;> rw [hcr] at hv <;> cases hv
        refine Out.same r (run_val (u := .int kk (kk.wrap (BitVec.ofInt kk.bits (if kk.signed then -1 else kk.max) ^^^ BitVec.ofInt kk.bits n).toNat)) ?_) (.int _ _)
        rw [hcr]
        rfl
      · cases hx
    · cases hk
  case convert s d x =>
    simp only [kC, convC] at hk
    split at hk
    · rename_i y ks kd hy hs hd
      cases hk
      simp only [opK] at hx
      split at hx
      · rename_i k0 n hq
        cases hx
        have hv := ev_sound ht hy hq
        cases hcr : a.eval x <;> rw [hcr] at hv <;> cases hv
        refine Out.same r (run_val (u := .int kd (kd.wrap n)) ?_) (.int _ _)
        simp only [hcr, convert, Sem.run_bind, run_und hs, run_und hd, Result.andThen_ok, Conv.intToInt, Sem.run_pure]
      · cases hx
    · rename_i y hy hs hd
      cases hk
      simp only [opK] at hx
      split at hx
      · rename_i l hq
        cases hx
        have hv := ev_sound ht hy hq
        cases hcr : a.eval x <;> rw [hcr] at hv
        case string sb =>
          refine Out.same r (run_val (u := .string sb) ?_) hv
          simp only [hcr, convert, Sem.run_bind, run_und hs, run_und hd, Result.andThen_ok, Sem.run_pure]
        all_goals cases hv
      · cases hx
    · rename_i y e hy hs hd
      split at hk
      · rename_i he
        cases hk
        simp only [opK] at hx
        split at hx
        · rename_i q hq
          split at hx
          · rename_i v' hv'
            cases hx
            obtain ⟨u, q1, q2⟩ := toStr_sound (P := P) r hs he hd hv' (ev_sound ht hy hq)
            exact Out.same r (run_val q1) q2
          · cases hx
        · cases hx
      · cases hk
    · split at hk <;> cases hk
      cases hna
    · cases hk
  case sliceToArrayPointer => simp [kC] at hk
  case makeInterface t x =>
    simp only [kC] at hk
    split at hk
    · cases hk
    · rename_i d y h1 hu hy
      cases hk
      simp only [opK] at hx
      split at hx
      · rename_i q hq
        cases hx
        refine Out.same r (run_val (u := .iface t (a.eval x)) ?_) (.iface _ _ _ (ev_sound ht hy hq))
        simp only [Instr.makeInterface, Sem.run_bind, run_und hu, Result.andThen_ok]
        rfl
      · cases hx
    · cases hk
  case makeFunc fn first caps =>
    cases fn <;> simp only [kC] at hk <;> try (cases hk; done)
    split at hk
    · rename_i x' y' hx' hy'
      cases hk
      simp only [opK] at hx
      split at hx
      · rename_i p q hp hq
        cases hx
        refine Out.same r (run_val rfl) (.func _ _ _ _ _ ?_ ?_)
        · have := evs_sound ht hx' hp; simpa using this
        · have := evs_sound ht hy' hq; simpa using this
      · cases hx
    · cases hk
  case makeMap t rs =>
    cases rs <;> simp only [kC] at hk <;> cases hk
    cases hna
  case makeChan => simp [kC] at hk
  case makeSlice t l c =>
    simp only [kC] at hk
    split at hk
    · split at hk
      · split at hk <;> cases hk
        cases hna
      · cases hk
    · cases hk
  case slice t x lo hi mx =>
    simp only [kC, sliceC] at hk
    split at hk
    · rename_i x' lo' hi' mx' hx' hlo hhi hmx
      split at hk
      · rename_i hu
        split at hk
        · cases hk
          simp only [opK] at hx
          split at hx
          · rename_i p q1 q2 hp hq1 hq2
            split at hx
            · rename_i v' hv'
              cases hx
              cases mx with
              | some m => simp only [opdO] at hmx; split at hmx <;> cases hmx
              | none =>
              obtain ⟨u, g1, g2⟩ := sliceStr_sound (P := P) (w := w) hu hv' (ev_sound ht hx' hp) (evo_sound ht hlo hq1) (evo_sound ht hhi hq2)
              exact Out.same r (run_val g1) g2
            · cases hx
          · cases hx
        · cases hk
      · rename_i e hu
        split at hk
        · rename_i s hs
          cases hk
          simp only [opK] at hx
          split at hx
          · rename_i p q1 q2 q3 hp hq1 hq2 hq3
            split at hx
            · rename_i v' hv'
              cases hx
              obtain ⟨u, g1, g2⟩ := sliceSl_sound (P := P) (w := w) hu hs hv' (ev_sound ht hx' hp) (evo_sound ht hlo hq1) (evo_sound ht hhi hq2) (evo_sound ht hmx hq3)
              exact Out.same r (run_val g1) g2
            · cases hx
          · cases hx
        · cases hk
      · rename_i n e hu
        split at hk
        · rename_i s hs
          cases hk
          simp only [opK] at hx
          split at hx
          · rename_i p q1 q2 hp hq1 hq2
            split at hx
            · rename_i v' hv'
              cases hx
              cases mx with
              | some m => simp only [opdO] at hmx; split at hmx <;> cases hmx
              | none =>
              obtain ⟨u, g1, g2⟩ := sliceArr_sound (P := P) (w := w) hu hs hv' (ev_sound ht hx' hp) (evo_sound ht hlo hq1) (evo_sound ht hhi hq2)
              exact Out.same r (run_val g1) g2
            · cases hx
          · cases hx
        · cases hk
      · cases hk
    · cases hk
  case fieldAddr s x f =>
    simp only [kC] at hk
    split at hk
    · rename_i fs x' hu hx'
      split at hk
      · rename_i fd hfd
        split at hk
        · rename_i n hn
          cases hk
          simp only [opK] at hx
          split at hx
          · rename_i b o' hq
            cases hx
            have hv := ev_sound ht hx' hq
            cases hcr : a.eval x <;> rw [hcr] at hv
            case pointer ad =>
              cases hv with
              | ptr _ _ e ad' he had =>
              refine Out.same r (run_val (u := .pointer (some (ad'.add fd.offset))) ?_) (.ptr _ _ e _ he (by rw [had, at_add]))
              simp only [hcr, Instr.fieldAt, Sem.run_bind, run_und hu, Result.andThen_ok, hfd, Instr.sureAddr, Sem.run_pure, fieldPlace, run_size hn, Nat.add_one_ne_zero, if_false]
            all_goals cases hv
          · cases hx
        · cases hk
      · cases hk
    · cases hk
  case field t x f =>
    simp only [kC] at hk
    split at hk
    · rename_i fs x' hu hx'
      split at hk
      · rename_i fd hfd
        split at hk
        · rename_i g hg
          cases hk
          simp only [opK] at hx
          split at hx
          · rename_i cs hq
            split at hx
            · rename_i v' hv'
              cases hx
              have hv := ev_sound ht hx' hq
              cases hcr : a.eval x <;> rw [hcr] at hv
              case agg c =>
                cases hv with
                | agg _ _ hvs =>
                obtain ⟨u, q1, q2⟩ := part_sound (P := P) (w := w) hg hvs hv'
                refine Out.same r (run_val (u := u) ?_) q2
                simp only [hcr, Instr.field, Sem.run_bind, run_und hu, Result.andThen_ok, hfd, asAgg, Sem.run_pure, q1]
              all_goals cases hv
            · cases hx
          · cases hx
        · cases hk
      · cases hk
    · cases hk
  case indexAddr t x i =>
    simp only [kC] at hk
    split at hk
    · rename_i e x' i' hu hx' hi'
      split at hk
      · rename_i s hs
        cases hk
        simp only [opK] at hx
        split at hx
        · rename_i p q hp hq
          split at hx
          · rename_i v' hv'
            cases hx
            obtain ⟨u, q1, q2⟩ := idxSl_sound (P := P) (w := w) hu hs hv' (ev_sound ht hx' hp) (ev_sound ht hi' hq)
            exact Out.same r (run_val q1) q2
          · cases hx
        · cases hx
      · cases hk
    · rename_i n e x' i' hu hx' hi'
      split at hk
      · rename_i s hs
        cases hk
        simp only [opK] at hx
        split at hx
        · rename_i p q hp hq
          split at hx
          · rename_i v' hv'
            cases hx
            obtain ⟨u, q1, q2⟩ := idxArr_sound (P := P) (w := w) hu hs hv' (ev_sound ht hx' hp) (ev_sound ht hi' hq)
            exact Out.same r (run_val q1) q2
          · cases hx
        · cases hx
      · cases hk
    · cases hk
  case index t x i =>
    simp only [kC] at hk
    split at hk
    · rename_i x' i' hu hx' hi'
      cases hk
      simp only [opK] at hx
      split at hx
      · rename_i p q hp hq
        split at hx
        · rename_i v' hv'
          cases hx
          obtain ⟨u, q1, q2⟩ := atStr_sound (P := P) (w := w) hu hv' (ev_sound ht hx' hp) (ev_sound ht hi' hq)
          exact Out.same r (run_val q1) q2
        · cases hx
      · cases hx
    · rename_i n e x' i' hu hx' hi'
      split at hk
      · rename_i s g hs hg
        cases hk
        simp only [opK] at hx
        split at hx
        · rename_i p q hp hq
          split at hx
          · rename_i v' hv'
            cases hx
            obtain ⟨u, q1, q2⟩ := atArr_sound (P := P) (w := w) hu hs hg hv' (ev_sound ht hx' hp) (ev_sound ht hi' hq)
            exact Out.same r (run_val q1) q2
          · cases hx
        · cases hx
      · cases hk
    · cases hk
  case lookup t m k' ok =>
    simp only [kC] at hk
    split at hk
    · rename_i kt et m' k2 hu hm hk2
      split at hk
      · rename_i z hz
        split at hk
        · rename_i zv hzv
          split at hk
          · rename_i kk hkk
            cases hk
            simp only [opK] at hx
            split at hx
            · rename_i p q hp hq
              split at hx
              · rename_i v' hv'
                cases hx
                obtain ⟨u, q1, q2⟩ := lookup_sound (P := P) r hu hkk hz hzv hv' (ev_sound ht hm hp) (ev_sound ht hk2 hq)
                exact Out.same r (run_val q1) q2
              · cases hx
            · cases hx
          · cases hk
        · cases hk
      · cases hk
    · cases hk
  case mapUpdate t m k' v2 =>
    simp only [kC] at hk
    split at hk
    · rename_i kt et m' k2 v3 hu hm hk2 hv3
      split at hk
      · rename_i kk hkk
        cases hk
        simp only [opK] at hx
        split at hx
        · rename_i p q s hp hq hs
          split at hx
          · rename_i h2 hh
            cases hx
            obtain ⟨w', q1, q2⟩ := mapUpd_sound (P := P) r hu hkk hh (ev_sound ht hm hp) (ev_sound ht hk2 hq) (ev_sound ht hv3 hs)
            exact ⟨undef, w', ρ, .inr ⟨run_skip q1, rfl⟩, .tuple _ _ .nil, q2, New.refl _ _⟩
          · cases hx
        · cases hx
      · cases hk
    · cases hk
  case insert t m k' v2 =>
    simp only [kC] at hk
    split at hk
    · rename_i kt et m' k2 v3 hu hm hk2 hv3
      split at hk
      · rename_i kk hkk
        cases hk
        simp only [opK] at hx
        split at hx
        · rename_i p q s hp hq hs
          split at hx
          · rename_i h2 hh
            cases hx
            obtain ⟨w', q1, q2⟩ := mapUpd_sound (P := P) r hu hkk hh (ev_sound ht hm hp) (ev_sound ht hk2 hq) (ev_sound ht hv3 hs)
            exact ⟨undef, w', ρ, .inr ⟨run_skip q1, rfl⟩, .tuple _ _ .nil, q2, New.refl _ _⟩
          · cases hx
        · cases hx
      · cases hk
    · cases hk
  case extract x i =>
    simp only [kC] at hk
    split at hk
    · rename_i y hy
      cases hk
      simp only [opK] at hx
      split at hx
      · rename_i vs hq
        split at hx
        · rename_i v' hv'
          cases hx
          have hv := ev_sound ht hy hq
          cases hcr : a.eval x <;> rw [hcr] at hv
          case tuple c =>
            cases hv with
            | tuple _ _ hvs =>
            obtain ⟨u, q1, q2⟩ := hvs.get _ _ hv'
            have q1' : c[i]? = some u := by simpa using q1
            refine Out.same r (run_val (u := u) ?_) q2
            simp only [hcr, Instr.extract, q1', Sem.run_pure]
          all_goals cases hv
        · cases hx
      · cases hx
    · cases hk
  case call c =>
    obtain ⟨callee, args, ts⟩ := c
    cases callee
    case value f =>
      simp only [kC] at hk
      split at hk <;> cases hk
      simp [opK] at hx
    case invoke => simp [kC] at hk
    case builtin b =>
      obtain ⟨args⟩ := args
      obtain ⟨ts⟩ := ts
      simp only [kC] at hk
      exact builtin_sound hk hna ht r hx
  all_goals simp [kC] at hk
end
end Abs
end Go.Proofs.Ytnbljblnikdeiaa
