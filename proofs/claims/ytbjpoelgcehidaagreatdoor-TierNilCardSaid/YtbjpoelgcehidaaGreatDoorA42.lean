/- The abstract machine: a range over a map of two entries. Which comes first is not known: both orders are run. -/
import Derived.Test.YtbjpoelgcehidaaGreatDoorA38
namespace Go.Proofs.YtbjpoelgcehidaaGreatDoor
namespace Abs
noncomputable section
set_option linter.unusedVariables false
set_option linter.unusedSimpArgs false
open Go.RowKit

/-- Does the step of a range stand first here? -/
def AC.hasN : AC → Bool
  | .ops l => match l with
    | ⟨some _, none, .nextM _⟩ :: _ => true
    | _ => false
  | .seq a b => match b with
    | .defr _ _ => false
    | _ => a.hasN || b.hasN
  | .block _ c => c.hasN
  | .loop c => c.hasN
  | _ => false

/-- The step where two entries are left: the one that is told comes. -/
def pickA (j : Bool) (h : Heap) (rb : Nat) : Option (V × Heap) := match h.get rb with
  | some (.iter (some b) s seen c) => match h.get b with
    | some (.map es bs cl) => match allLt bs s && Nat.ble s c with
      | true => match leftA es bs seen with
        | [x, y] => match j with
          | true => some (.tuple [.bool true, x.1.1, x.1.2], h.put rb (.iter (some b) s (seen ++ [x.2]) cl))
          | false => some (.tuple [.bool true, y.1.1, y.1.2], h.put rb (.iter (some b) s (seen ++ [y.2]) cl))
        | _ => none
      | false => none
    | _ => none
  | _ => none
def pickO (call : CallF) (j : Bool) (l : List AOp) (tm : TM) (h : Heap) : Option (Ex × TM × Heap) := match l with
  | ⟨some d, none, .nextM x⟩ :: r => match ev tm x with
    | some (.ptr (some (rb, 0))) => match pickA j h rb with
      | some (v, h1) => match runOps call r (tm.set d v) h1 with
        | some (tm', h') => some (.normal, tm', h')
        | none => none
      | none => none
    | _ => none
  | _ => none
def execN (call : CallF) (exec L : LoopF) (j : Bool) : AC → TM → Heap → Option (Ex × TM × Heap)
  | .ops l => fun tm h => pickO call j l tm h
  | .seq a b => fun tm h => match a.hasN with
    | true => match execN call exec L j a tm h with
      | some (.normal, tm', h') => exec b tm' h'
      | r => r
    | false => match exec a tm h with
      | some (.normal, tm', h') => execN call exec L j b tm' h'
      | _ => none
  | .block id c => fun tm h => match execN call exec L j c tm h with
    | some (.exit i, tm', h') => some (if i = id then .normal else .exit i, tm', h')
    | r => r
  | .loop c => fun tm h => match execN call exec L j c tm h with
    | some (.normal, tm', h') => L (.loop c) tm' h'
    | r => r
  | _ => fun _ _ => none

theorem HM.pickA {j : Bool} {h h' : Heap} {rb : Nat} {v : V} (hx : pickA j h rb = some (v, h')) : HM h h' := by
  unfold Abs.pickA at hx
  split at hx
  · split at hx
    · split at hx
      · split at hx
        · cases j <;> cases hx <;> exact HM.put _ _ _
        · cases hx
      · cases hx
    · cases hx
  · cases hx
theorem HM.execN {call : CallF} {exec L : LoopF} (hc : CallHM call) (he : LoopHM exec) (hl : LoopHM L) {j : Bool} : ∀ (c : AC) {tm tm' : TM} {h h' : Heap} {ex : Ex} (hx : execN call exec L j c tm h = some (ex, tm', h')), HM h h'
  | .ops l, tm, tm', h, h', ex, hx => by
    unfold Abs.execN at hx
    try dsimp only at hx
    unfold pickO at hx
    split at hx
    · split at hx
      · split at hx
        · rename_i v h1 hp
          split at hx
          · rename_i t1 h2 hr
            cases hx
            exact (HM.pickA hp).trans (HM.ops hc _ hr)
          · cases hx
        · cases hx
      · cases hx
    · cases hx
  | .seq a b, tm, tm', h, h', ex, hx => by
    unfold Abs.execN at hx
    try dsimp only at hx
    split at hx
    · split at hx
      · rename_i t1 h1 h2
        exact (HM.execN hc he hl a h2).trans (he _ _ _ _ _ _ hx)
      · exact HM.execN hc he hl a hx
    · split at hx
      · rename_i t1 h1 h2
        exact (he _ _ _ _ _ _ h2).trans (HM.execN hc he hl b hx)
      · cases hx
  | .block id c, tm, tm', h, h', ex, hx => by
    unfold Abs.execN at hx
    try dsimp only at hx
    split at hx
    · rename_i i t1 h1 h2
      cases hx
      exact HM.execN hc he hl c h2
    · exact HM.execN hc he hl c hx
  | .loop c, tm, tm', h, h', ex, hx => by
    unfold Abs.execN at hx
    try dsimp only at hx
    split at hx
    · rename_i t1 h1 h2
      exact (HM.execN hc he hl c h2).trans (hl _ _ _ _ _ _ hx)
    · exact HM.execN hc he hl c hx
  | .skip, _, _, _, _, _, hx | .draw _, _, _, _, _, _, hx | .cond .., _, _, _, _, _, hx | .exit _, _, _, _, _, _, hx | .ret, _, _, _, _, _, hx | .bad, _, _, _, _, _, hx | .range .., _, _, _, _, _, hx | .defr .., _, _, _, _, _, hx => by
    unfold Abs.execN at hx
    cases hx

section
variable {P : Program} {B : Nat} {w0 : World}

theorem kC_next {o : Oper} {x : Opd} (hk : kC P o = some (.nextM x)) : ∃ y, o.op = .next y false ∧ opdC y = some x := by
  obtain ⟨dst, op, type, pos, after, guard⟩ := o
  cases op
  case next y is =>
    cases is with
    | true => simp only [kC] at hk; cases hk
    | false =>
      simp only [kC] at hk
      split at hk
      · rename_i x' hx'
        cases hk
        exact ⟨y, rfl, hx'⟩
      · cases hk
  case call c =>
    obtain ⟨callee, as, ts⟩ := c
    cases callee
    case value g => simp only [kC] at hk; split at hk <;> cases hk
    case invoke => simp only [kC] at hk; (repeat' split at hk) <;> cases hk
    case builtin b =>
      simp only [kC] at hk
      cases b <;> simp only [builtinC, lenC, appendC, copyC, clearC, deleteC, mmC, mmNC] at hk <;> first
        | (cases hk; done)
        | ((repeat' split at hk) <;> first | (cases hk; done))
  case makeFunc fn x y =>
    cases fn <;> simp only [kC] at hk <;> first
      | (cases hk; done)
      | ((repeat' split at hk) <;> first | (cases hk; done))
  case makeMap t r => cases r <;> simp [kC] at hk
  case typeAssert x xt at_ ok => cases ok <;> simp only [kC] at hk <;> (repeat' split at hk) <;> cases hk
  case binOp op t x y t2 =>
    simp only [kC, binC] at hk
    (repeat' split at hk) <;> first
      | (cases hk; done)
      | (rename_i hn; cases hk; obtain ⟨_, _, q, _⟩ := isNil_run (P := P) hn; cases q)
  all_goals simp only [kC, sliceC, convC] at hk
  all_goals first
    | (cases hk; done)
    | ((repeat' split at hk) <;> first | (cases hk; done))
theorem pickO_parts {call : CallF} {j : Bool} {d : Nat} {x : Opd} {l : List AOp} {tm : TM} {h : Heap} {o : Ex × TM × Heap} (hx : pickO call j (⟨some d, none, .nextM x⟩ :: l) tm h = some o) :
    ∃ rb v g tm' h', ev tm x = some (.ptr (some (rb, 0))) ∧ pickA j h rb = some (v, g) ∧ runOps call l (tm.set d v) g = some (tm', h') ∧ o = (.normal, tm', h') := by
  unfold pickO at hx
  dsimp only at hx
  split at hx
  · rename_i rb hev
    split at hx
    · rename_i v g hp
      split at hx
      · rename_i tm' h' hr
        cases hx
        exact ⟨rb, v, g, tm', h', hev, hp, hr, rfl⟩
      · cases hx
    · cases hx
  · cases hx
/-- What is left behind one of the orders. -/
def PostN (P : Program) (B : Nat) (w0 : World) (call : CallF) (exec L : LoopF) (nt : Nat) (ac : AC) (tm : TM) (h : Heap) (ρ : Rho) (e : Exit) (a' : Act) (w' : World) : Prop :=
  ∃ j ex tm' h', execN call exec L j ac tm h = some (ex, tm', h') ∧ Post P B w0 ρ h.size nt none ex tm' h' e a' w'

theorem pick_sound {call : CallF} (hc : CallOk P B w0 call) (hm : CallHM call) {exec L : LoopF} {n nt id : Nat} {ops : Array Oper} {l : List AOp} (hops : opsC P ops nt ops.toList = some l) (hn : (AC.ops l).hasN = true)
    {ρ : Rho} {tm : TM} {a : Act} {h : Heap} {w : World} (ht : ActR ρ nt none tm a) (r : Rel P B w0 ρ h w) (hall : ∀ j, ∃ o, pickO call j l tm h = some o) :
    (Code.region id ops false).wpIn (Fw none) n P (PostN P B w0 call exec L nt (.ops l) tm h ρ) a w := by
  refine wpIn_region ?_
  obtain ⟨ol⟩ := ops
  cases ol with
  | nil => cases hops; cases hn
  | cons o ol =>
  simp only [opsC] at hops
  split at hops
  · rename_i ao al hao hal
    cases hops
    obtain ⟨hk, hg, hdst, hdo⟩ := opC_parts hao
    obtain ⟨d, g, k⟩ := ao
    unfold AC.hasN at hn
    try dsimp only at hn
    split at hn
    · rename_i d x r' heq
      obtain ⟨h1, rfl⟩ := List.cons.inj heq
      cases h1
      dsimp only at hk hg hdst hdo
      have hk := hk (by intro q; cases q)
      have hr : List.range (Array.mk (o :: ol)).size = 0 :: List.range' 1 ol.length := by
        rw [List.range_eq_range']; rfl
      rw [hr]
      have ho : (Array.mk (o :: ol))[0]? = some o := rfl
      simp only [wpOpsIn, ho]
      rw [wanted_sound hg ht.1 (b := true) rfl, if_pos rfl]
      obtain ⟨y, hop, hy⟩ := kC_next hk
      obtain ⟨⟨ex1, t1, h1⟩, p1⟩ := hall true
      obtain ⟨⟨ex2, t2, h2⟩, p2⟩ := hall false
      obtain ⟨rb, v1, g1, tm1, k1, hev, hp1, hr1, q0⟩ := pickO_parts p1
      cases q0
      obtain ⟨rb', v2, g2, tm2, k2, hev', hp2, hr2, q0⟩ := pickO_parts p2
      cases q0
      rw [hev] at hev'
      cases hev'
      have hv := ev_sound ht.1 hy hev
      have hl' : ∀ jj o', ol[jj]? = some o' → (Array.mk (o :: ol))[1 + jj]? = some o' := fun jj o' hj => by
        rw [show 1 + jj = jj + 1 by omega]; simpa using hj
      have fin : ∀ (j : Bool) (v : V) (g : Heap) (tm' : TM) (h' : Heap) (u : Value) (w' : World), pickA j h rb = some (v, g) → runOps call al (tm.set d v) g = some (tm', h') → pickO call j (⟨some d, none, .nextM x⟩ :: al) tm h = some (.normal, tm', h') →
          (Instr.next (a.eval y) false o.type).run P w = .ok u w' → VR ρ v u → Rel P B w0 ρ g w' → o.wpIn (Fw none) n P a w (fun a' w' => wpOpsIn (Fw none) n P (Array.mk (o :: ol)) (PostN P B w0 call exec L nt (.ops (⟨some d, none, .nextM x⟩ :: al)) tm h ρ) (List.range' 1 ol.length) a' w') (PostN P B w0 call exec L nt (.ops (⟨some d, none, .nextM x⟩ :: al)) tm h ρ) := by
        intro j v g tm' h' u w' e1 e2 e3 e4 e5 e6
        have hd : Done P o a w u w' := .inl (by
          unfold execOp; rw [hop]; exact run_val e4)
        refine up_done (not_defer hk) hd ?_
        have hput : TM.put tm (some d) v = tm.set d v := rfl
        have hta : ActR ρ nt none (tm.set d v) (a.put o.dst u) := ht.next (by rw [← hdst]; exact TMR.put ht.1 (by rw [← hdst] at hdo; exact hdo) e5) (RLe.refl _) (put_defers _ _ _) (by rw [← hput]; exact put_DX (nt := nt) (by rw [← hdst] at hdo; exact hdo) _ _)
        have hsz := (HM.pickA e1).size
        have := ops_sound (P := P) hc hm (ro := none) (n := n) (ops := Array.mk (o :: ol)) ol 1 hl' hal hta e6 e2 (rest := [])
          (Q := PostN P B w0 call exec L nt (.ops (⟨some d, none, .nextM x⟩ :: al)) tm h ρ) (fun a'' w'' ρ'' q1 q2 q3 => ⟨j, .normal, tm', h', e3, .normal, ρ'', q1, q2, (New.refl _ _).trans q3 hsz⟩)
        rw [List.append_nil] at this
        exact this
      have q1 := hp1
      unfold pickA at q1
      split at q1
      · rename_i b s seen c hg
        split at q1
        · rename_i es bs cl hgm
          split at q1
          · rename_i hok
            split at q1
            · rename_i e0 e1 hl
              have q2 := hp2
              unfold pickA at q2
              rw [hg] at q2; dsimp only at q2
              rw [hgm] at q2; dsimp only at q2
              rw [hok] at q2; dsimp only at q2
              rw [hl] at q2; dsimp only at q2
              cases q1
              cases q2
              rcases next_snd r hv o.type hg hgm hok with ⟨q, _⟩ | ⟨k, v, m, u, w', q, q3, q4, q5⟩
              · rw [hl] at q; cases q
              · rw [hl] at q
                rcases List.mem_cons.1 q with rfl | q
                · exact fin true _ _ _ _ u w' hp1 hr1 p1 q3 q4 q5
                · cases List.mem_singleton.1 q
                  exact fin false _ _ _ _ u w' hp2 hr2 p2 q3 q4 q5
            · cases q1
          · cases q1
        · cases q1
      · cases q1
    · cases hn
  · cases hops

theorem codeN_sound {call : CallF} (hc : CallOk P B w0 call) (hm : CallHM call) {exec L : LoopF} (he : LoopOk P B w0 exec) (hem : LoopHM exec) (hl : LoopOk P B w0 L) (hlm : LoopHM L) (n nt : Nat) :
    ∀ (c : Code) (ac : AC), codeC P nt c = some ac → ac.hasN = true → ∀ (ρ : Rho) (tm : TM) (a : Act) (h : Heap) (w : World), ActR ρ nt none tm a → Rel P B w0 ρ h w → (∀ j, ∃ o, execN call exec L j ac tm h = some o) →
      c.wpIn (Fw none) n P (PostN P B w0 call exec L nt ac tm h ρ) a w := by
  intro c
  induction c with
  | region id ops draw =>
    intro ac hac hn ρ tm a h w ht r hall
    cases draw with
    | false =>
      simp only [codeC] at hac
      split at hac
      · exfalso
        split at hac
        · split at hac <;> cases hac <;> cases hn
        · cases hac; cases hn
      · split at hac
        · rename_i l hops
          cases hac
          exact pick_sound hc hm hops hn ht r hall
        · cases hac; cases hn
    | true =>
      exfalso
      simp only [codeC] at hac
      split at hac
      · split at hac <;> cases hac <;> cases hn
      · cases hac; cases hn
  | seq x y ihx ihy =>
    intro ac hac hn ρ tm a h w ht r hall
    simp only [codeC] at hac
    split at hac
    · rename_i ax ay hax hay
      cases hac
      have hxy : (ax.hasN || ay.hasN) = true := by
        unfold AC.hasN at hn
        split at hn
        · cases hn
        · exact hn
      refine wpIn_seq ?_
      cases hxn : ax.hasN with
      | true =>
        have hax' : ∀ j, ∃ o, execN call exec L j ax tm h = some o := by
          intro j
          obtain ⟨o, q⟩ := hall j
          unfold execN at q
          rw [hxn] at q
          try dsimp only at q
          cases hq : execN call exec L j ax tm h with
          | none => rw [hq] at q; cases q
          | some o' => exact ⟨o', rfl⟩
        refine wpIn_mono (ihx ax hax hxn ρ tm a h w ht r hax') ?_
        rintro e a' w' ⟨j, ex, tm2, h2, q1, q2, ρ', q3, q4, q5⟩
        obtain ⟨⟨ex', tm', h'⟩, q⟩ := hall j
        have q0 := q
        unfold execN at q
        rw [hxn] at q
        try dsimp only at q
        rw [q1] at q
        have hsz := (HM.execN hm hem hlm _ q1).size
        cases q2 with
        | normal =>
          refine wpIn_mono (he none n nt y ay hay (.inl rfl) ρ' tm2 a' h2 w' q3 q4 _ _ _ q).1 ?_
          rintro e a'' w'' ⟨g1, ρ'', g2, g3, g4⟩
          exact ⟨j, ex', tm', h', q0, g1, ρ'', g2, g3, q5.trans g4 hsz⟩
        | exit id =>
          cases q
          exact ⟨j, _, _, _, q0, .exit id, ρ', q3, q4, q5⟩
        | ret =>
          cases q
          exact ⟨j, _, _, _, q0, .ret, ρ', q3, q4, q5⟩
      | false =>
        have hyn : ay.hasN = true := by rw [hxn] at hxy; exact hxy
        have hdet : ∃ tm2 h2, exec ax tm h = some (.normal, tm2, h2) ∧ ∀ j, execN call exec L j (.seq ax ay) tm h = execN call exec L j ay tm2 h2 := by
          obtain ⟨o, q⟩ := hall true
          unfold execN at q
          rw [hxn] at q
          try dsimp only at q
          split at q
          · rename_i tm2 h2 hq
            refine ⟨tm2, h2, hq, fun j => ?_⟩
            conv => lhs; unfold execN
            rw [hxn]
            try dsimp only
            rw [hq]
          · cases q
        obtain ⟨tm2, h2, q1, q2⟩ := hdet
        have hsz := (hem _ _ _ _ _ _ q1).size
        refine wpIn_mono (he none n nt x ax hax (.inl rfl) ρ tm a h w ht r _ _ _ q1).1 ?_
        rintro e a' w' ⟨g1, ρ', g2, g3, g4⟩
        cases g1
        refine wpIn_mono (ihy ay hay hyn ρ' tm2 a' h2 w' g2 g3 (fun j => by rw [← q2 j]; exact hall j)) ?_
        rintro e a'' w'' ⟨j, ex, tm', h', k1, k2, ρ'', k3, k4, k5⟩
        exact ⟨j, ex, tm', h', by rw [q2 j]; exact k1, k2, ρ'', k3, k4, g4.trans k5 hsz⟩
    · cases hac
  | block id c ih =>
    intro ac hac hn ρ tm a h w ht r hall
    simp only [codeC] at hac
    split at hac
    · rename_i ac' hac'
      cases hac
      have hall' : ∀ j, ∃ o, execN call exec L j ac' tm h = some o := by
        intro j
        obtain ⟨o, q⟩ := hall j
        unfold execN at q
        try dsimp only at q
        cases hq : execN call exec L j ac' tm h with
        | none => rw [hq] at q; cases q
        | some o' => exact ⟨o', rfl⟩
      refine wpIn_block ?_
      refine wpIn_mono (ih ac' hac' hn ρ tm a h w ht r hall') ?_
      rintro e a' w' ⟨j, ex, tm', h', k1, k2, ρ', k3, k4, k5⟩
      cases k2 with
      | normal =>
        refine ⟨j, .normal, tm', h', ?_, .normal, ρ', k3, k4, k5⟩
        unfold execN; try dsimp only
        rw [k1]
      | exit i =>
        by_cases hi : i = id
        · simp only [Exit.inBlock, hi, if_true]
          refine ⟨j, .normal, tm', h', ?_, .normal, ρ', k3, k4, k5⟩
          unfold execN; try dsimp only
          rw [k1]; simp [hi]
        · simp only [Exit.inBlock, hi, if_false]
          refine ⟨j, .exit i, tm', h', ?_, .exit i, ρ', k3, k4, k5⟩
          unfold execN; try dsimp only
          rw [k1]; simp [hi]
      | ret =>
        refine ⟨j, .ret, tm', h', ?_, .ret, ρ', k3, k4, k5⟩
        unfold execN; try dsimp only
        rw [k1]
    · cases hac
  | loop c ih =>
    intro ac hac hn ρ tm a h w ht r hall
    have hac0 := hac
    simp only [codeC] at hac
    split at hac
    · rename_i ac' hac'
      cases hac
      have hall' : ∀ j, ∃ o, execN call exec L j ac' tm h = some o := by
        intro j
        obtain ⟨o, q⟩ := hall j
        unfold execN at q
        try dsimp only at q
        cases hq : execN call exec L j ac' tm h with
        | none => rw [hq] at q; cases q
        | some o' => exact ⟨o', rfl⟩
      refine loop_wp (loop_unroll ?_)
      refine wpIn_mono (ih ac' hac' hn ρ tm a h w ht r hall') ?_
      rintro e a' w' ⟨j, ex, tm2, h2, q1, q2, ρ', q3, q4, q5⟩
      obtain ⟨⟨ex', tm', h'⟩, q⟩ := hall j
      have q0 := q
      unfold execN at q
      try dsimp only at q
      rw [q1] at q
      have hsz := (HM.execN hm hem hlm _ q1).size
      cases q2 with
      | normal =>
        have := (hl none n nt (.loop c) (.loop ac') hac0 (.inl rfl) ρ' tm2 a' h2 w' q3 q4 _ _ _ q).2 c rfl
        refine this.mono ?_
        rintro e a'' w'' ⟨g1, ρ'', g2, g3, g4⟩
        exact ⟨j, ex', tm', h', q0, g1, ρ'', g2, g3, q5.trans g4 hsz⟩
      | exit id =>
        cases q
        exact ⟨j, _, _, _, q0, .exit id, ρ', q3, q4, q5⟩
      | ret =>
        cases q
        exact ⟨j, _, _, _, q0, .ret, ρ', q3, q4, q5⟩
    · cases hac
  | scope c ih =>
    intro ac hac hn ρ tm a h w ht r hall
    simp only [codeC] at hac
    refine wpIn_scope (ih ac hac hn ρ tm a h w ht r hall) ?_
    rintro l a w ⟨_, _, _, _, _, he, _⟩
    cases he
  | cond cx x y ihx ihy =>
    intro ac hac hn
    simp only [codeC] at hac
    split at hac <;> cases hac
    cases hn
  | rangeFunc f ps asg body _ _ =>
    intro ac hac hn
    simp only [codeC] at hac
    split at hac
    · split at hac <;> cases hac <;> cases hn
    · cases hac; cases hn
  | skip => intro ac hac hn; cases hac; cases hn
  | exit id => intro ac hac hn; cases hac; cases hn
  | ret => intro ac hac hn; cases hac; cases hn
  | label l => intro ac hac hn; cases hac; cases hn
  | goto => intro ac hac hn; cases hac; cases hn
  | refuse => intro ac hac hn; cases hac; cases hn

/-- A call in whose body such a range stands, in one of the orders. -/
def callBodyN (C : Cfg) (call : CallF) (exec L : LoopF) (j : Bool) (af : AFunc) (args : List V) (h : Heap) : Option (V × Heap) :=
  match Nat.beq args.length af.nparams && af.body.hasN with
  | true => match execN call exec L j af.body (argsTM 0 args .nil) { h with low := h.size } with
    | some (.exit _, _, _) => none
    | some (_, tm, h1) => match runDefers C exec (deferred tm) h1 with
      | some h2 => match ressA tm h2 af.results with
        | some vs => some (closeCall h (oneOf vs) h2)
        | none => none
      | none => none
    | none => none
  | false => none

theorem bodyN_sound {C : Cfg} (hT : TableOk P C) {call : CallF} (hc : CallOk P B w0 call) (hm : CallHM call) {exec L : LoopF} (he : LoopOk P B w0 exec) (hem : LoopHM exec) (hl : LoopOk P B w0 L) (hlm : LoopHM L)
    {f : FuncId} {fn : Func} {af : AFunc} (hf : P.funcs[f]? = some fn) (haf : funcC P fn = some af) {args : List V} {h : Heap} {v : V} {n1 : Nat} {l1 : List (Nat × Obj)}
    (hall : ∀ j, ∃ g, callBodyN C call exec L j af args h = some (v, g) ∧ g.size = n1 ∧ subL l1 g = true) {ρ : Rho} {w : World} {us : Array Value} (r : Rel P B w0 ρ h w) (hv : VRs ρ args us.toList) : CallSnd P B w0 ρ f us w h v (litH n1 l1) := by
  obtain ⟨c, ac, rs, hbody, hname, hnt, hdx, hac, hrs, rfl⟩ := funcC_parts haf
  have hcond : (Nat.beq args.length (fn.params.size + fn.nfree) && ac.hasN) = true := by
    obtain ⟨g, q, _⟩ := hall true
    unfold callBodyN at q
    split at q
    · assumption
    · cases q
  have hparts : ∀ j, ∃ ex tm h1 h2 vs g, execN call exec L j ac (argsTM 0 args .nil) { h with low := h.size } = some (ex, tm, h1) ∧ (∀ id, ex ≠ .exit id) ∧ runDefers C exec (deferred tm) h1 = some h2 ∧ ressA tm h2 rs = some vs ∧ closeCall h (oneOf vs) h2 = (v, g) ∧ g.size = n1 ∧ subL l1 g = true := by
    intro j
    obtain ⟨g, q, q1, q2⟩ := hall j
    unfold callBodyN at q
    dsimp only at q
    rw [hcond] at q
    dsimp only at q
    split at q
    · cases q
    · rename_i ex tm h1 hne hex
      split at q
      · rename_i h2 hd
        split at q
        · rename_i vs hvs
          exact ⟨ex, tm, h1, h2, vs, g, hex, fun id e => hne id (by rw [e]), hd, hvs, Option.some.inj q, q1, q2⟩
        · cases q
      · cases q
    · cases q
  simp only [Bool.and_eq_true] at hcond
  have hlen := Nat.eq_of_beq_eq_true hcond.1
  refine .inl ⟨enters_of hf hbody hname _ _, fun n => ?_⟩
  refine callsIn_of_wp_marks (F := Fence.wide) hf hbody trivial ?_
  have hw := codeN_sound hc hm he hem hl hlm n fn.ntmps c ac hac hcond.2 ρ (argsTM 0 args .nil) { tmps := us ++ Array.replicate (fn.ntmps - us.size) undef, defers := [] } _ w (start_act r.glob hv (by omega) (by omega) none) (r.reset h.size)
    (fun j => by obtain ⟨ex, tm, h1, _, _, _, q, _⟩ := hparts j; exact ⟨_, q⟩)
  refine wpIn_mono (F := Fence.wide) hw ?_
  rintro e a' w' ⟨j, ex, tm, h1, k1, hexr, ρ', q1, q2, q3⟩
  obtain ⟨ex', tm', h1', h2, vs, g, k2, hne, hdefs, hvs, hcl, hg1, hg2⟩ := hparts j
  rw [k1] at k2
  cases k2
  have hm1 := HM.execN hm hem hlm _ k1
  have hm2 := HM.defers (C := C) hem _ hdefs
  have fin : LeavesInM Fence.wide n P fn a'.tmps (RetE P B w0 ρ h.size v (litH n1 l1)) a'.defers .returning w' := by
    refine defers_sound hT he hem _ (q1.2 rfl) q2 hdefs fun ρ2 w2 k1 k2 => ?_
    obtain ⟨u, g1, g2⟩ := results_sound (P := P) k1 (q1.1.mono k2.1) hrs hvs
    refine ⟨u, g1, ?_⟩
    obtain ⟨e1, ρ'', g3, g4, g5⟩ := close_sound r k1 (q3.trans k2 hm1.size) (hm1.trans hm2) g2 hcl
    subst e1
    exact ⟨ρ'', g3, g4.pruned hg1 hg2, g5⟩
  cases hexr with
  | normal => exact fin
  | exit id => exact absurd rfl (hne id)
  | ret => exact fin

/-- The kernel has run the call in both orders, and it came to what is told. -/
def cutOk2 (C : Cfg) (n : Nat) (c : Cut) : Bool :=
  match C.S c.f c.args (litH c.n0 c.l0), C.F c.f with
  | none, some af => Nat.ble c.n0 c.n1 && ((match callBodyN C (fast C n).1 (fast C (n + 1)).2 (fast C n).2 true af c.args (litH c.n0 c.l0) with
      | some (v, h) => V.beq v c.v && (Nat.beq h.size c.n1 && subL c.l1 h)
      | none => false) && match callBodyN C (fast C n).1 (fast C (n + 1)).2 (fast C n).2 false af c.args (litH c.n0 c.l0) with
      | some (v, h) => V.beq v c.v && (Nat.beq h.size c.n1 && subL c.l1 h)
      | none => false)
  | _, _ => false
theorem cut_snd2 {C : Cfg} (hT : TableOk P C) (hS : SumOk P B w0 C) {n : Nat} {c : Cut} (hk : cutOk2 C n c = true) : CutSnd P B w0 c := by
  unfold cutOk2 at hk
  split at hk
  · rename_i af _ haf
    simp only [Bool.and_eq_true] at hk
    obtain ⟨k0, k1, k2⟩ := hk
    obtain ⟨fn, hf, hfc⟩ := hT.tab _ _ haf
    obtain ⟨s1, s2⟩ := run_sound hT hS n
    obtain ⟨_, s3⟩ := run_sound hT hS (n + 1)
    obtain ⟨m1, m2⟩ := HM.run C (fun f args h v h' hx => (hS f args h v h' hx).1) n
    obtain ⟨_, m3⟩ := HM.run C (fun f args h v h' hx => (hS f args h v h' hx).1) (n + 1)
    rw [← fast_eq] at s1 s2 s3 m1 m2 m3
    refine ⟨Nat.le_of_ble_eq_true k0, fun h hz hl ρ w us r hr => ?_⟩
    have hall : ∀ j, ∃ g, callBodyN C (fast C n).1 (fast C (n + 1)).2 (fast C n).2 j af c.args (litH c.n0 c.l0) = some (c.v, g) ∧ g.size = c.n1 ∧ subL c.l1 g = true := by
      intro j
      cases j with
      | true =>
        split at k1
        · rename_i v g hx
          simp only [Bool.and_eq_true] at k1
          exact ⟨g, by rw [hx, V.beq_eq _ _ k1.1], Nat.eq_of_beq_eq_true k1.2.1, k1.2.2⟩
        · cases k1
      | false =>
        split at k2
        · rename_i v g hx
          simp only [Bool.and_eq_true] at k2
          exact ⟨g, by rw [hx, V.beq_eq _ _ k2.1], Nat.eq_of_beq_eq_true k2.2.1, k2.2.2⟩
        · cases k2
    have snd := bodyN_sound hT s1 m1 s3 m3 s2 m2 hf hfc hall (r.pruned hz hl) hr
    have conv : ∀ u w', Ret P B w0 ρ (litH c.n0 c.l0).size c.v (litH c.n1 c.l1) u w' → Ret P B w0 ρ h.size c.v (litH c.n1 c.l1) u w' := by
      rintro u w' ⟨ρ', q1, q2, q3⟩
      exact ⟨ρ', q1, q2, by rw [hz]; exact q3⟩
    rcases snd with ⟨q1, q2⟩ | ⟨u, w', q1, q2⟩
    · refine .inl ⟨q1, fun m => ?_⟩
      obtain ⟨g1, g2⟩ := q2 m
      refine ⟨g1, fun cs hcs => ?_⟩
      obtain ⟨e, w', fr, q3, q4, q5, q6⟩ := g2 cs hcs
      refine ⟨e, w', fr, ?_, q4, q5, q6⟩
      cases e with
      | returned u => exact conv u w' q3
      | panicked c => exact q3.elim
      | outgrown => exact q3.elim
    · exact .inr ⟨u, w', q1, conv u w' q2⟩
  · cases hk
end
end
end Abs
end Go.Proofs.YtbjpoelgcehidaaGreatDoor
