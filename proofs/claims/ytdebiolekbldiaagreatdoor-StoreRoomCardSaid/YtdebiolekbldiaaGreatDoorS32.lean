/- Layer 18's laws: a case; open, put. Layer 18's laws: put. StoreRoom, plainly. No program is in sight. StoreRoom: what a put takes, against the document's choice. StoreRoom: the list of what is taken beside the store; what a put leaves. The law StoreRoom, walked. -/
import Derived.Test.YtdebiolekbldiaaGreatDoorS26
import Derived.Test.YtdebiolekbldiaaGreatDoorB4
namespace Go.Proofs.YtdebiolekbldiaaGreatDoor
namespace Abs
set_option linter.unusedVariables false
set_option linter.unusedSimpArgs false
open Go.RowKit
attribute [local irreducible] WO WC WD StepK Ans Does Runs DoesD
structure Cas where
 m : Int
 n : Int
 P : Pol
 us : List (Int × Int)
 ts : List (List Nat)
 dos : List Int
 dvs : List Int
structure Cas4 where
 u : V
 t : V
 d : V
 v : V
def Cas.v (K : Cas) (y : Cas4) : List V := [iv K.m, iv K.n, .bool K.P.fast, .bool K.P.mirror, iv K.P.small, iv K.P.arc, iv K.P.sec, y.u, y.t, y.d, y.v]
structure CasAt (h : Heap) (K : Cas) (y : Cas4) : Prop where
 u : Sl h 2 y.u (K.us.map rn)
 t : Sl h 1 y.t (strs K.ts)
 d : Sl h 1 y.d (ints K.dos)
 v : Sl h 1 y.v (ints K.dvs)
 lt : K.ts.length ≤ 9223372036854775807
theorem CasAt.grow {h h' : Heap} {K : Cas} {y : Cas4} (c : CasAt h K y) (g : Grow h h') : CasAt h' K y := ⟨c.u.grow g, c.t.grow g, c.d.grow g, c.v.grow g, c.lt⟩
def Cas.small (K : Cas) : Prop := shortF K.ts 30 960 = true ∧ (K.us.length ≤ 100 ∧ K.dvs.length ≤ 5)
def Cas.good (K : Cas) : Prop := K.small ∧ (((1 ≤ K.m ∧ K.m ≤ 512) ∧ (1 ≤ K.n ∧ K.n ≤ 512)) ∧ K.P.ok ∧ UsOk K.m.toNat K.n.toNat K.us)
abbrev Cas.reg (K : Cas) : Nat := regN K.P.sec K.n.toNat
def OpnR (h : Heap) (K : Cas) (r : V) (h' : Heap) : Prop := (¬ K.good → r = .tuple [.ptr none, .bool false] ∧ Grow h h') ∧ (K.good → ∃ hB s b b0 b1 T u0 u1, r = .tuple [.ptr (some (s, 0)), .bool true] ∧ Grow h hB ∧ Grow h h' ∧
 StAt hB h' s b b0 b1 (.slice none 0 0) (Dv.new K.m.toNat K.n.toNat) T u0 u1 (TM0 K.m.toNat K.n.toNat K.reg K.us 0) (TM0 K.m.toNat K.n.toNat K.reg K.us 1) ∧ T.P = K.P ∧ T.txg = 3 ∧ OpX hB.size h' s b b0 b1 K.n.toNat K.P T)
section
variable {C : Cfg} (S : StdX C)
include S
theorem l18open_ans (hSm : ∀ f args h v h', C.S f args h = some (some (v, h')) → HM h h') (h : Heap) (hw : Wf h) (ro : Ro h) (K : Cas) (y : Cas4) (ca : CasAt h K y) : Ans C 8 [.agg (K.v y)] h (OpnR h K) := by
 have hF : C.F 8 = some a8 := S.f rfl
 unfold a8 at hF
 refine Ans.fn (fun _ _ => S.toStdO.s _ _ _ rfl) hF rfl rfl hw (fun h2 g => ?_)
 clear hF
 refine WC.seqO (WO.ops (StepK.box rfl) ?_)
 have cp : Cl (h2.push (.cells (K.v y) (.tip [] 0 none))) h2.size (K.v y) := Cl.new _ _ _
 have g3 := g.push (.cells (K.v y) (.tip [] 0 none))
 change WO C _ _ (h2.push (.cells (K.v y) (.tip [] 0 none))) _
 generalize h2.push (.cells (K.v y) (.tip [] 0 none)) = h3 at *
 generalize h2.size = p at *
 have ca3 := ca.grow g3
 have lu : slLen y.u = some K.us.length := by have := ca.u.len; simpa using this
 have lv : slLen y.v = some K.dvs.length := by have := ca.v.len; simpa [ints] using this
 have no : ¬ K.good → ∀ (h' : Heap), Grow h h' → Fin .ret ∧ Wf h' ∧ ∃ v, some (V.tuple [.ptr none, .bool false]) = some v ∧ (∀ h3, Grow h' h3 → OpnR h K v h3) ∧ (v.scopd h.size = true → OpnR h K v h) := fun hno h' g' =>
  ⟨trivial, g'.wf, _, rfl, fun h3 g3 => ⟨fun _ => ⟨rfl, g'.trans g3⟩, fun q => absurd q hno⟩, fun _ => ⟨fun _ => ⟨rfl, Grow.refl hw⟩, fun q => absurd q hno⟩⟩
 refine omv rfl <| omv rfl <| WO.nil <| WC.seq <| WC.seqO <| ofa rfl <| old rfl (cp.rd (i := 8) rfl) ?_
 refine WO.call rfl rfl (r18short_ans S.toStdO h3 g3.wf y.t K.ts ca3.t ca.lt 30 960) ?_
 rintro _ h4 ⟨rfl, g34⟩
 have g4 := g3.trans g34
 have cp4 := cp.grow g34
 refine ont rfl <| omv rfl ?_
 have stop : ¬ K.small → ∀ e' b, Env.get e' 21 = some (.bool true) → WC C (.seq (.cond (.t 21) (.seq (.ops [⟨(some 2), none, .mv (.c (.ptr none))⟩, ⟨(some 3), none, .mv (.c (.bool false))⟩]) (.ret)) (.skip)) b) e' h4 (fun x e1 h1 => Fin x ∧ Wf h1 ∧ ∃ v, retE e1 h1 [.tmp 2, .tmp 3] = some v ∧ (∀ h3, Grow h1 h3 → OpnR h K v h3) ∧ (v.scopd h.size = true → OpnR h K v h)) := fun hno e' b he =>
  WC.seq <| WC.cond he (fun _ => WC.seqO <| omv rfl <| omv rfl <| WO.nil <| WC.ret (no (fun q => hno q.1) h4 g4)) (fun hc => by cases hc)
 by_cases hsh : shortF K.ts 30 960 = true
 rotate_left
 ·rw [Bool.eq_false_iff.2 hsh]
  (repeat (first | refine omv rfl ?_ | refine ols rfl (by first | with_reducible assumption | rfl) ?_ | refine ofa rfl ?_ | refine oad rfl rfl (by omega) ?_ | refine osb rfl rfl (by omega) ?_ | refine obn rfl rfl rfl ?_ | refine opt rfl rfl ?_ | refine opf rfl rfl ?_ | refine ont rfl ?_ | refine oeq rfl rfl rfl ?_ | refine oex rfl rfl ?_ | refine obu rfl rfl ?_ | refine ofd rfl rfl ?_ | refine olt rfl ?_ | refine onk rfl ?_ | refine old rfl (by first | with_reducible assumption | rfl) ?_ | refine WO.run rfl ?_ | refine WO.skip rfl rfl ?_ | refine WO.skipu rfl ?_))
  exact WO.nil <| WC.cond rfl (fun _ => WC.seqO <| omv rfl <| omv rfl <| WO.nil <| WC.ret (no (fun q => hsh q.1.1) h4 g4)) (fun hc => by cases hc)
 rw [hsh]
 refine WO.run rfl <| ofa rfl <| WO.run rfl <| old rfl (cp4.rd (i := 7) rfl) <| WO.run rfl <| ols rfl lu <| WO.run rfl ?_
 by_cases hu : K.us.length ≤ 100
 rotate_left
 ·refine obn rfl rfl (gtT (by omega)) ?_
  (repeat (first | refine omv rfl ?_ | refine ols rfl (by first | with_reducible assumption | rfl) ?_ | refine ofa rfl ?_ | refine oad rfl rfl (by omega) ?_ | refine osb rfl rfl (by omega) ?_ | refine obn rfl rfl rfl ?_ | refine opt rfl rfl ?_ | refine opf rfl rfl ?_ | refine ont rfl ?_ | refine oeq rfl rfl rfl ?_ | refine oex rfl rfl ?_ | refine obu rfl rfl ?_ | refine ofd rfl rfl ?_ | refine olt rfl ?_ | refine onk rfl ?_ | refine old rfl (by first | with_reducible assumption | rfl) ?_ | refine WO.run rfl ?_ | refine WO.skip rfl rfl ?_ | refine WO.skipu rfl ?_))
  exact WO.nil <| WC.cond rfl (fun _ => WC.seqO <| omv rfl <| omv rfl <| WO.nil <| WC.ret (no (fun q => hu q.1.2.1) h4 g4)) (fun hc => by cases hc)
 refine obn rfl rfl (gtF (by omega)) <| opf rfl rfl <| omv rfl <| WO.run rfl <| ofa rfl <| WO.run rfl <| old rfl (cp4.rd (i := 10) rfl) <| WO.run rfl <| ols rfl lv <| WO.run rfl ?_
 by_cases hv : K.dvs.length ≤ 5
 rotate_left
 ·refine obn rfl rfl (gtT (by omega)) ?_
  (repeat (first | refine omv rfl ?_ | refine ols rfl (by first | with_reducible assumption | rfl) ?_ | refine ofa rfl ?_ | refine oad rfl rfl (by omega) ?_ | refine osb rfl rfl (by omega) ?_ | refine obn rfl rfl rfl ?_ | refine opt rfl rfl ?_ | refine opf rfl rfl ?_ | refine ont rfl ?_ | refine oeq rfl rfl rfl ?_ | refine oex rfl rfl ?_ | refine obu rfl rfl ?_ | refine ofd rfl rfl ?_ | refine olt rfl ?_ | refine onk rfl ?_ | refine old rfl (by first | with_reducible assumption | rfl) ?_ | refine WO.run rfl ?_ | refine WO.skip rfl rfl ?_ | refine WO.skipu rfl ?_))
  exact WO.nil <| WC.cond rfl (fun _ => WC.seqO <| omv rfl <| omv rfl <| WO.nil <| WC.ret (no (fun q => hv q.1.2.2) h4 g4)) (fun hc => by cases hc)
 refine obn rfl rfl (gtF (by omega)) <| opf rfl rfl <| WO.nil <| WC.cond rfl (fun hc => by cases hc) (fun hc => WC.skip <| WC.seqD ?_)
 clear stop
 have f0 : h4.rd p (0 + 0) = some (iv K.m) := cp4.rd rfl
 have f1 : h4.rd p (0 + 1) = some (iv K.n) := cp4.rd (i := 1) rfl
 have f2 : h4.rds p (0 + 2) 5 = some K.P.v := Cl.rdsAt cp4 (o := 2) (n := 5) (by simp [Cas.v])
 have f7 : h4.rd p (0 + 7) = some y.u := cp4.rd (i := 7) rfl
 refine dfa rfl <| WD.load1 rfl f0 <| dfa rfl <| WD.load1 rfl f1 <| dfa rfl <| WD.loadN rfl f2 <| dfa rfl <| WD.load1 rfl f7 ?_
 by_cases hsz : (1 ≤ K.m ∧ K.m ≤ 512) ∧ (1 ≤ K.n ∧ K.n ≤ 512)
 rotate_left
 ·refine WD.call (by repeat (first | exact trivial | refine ⟨by with_reducible assumption, ?_⟩)) rfl rfl (dnew_no S.toStdO h4 g4.wf K.m K.n hsz) ?_
  rintro _ h5 ⟨rfl, g45⟩
  have f2' := g45.rds f2
  have f7' := g45.rd f7
  have g5 := g4.trans g45
  refine WD.call (by repeat (first | exact trivial | refine ⟨by with_reducible assumption, ?_⟩)) rfl rfl (stOpen_nil S.toStdO h5 g5.wf K.P y.u 3) ?_
  rintro _ h6 ⟨rfl, g56⟩
  exact dmv rfl <| dex rfl rfl <| dex rfl rfl <| dmv rfl <| dmv rfl <| WD.nil (by repeat (first | exact trivial | refine ⟨by with_reducible assumption, ?_⟩)) <| WC.seqO <| omv rfl <| omv rfl <| obn rfl rfl (eqF (by decide)) <| omv rfl <| omv rfl <| WO.nil <| WC.ret (no (fun q => hsz q.2.1) h6 (g5.trans g56))
 obtain ⟨m, hm⟩ : ∃ m : Nat, K.m = m := ⟨K.m.toNat, by omega⟩
 obtain ⟨n, hn⟩ : ∃ n : Nat, K.n = n := ⟨K.n.toNat, by omega⟩
 have tm : K.m.toNat = m := by omega
 have tn : K.n.toNat = n := by omega
 have call := dnew_ans S.toStdO h4 g4.wf m n (by omega) (by omega) (by omega) (by omega)
 rw [← hm, ← hn] at call
 refine WD.call (by repeat (first | exact trivial | refine ⟨by with_reducible assumption, ?_⟩)) rfl rfl call ?_
 rintro _ h5 ⟨b, b0, b1, rfl, g45, d5⟩
 have f2' := g45.rds f2
 have f7' := g45.rd f7
 have g5 := g4.trans g45
 by_cases hP : K.P.ok
 rotate_left
 ·refine WD.call (by repeat (first | exact trivial | refine ⟨by with_reducible assumption, ?_⟩)) rfl rfl (stOpen_pol S.toStdO h5 g5.wf b K.P hP y.u 3) ?_
  rintro _ h6 ⟨rfl, g56⟩
  exact dmv rfl <| dex rfl rfl <| dex rfl rfl <| dmv rfl <| dmv rfl <| WD.nil (by repeat (first | exact trivial | refine ⟨by with_reducible assumption, ?_⟩)) <| WC.seqO <| omv rfl <| omv rfl <| obn rfl rfl (eqF (by decide)) <| omv rfl <| omv rfl <| WO.nil <| WC.ret (no (fun q => hP q.2.2.1) h6 (g5.trans g56))
 refine WD.call (by repeat (first | exact trivial | refine ⟨by with_reducible assumption, ?_⟩)) rfl rfl (stOpen_ok S hSm h4 h5 g4.wf g45 (ro.grow g4) b b0 b1 m n (by omega) (by omega) d5 K.P hP y.u K.us (ca.grow g5).u (by omega) 3 (by decide)) ?_
 rintro r h6 ⟨hbad, hok⟩
 by_cases hus : UsOk m n K.us
 ·obtain ⟨s, T, u0, u1, rfl, g56, zs, st, e1, e2, ox⟩ := hok hus
  have good : K.good := ⟨⟨hsh, hu, hv⟩, hsz, hP, by rw [tm, tn]; exact hus⟩
  refine dmv rfl <| dex rfl rfl <| dex rfl rfl <| dmv rfl <| dmv rfl <| WD.nil (by repeat (first | exact trivial | refine ⟨by with_reducible assumption, ?_⟩)) <| WC.seqO <| omv rfl <| omv rfl <| obn rfl rfl (eqT rfl) <| omv rfl <| omv rfl <| WO.nil <| WC.ret ⟨trivial, g56.wf, .tuple [.ptr (some (s, 0)), .bool true], rfl, fun h7 g7 => ⟨fun q => absurd good q, fun _ => ⟨h4, s, b, b0, b1, T, u0, u1, rfl, g4, (g5.trans g56).trans g7, ?_, e1, e2, ?_⟩⟩, fun hc => ?_⟩
  ·rw [show K.reg = regN K.P.sec n by unfold Cas.reg; rw [tn], tm, tn]; exact st.grow g7
  ·rw [tn]; exact ox.grow g7
  ·have := g5.size
   simp [V.scopd, V.scopeds] at hc; omega
 ·obtain ⟨rfl, g56⟩ := hbad hus
  exact dmv rfl <| dex rfl rfl <| dex rfl rfl <| dmv rfl <| dmv rfl <| WD.nil (by repeat (first | exact trivial | refine ⟨by with_reducible assumption, ?_⟩)) <| WC.seqO <| omv rfl <| omv rfl <| obn rfl rfl (eqF (by decide)) <| omv rfl <| omv rfl <| WO.nil <| WC.ret (no (fun q => hus (by have := q.2.2.2; rw [tm, tn] at this; exact this)) h6 (g5.trans g56))
end
end Abs
end Go.Proofs.YtdebiolekbldiaaGreatDoor
namespace Go.Proofs.YtdebiolekbldiaaGreatDoor
namespace Abs
set_option linter.unusedVariables false
set_option linter.unusedSimpArgs false
open Go.RowKit
attribute [local irreducible] WO WC WD StepK Ans Does Runs DoesD
theorem PutS.tup {hB h h' : Heap} {s b b0 b1 : Nat} {wv : V} {D : Dv} {T : SV} {t : List Nat} {u0 u1 : V} {e : Int} {o : Option (List (Int × Int) × List (Int × Int) × List (Int × Int))} {r : V} (p : PutS hB h s b b0 b1 wv D T t u0 u1 e o r h') : ∃ a c, r = .tuple [a, c] := by
 cases o with
 | none => exact ⟨_, _, p.1⟩
 | some x => obtain ⟨ls, A, B⟩ := x; exact ⟨_, _, p.1⟩
def Cas.do (K : Cas) (i : Nat) : Int := if i < K.dos.length then K.dos.getD i 0 else 0
def Cas.txt (K : Cas) (i : Nat) : List Nat := K.ts.getD i []
def Cas.putO (K : Cas) (P : Pol) (R0 R1 : List (Int × Int)) (i : Nat) : Option (List (Int × Int) × List (Int × Int) × List (Int × Int)) :=
 if K.do i = 0 then stPutF P 0 (K.txt i) R0 R1 else if K.do i = 1 then stPutF P 1 (K.txt i) R0 R1 else onF K.dvs R0 R1
def Cas.putE (K : Cas) (i : Nat) : Int := if K.do i = 0 then 6 else if K.do i = 1 then 6 else onE K.dvs
theorem onF_ne {dl : List Int} {R0 R1 : List (Int × Int)} (o0 : RunOk R0) (o1 : RunOk R1) : ∀ q, onF dl R0 R1 = some q → q.1 ≠ [] := fun q hq => by
 unfold onF at hq
 split at hq
 ·rename_i hd; exact tk_len o0 o1 hd.1.1 q hq
 ·cases hq
theorem Cas.putO_ne {K : Cas} {P : Pol} {R0 R1 : List (Int × Int)} {i : Nat} (o0 : RunOk R0) (o1 : RunOk R1) : ∀ q, K.putO P R0 R1 i = some q → q.1 ≠ [] := fun q hq => by
 unfold Cas.putO at hq
 split at hq
 ·exact stPutF_ne o0 o1 q hq
 split at hq
 ·exact stPutF_ne o0 o1 q hq
 ·exact onF_ne o0 o1 q hq
theorem short_len {ts : List (List Nat)} {many most : Int} (h : shortF ts many most = true) : (ts.length : Int) ≤ many ∧ ∀ t ∈ ts, (t.length : Int) ≤ most := by
 unfold shortF at h
 rw [Bool.and_eq_true, List.all_eq_true] at h
 exact ⟨of_decide_eq_true h.2, fun t ht => of_decide_eq_true (h.1 t ht)⟩
theorem Cas.txt_len {K : Cas} (h : K.small) (i : Nat) : (K.txt i).length ≤ 960 := by
 unfold Cas.txt
 rw [List.getD_eq_getElem?_getD]
 cases q : K.ts[i]? with
 | none => simp
 | some t =>
  have := (short_len h.1).2 t (List.mem_of_getElem? q)
  simp only [Option.getD_some]; omega
section
variable {C : Cfg} (S : StdO C)
include S
theorem l18put_ans (hSm : ∀ f args h v h', C.S f args h = some (some (v, h')) → HM h h') (hB h : Heap) (hw0 : Wf hB) (ro : Ro hB) (s b b0 b1 : Nat) (wv : V) (D : Dv) (T : SV) (u0 u1 : V) (R0 R1 : List (Int × Int)) (x : StAt hB h s b b0 b1 wv D T u0 u1 R0 R1) (hws : D.ws.length ≤ 900000)
  (K : Cas) (y : Cas4) (ca : CasAt h K y) (sm : K.small) (i : Nat) (hi : i < K.ts.length) :
  Ans C 10 [.ptr (some (s, 0)), .agg (K.v y), iv i] h (PutS hB h s b b0 b1 wv D T (K.txt i) u0 u1 (K.putE i) (K.putO T.P R0 R1 i)) := by
 have hw := x.g.wf
 have hF : C.F 10 = some a10 := S.f rfl
 unfold a10 at hF
 refine Ans.loc hSm (S.s _ _ _ rfl) hF rfl rfl hw (fun h2 g2 hs2 hg2 => ?_) (fun v h1 hl hr _ => hr.loc x (Cas.putO_ne x.f0.ok x.f1.ok) hl)
 clear hF
 refine WC.seqO (WO.ops (StepK.box rfl) ?_)
 have cp : Cl (h2.push (.cells (K.v y) (.tip [] 0 none))) h2.size (K.v y) := Cl.new _ _ _
 have g3 := g2.push (.cells (K.v y) (.tip [] 0 none))
 change WO C _ _ (h2.push (.cells (K.v y) (.tip [] 0 none))) _
 generalize h2.push (.cells (K.v y) (.tip [] 0 none)) = h3 at *
 generalize h2.size = p at *
 have x3 := x.grow g3
 have ca3 := ca.grow g3
 have ld : slLen y.d = some K.dos.length := by have := ca.d.len; simpa [ints] using this
 have f8 : h3.rd p (0 + 8) = some y.t := cp.rd (i := 8) rfl
 have f9 : h3.rd p (0 + 9) = some y.d := cp.rd (i := 9) rfl
 have f10 : h3.rd p (0 + 10) = some y.v := cp.rd (i := 10) rfl
 obtain ⟨ct, ot, k1, k2⟩ := ca3.t.at (i := i) (by simpa using hi)
 rw [List.getElem_map] at k2
 have k3 : h3.rd ct ot = some (.str K.ts[i]) := rds_rd k2 (j := 0) rfl
 have et : K.ts[i] = K.txt i := by unfold Cas.txt; rw [List.getD_eq_getElem?_getD, List.getElem?_eq_getElem hi]; rfl
 rw [et] at k3
 have k3' : h3.rd ct (ot + 0) = some (.str (K.txt i)) := k3
 refine omv rfl <| omv rfl <| WO.nil <| WC.seqO <| omv rfl <| WO.nil <| ?_
 refine WC.seqM (M := fun e' h' => Cov [(0, .ptr (some (s, 0))), (2, iv i), (4, .ptr (some (p, 0))), (8, iv (K.do i))] e' ∧ h' = h3) (WC.seqO ?_) ?_
 ·refine omv rfl <| ofa rfl <| old rfl f9 <| ols rfl ld ?_
  by_cases hd : i < K.dos.length
  ·obtain ⟨cd, od, j1, j2⟩ := ca3.d.at (i := i) (by simpa [ints] using hd)
   rw [ints_at hd] at j2
   have j3 : h3.rd cd od = some (iv K.dos[i]) := rds_rd j2 (j := 0) rfl
   refine obn rfl rfl (ltT (by omega)) <| WO.nil <| WC.cond rfl (fun _ => WC.ops <| ofa rfl <| old rfl f9 <| omv rfl <| WO.ops (StepK.idxSl rfl rfl j1) <| old rfl j3 <| omv rfl <| WO.nil ⟨Cov.cons rfl (Cov.cons rfl (Cov.cons rfl (Cov.cons ?_ (Cov.nil _)))), rfl⟩) (fun hc => by cases hc)
   unfold Cas.do
   rw [if_pos hd, List.getD_eq_getElem?_getD, List.getElem?_eq_getElem hd]; rfl
  ·refine obn rfl rfl (ltF (by omega)) <| WO.nil <| WC.cond rfl (fun hc => by cases hc) (fun _ => WC.skip ⟨Cov.cons rfl (Cov.cons rfl (Cov.cons rfl (Cov.cons ?_ (Cov.nil _)))), rfl⟩)
   unfold Cas.do
   rw [if_neg hd]; rfl
 rintro e' h' ⟨hcov, hh⟩
 rw [hh]
 refine WC.cov hcov ?_
 have htl := K.txt_len sm i
 refine WC.seq <| WC.seqO <| omv rfl <| WO.nil <| WC.block <| WC.seqO ?_
 by_cases d0 : K.do i = 0
 ·refine obn rfl rfl (eqT d0) <| omv rfl <| WO.nil <| WC.cond rfl (fun _ => WC.seqO ?_) (fun hc => by cases hc)
  refine omv rfl <| ofa rfl <| old rfl f8 <| omv rfl <| WO.ops (StepK.idxSl rfl rfl k1) <| old rfl k3 ?_
  refine WO.call rfl rfl (stPut_ans S hSm hB h3 hw0 ro s b b0 b1 wv D T u0 u1 R0 R1 x3 hws (K.txt i) htl) ?_
  rintro r h4 hr
  have hr2 := hr.pre g3 hw x.off
  obtain ⟨a, c, rfl⟩ := hr2.tup
  refine oex rfl rfl <| oex rfl rfl <| omv rfl <| omv rfl <| WO.nil <| WC.ret ⟨trivial, _, rfl, fun n => PutS.low ?_ n⟩
  unfold Cas.putO Cas.putE
  rw [if_pos d0, if_pos d0]; exact hr2
 refine obn rfl rfl (eqF d0) <| omv rfl <| WO.nil <| WC.cond rfl (fun hc => by cases hc) (fun _ => WC.seqO ?_)
 by_cases d1 : K.do i = 1
 ·refine obn rfl rfl (eqT d1) <| omv rfl <| WO.nil <| WC.cond rfl (fun _ => WC.seqO ?_) (fun hc => by cases hc)
  refine omv rfl <| ofa rfl <| old rfl f8 <| omv rfl <| WO.ops (StepK.idxSl rfl rfl k1) <| old rfl k3 ?_
  refine WO.call rfl rfl (stPutData_ans S hSm hB h3 hw0 ro s b b0 b1 wv D T u0 u1 R0 R1 x3 hws (K.txt i) htl) ?_
  rintro r h4 hr
  have hr2 := hr.pre g3 hw x.off
  obtain ⟨a, c, rfl⟩ := hr2.tup
  refine oex rfl rfl <| oex rfl rfl <| omv rfl <| omv rfl <| WO.nil <| WC.ret ⟨trivial, _, rfl, fun n => PutS.low ?_ n⟩
  unfold Cas.putO Cas.putE
  rw [if_neg d0, if_neg d0, if_pos d1, if_pos d1]; exact hr2
 refine obn rfl rfl (eqF d1) <| omv rfl <| WO.nil <| WC.cond rfl (fun hc => by cases hc) (fun _ => WC.skip <| WC.seqD ?_)
 refine dmv rfl <| dfa rfl <| WD.load1 rfl f8 <| dmv rfl <| WD.pure (StepK.idxSl rfl rfl k1) rfl <| WD.load1 rfl k3 <| dfa rfl <| WD.load1 rfl f10 ?_
 refine WD.call (by repeat (first | exact trivial | refine ⟨by with_reducible assumption, ?_⟩)) rfl rfl (stPutOn_ans S hSm hB h3 hw0 ro s b b0 b1 wv D T u0 u1 R0 R1 x3 hws (K.txt i) htl K.dvs y.v ca3.v (by have := sm.2.2; omega)) ?_
 rintro r h4 hr
 have hr2 := hr.pre g3 hw x.off
 obtain ⟨a, c, rfl⟩ := hr2.tup
 refine dex rfl rfl <| dex rfl rfl <| dmv rfl <| dmv rfl <| WD.nil (by repeat (first | exact trivial | refine ⟨by with_reducible assumption, ?_⟩)) <| WC.ret ⟨trivial, _, rfl, fun n => PutS.low ?_ n⟩
 unfold Cas.putO Cas.putE
 rw [if_neg d0, if_neg d0, if_neg d1, if_neg d1]; exact hr2
end
end Abs
end Go.Proofs.YtdebiolekbldiaaGreatDoor
namespace Go.Proofs.YtdebiolekbldiaaGreatDoor
namespace Abs
set_option linter.unusedVariables false
set_option linter.unusedSimpArgs false
attribute [local irreducible] WO WC WD StepK Ans Does Runs DoesD
def c0 (L : List (Int × Int)) : Int := ((L.countP fun l => decide (l.1 = 0) : Nat) : Int)
def c1 (L : List (Int × Int)) : Int := ((L.countP fun l => !decide (l.1 = 0) : Nat) : Int)
theorem c0_snoc (L : List (Int × Int)) (l : Int × Int) : c0 (L ++ [l]) = c0 L + if l.1 = 0 then 1 else 0 := by
 unfold c0; rw [List.countP_append, List.countP_singleton]
 by_cases h : l.1 = 0 <;> simp [h]
theorem c1_snoc (L : List (Int × Int)) (l : Int × Int) : c1 (L ++ [l]) = c1 L + if l.1 = 0 then 0 else 1 := by
 unfold c1; rw [List.countP_append, List.countP_singleton]
 by_cases h : l.1 = 0 <;> simp [h]
def tkS (m n sec : Int) (acc : List (Int × Int)) (u : Int × Int) : List (Int × Int) := if acc.contains u = false ∧ mayF m n sec u = true then acc ++ [u] else acc
def tkUs (m n sec : Int) (us : List (Int × Int)) : List (Int × Int) := us.foldl (tkS m n sec) []
theorem tkUs_snoc (m n sec : Int) (us : List (Int × Int)) (u : Int × Int) : tkUs m n sec (us ++ [u]) = tkS m n sec (tkUs m n sec us) u := by
 unfold tkUs; rw [List.foldl_append]; rfl
theorem snoc_ind {α : Type} {p : List α → Prop} (h0 : p []) (hs : ∀ l a, p l → p (l ++ [a])) : ∀ l, p l := by
 intro l
 have : ∀ l : List α, p l.reverse := by
  intro l
  induction l with
  | nil => exact h0
  | cons a l ih => rw [List.reverse_cons]; exact hs _ _ ih
 have := this l.reverse
 rwa [List.reverse_reverse] at this
theorem tkUs_mem (m n sec : Int) : ∀ us x, x ∈ tkUs m n sec us ↔ x ∈ us ∧ mayF m n sec x = true := by
 refine snoc_ind (by simp [tkUs]) fun us u ih x => ?_
 rw [tkUs_snoc]
 unfold tkS
 split
 ·rename_i h
  rw [List.mem_append, List.mem_append, List.mem_singleton, ih]
  constructor
  ·rintro (⟨q1, q2⟩ | rfl)
   ·exact ⟨.inl q1, q2⟩
   ·exact ⟨.inr rfl, h.2⟩
  ·rintro ⟨q1 | rfl, q2⟩
   ·exact .inl ⟨q1, q2⟩
   ·exact .inr rfl
 ·rename_i h
  rw [ih, List.mem_append, List.mem_singleton]
  constructor
  ·rintro ⟨q1, q2⟩; exact ⟨.inl q1, q2⟩
  ·rintro ⟨q1 | rfl, q2⟩
   ·exact ⟨q1, q2⟩
   ·refine Decidable.byContradiction fun hn => h ⟨?_, q2⟩
    rw [Bool.eq_false_iff, Ne, List.contains_iff_mem, ih]
    exact hn
theorem tkUs_len (m n sec : Int) : ∀ us, (tkUs m n sec us).length ≤ us.length := by
 refine snoc_ind (by simp [tkUs]) fun us u ih => ?_
 rw [tkUs_snoc]; unfold tkS
 split <;> simp <;> omega
theorem may0 (m n sec a : Int) : mayF m n sec (0, a) = true ↔ 4 ≤ a ∧ a < m := by
 unfold mayF
 simp only [if_true]
 by_cases h : a < 4
 ·rw [if_pos h]; simp; omega
 ·rw [if_neg h]; simp; omega
theorem may1 (m n : Nat) (sec a : Int) (hs : 0 ≤ sec) : mayF m n sec (1, a) = true ↔ 4 ≤ a ∧ a < (n : Int) - regN sec n := by
 unfold mayF regN
 simp only [show ¬ (1 : Int) = 0 by decide, if_false]
 by_cases h : a < 4
 ·rw [if_pos h]; simp; omega
 ·rw [if_neg h]
  by_cases h2 : 2 ≤ sec ∧ sec ≤ (n : Int) - 4
  ·rw [if_pos h2, if_neg (by omega)]; simp; omega
  ·rw [if_neg h2, if_pos (by omega)]; simp; omega
theorem tkn_iff (reg n : Nat) (d : Int) (us : List (Int × Int)) (k : Nat) : tkn reg n d us k = false ↔ 4 ≤ k ∧ ¬ (d = 1 ∧ n - reg ≤ k) ∧ (d, (k : Int)) ∉ us := by
 unfold tkn
 rw [Bool.or_eq_false_iff, Bool.or_eq_false_iff, decide_eq_false_iff_not, decide_eq_false_iff_not, Bool.eq_false_iff, Ne, List.contains_iff_mem]
 constructor
 ·rintro ⟨⟨q1, q2⟩, q3⟩; exact ⟨by omega, q2, q3⟩
 ·rintro ⟨q1, q2, q3⟩; exact ⟨⟨by omega, q2⟩, q3⟩
theorem cntM_eq (m n : Nat) (sec : Int) (hs : 0 ≤ sec) (d : Int) (hd : d = 0 ∨ d = 1) (hz : (if d = 0 then m else n) ≤ 512) : ∀ N, cntM m n sec d N = cntF (min N (if d = 0 then m else n)) (tkn (regN sec n) (if d = 0 then m else n) d [])
 | 0 => by simp [cntM, cntF]
 | N + 1 => by
  have ih := cntM_eq m n sec hs d hd hz N
  have hrg := regN_le sec n
  generalize hnd : (if d = 0 then m else n) = nd at *
  have key : mayF m n sec (d, (N : Int)) = true ↔ N < nd ∧ tkn (regN sec n) nd d [] N = false := by
   rw [tkn_iff]
   rcases hd with rfl | rfl
   ·rw [may0]
    simp only [if_true] at hnd
    subst hnd
    constructor
    ·intro q; exact ⟨by omega, by omega, by simp, by simp⟩
    ·intro q; omega
   ·rw [may1 m n sec N hs]
    simp only [show ¬ (1 : Int) = 0 by decide, if_false] at hnd
    subst hnd
    constructor
    ·intro q; exact ⟨by omega, by omega, by simp; omega, by simp⟩
    ·intro q
     have := q.2.2.1
     simp only [true_and] at this
     omega
  simp only [cntM]
  rw [ih]
  by_cases hlt : N < nd
  ·rw [Nat.min_eq_left (by omega), Nat.min_eq_left (by omega), cntF_succ]
   by_cases ht : tkn (regN sec n) nd d [] N = true
   ·rw [if_pos ht, if_neg (by rw [key]; rw [ht]; simp)]
   ·have ht' : tkn (regN sec n) nd d [] N = false := by simpa using ht
    rw [if_neg ht, if_pos (key.2 ⟨hlt, ht'⟩)]
  ·rw [Nat.min_eq_right (by omega), Nat.min_eq_right (by omega), if_neg (by rw [key]; omega)]; omega
theorem cnt_us (m n : Nat) (sec : Int) (hs : 0 ≤ sec) (hm : m ≤ 512) (hn : n ≤ 512) : ∀ us, UsOk m n us →
  cntF m (tkn (regN sec n) m 0 us) = cntM m n sec 0 512 - c0 (tkUs m n sec us) ∧ cntF n (tkn (regN sec n) n 1 us) = cntM m n sec 1 512 - c1 (tkUs m n sec us) := by
 refine snoc_ind (fun _ => ?_) fun us u ih ok => ?_
 ·have e0 := cntM_eq m n sec hs 0 (.inl rfl) (by simpa using hm) 512
  have e1 := cntM_eq m n sec hs 1 (.inr rfl) (by simpa using hn) 512
  simp only [if_true] at e0
  simp only [show ¬ (1 : Int) = 0 by decide, if_false] at e1
  rw [Nat.min_eq_right hm] at e0
  rw [Nat.min_eq_right hn] at e1
  rw [e0, e1]
  simp [tkUs, c0, c1]
 ·obtain ⟨i0, i1⟩ := ih (fun l hl => ok l (List.mem_append_left _ hl))
  have hu := ok u (List.mem_append_right _ (List.mem_singleton.2 rfl))
  rw [tkUs_snoc]
  obtain ⟨d, a⟩ := u
  have hrg := regN_le sec n
  dsimp only at hu
  have same : ∀ (nd : Nat) (d' : Int), (d ≠ d' ∨ ∀ k : Nat, k < nd → (k : Int) = a → tkn (regN sec n) nd d' us k = true) → cntF nd (tkn (regN sec n) nd d' (us ++ [(d, a)])) = cntF nd (tkn (regN sec n) nd d' us) := by
   intro nd d' h
   refine cntF_congr fun k hk => ?_
   rw [tkn_snoc]
   dsimp only
   rcases h with h | h
   ·rw [decide_eq_false (fun q => h q.symm), Bool.false_and, Bool.or_false]
   ·by_cases e : (k : Int) = a
    ·rw [h k hk e]; simp
    ·rw [decide_eq_false e, Bool.and_false, Bool.or_false]
  have step : ∀ (nd : Nat), (∃ k : Nat, k < nd ∧ (k : Int) = a ∧ tkn (regN sec n) nd d us k = false) → cntF nd (tkn (regN sec n) nd d (us ++ [(d, a)])) = cntF nd (tkn (regN sec n) nd d us) - 1 := by
   rintro nd ⟨k, k1, k2, k3⟩
   refine cntF_set k1 k3 fun j => ?_
   rw [tkn_snoc]
   dsimp only
   rw [decide_eq_true rfl, Bool.true_and]
   congr 1
   rw [decide_eq_decide]; omega
  unfold tkS
  by_cases hnew : (tkUs m n sec us).contains (d, a) = false ∧ mayF m n sec (d, a) = true
  ·rw [if_pos hnew, c0_snoc, c1_snoc]
   dsimp only
   have hnm : (d, a) ∉ us := fun q => by
    have := hnew.1
    rw [Bool.eq_false_iff, Ne, List.contains_iff_mem, tkUs_mem] at this
    exact this ⟨q, hnew.2⟩
   rcases hu with ⟨rfl, h1, h2⟩ | ⟨rfl, h1, h2⟩
   ·have hmay := (may0 m n sec a).1 hnew.2
    rw [same n 1 (.inl (by decide)), step m ⟨a.toNat, by omega, by omega, (tkn_iff _ _ _ _ _).2 ⟨by omega, by simp, by rw [show ((a.toNat : Nat) : Int) = a by omega]; exact hnm⟩⟩]
    simp only [if_true]; omega
   ·have hmay := (may1 m n sec a hs).1 hnew.2
    rw [same m 0 (.inl (by decide)), step n ⟨a.toNat, by omega, by omega, (tkn_iff _ _ _ _ _).2 ⟨by omega, by simp; omega, by rw [show ((a.toNat : Nat) : Int) = a by omega]; exact hnm⟩⟩]
    simp only [show ¬ (1 : Int) = 0 by decide, if_false]; omega
  ·rw [if_neg hnew]
   have hold : ∀ nd k : Nat, k < nd → (k : Int) = a → (mayF m n sec (d, a) = false → tkn (regN sec n) nd d us k = true) → tkn (regN sec n) nd d us k = true := by
    intro nd k hk hka hmay
    cases hmf : mayF m n sec (d, a) with
    | false => exact hmay hmf
    | true =>
     have hc : (tkUs m n sec us).contains (d, a) = true := by
      cases hc : (tkUs m n sec us).contains (d, a) with
      | true => rfl
      | false => exact absurd ⟨hc, hmf⟩ hnew
     rw [List.contains_iff_mem, tkUs_mem] at hc
     unfold tkn
     rw [hka, show us.contains (d, a) = true from List.contains_iff_mem.2 hc.1]; simp
   rcases hu with ⟨rfl, h1, h2⟩ | ⟨rfl, h1, h2⟩
   ·rw [same n 1 (.inl (by decide)), same m 0 (.inr fun k hk hka => hold m k hk hka fun hmf => ?_)]
    ·exact ⟨i0, i1⟩
    ·rw [Bool.eq_false_iff, Ne, may0] at hmf
     unfold tkn
     rw [decide_eq_true (by omega)]; rfl
   ·rw [same m 0 (.inl (by decide)), same n 1 (.inr fun k hk hka => hold n k hk hka fun hmf => ?_)]
    ·exact ⟨i0, i1⟩
    ·rw [Bool.eq_false_iff, Ne, may1 m n sec a hs] at hmf
     unfold tkn
     by_cases h4 : k < 4
     ·rw [decide_eq_true h4]; rfl
     ·rw [decide_eq_true (p := (1 : Int) = 1 ∧ n - regN sec n ≤ k) ⟨rfl, by omega⟩]; simp
structure RmI (m n : Nat) (sec : Int) (taken R0 R1 : List (Int × Int)) : Prop where
 f0 : ∀ a, Fre R0 a ↔ mayF m n sec (0, a) = true ∧ (0, a) ∉ taken
 f1 : ∀ a, Fre R1 a ↔ mayF m n sec (1, a) = true ∧ (1, a) ∉ taken
theorem rmI0 (m n : Nat) (sec : Int) (hs : 0 ≤ sec) (hm : m ≤ 512) (hn : n ≤ 512) (us : List (Int × Int)) : RmI m n sec (tkUs m n sec us) (TM0 m n (regN sec n) us 0) (TM0 m n (regN sec n) us 1) := by
 have hrg := regN_le sec n
 refine ⟨fun a => ?_, fun a => ?_⟩
 ·rw [TM0_fre hm hn, tkUs_mem, may0]
  simp only [if_true]
  constructor
  ·rintro ⟨k, k1, k2, rfl⟩
   rw [tkn_iff] at k2
   exact ⟨by omega, fun q => k2.2.2 q.1⟩
  ·rintro ⟨q1, q2⟩
   have e : ((a.toNat : Nat) : Int) = a := by omega
   refine ⟨a.toNat, by omega, (tkn_iff _ _ _ _ _).2 ⟨by omega, by simp, ?_⟩, e.symm⟩
   rw [e]; exact fun q => q2 ⟨q, q1⟩
 ·rw [TM0_fre hm hn, tkUs_mem, may1 m n sec a hs]
  simp only [show ¬ (1 : Int) = 0 by decide, if_false]
  constructor
  ·rintro ⟨k, k1, k2, rfl⟩
   rw [tkn_iff] at k2
   have := k2.2.1
   simp only [true_and] at this
   exact ⟨by omega, fun q => k2.2.2 q.1⟩
  ·rintro ⟨q1, q2⟩
   have e : ((a.toNat : Nat) : Int) = a := by omega
   refine ⟨a.toNat, by omega, (tkn_iff _ _ _ _ _).2 ⟨by omega, by simp; omega, ?_⟩, e.symm⟩
   rw [e]; exact fun q => q2 ⟨q, q1⟩
structure TkI (R0 R1 ls A B : List (Int × Int)) : Prop where
 f0 : ∀ a, Fre A a ↔ Fre R0 a ∧ (0, a) ∉ ls
 f1 : ∀ a, Fre B a ↔ Fre R1 a ∧ (1, a) ∉ ls
 n0 : cnt A = cnt R0 - c0 ls
 n1 : cnt B = cnt R1 - c1 ls
 fr : ∀ l ∈ ls, (l.1 = 0 ∧ Fre R0 l.2) ∨ (l.1 = 1 ∧ Fre R1 l.2)
 nd : ls.Nodup
theorem tk_inv {R0 R1 : List (Int × Int)} {dl : List Int} (o0 : RunOk R0) (o1 : RunOk R1) (hd : ∀ d ∈ dl, d = 0 ∨ d = 1) : ∀ {j : Nat} {ls A B : List (Int × Int)}, j ≤ dl.length → tk R0 R1 dl j = some (ls, A, B) → TkI R0 R1 ls A B
 | 0, ls, A, B, _, h => by cases h; exact ⟨by simp, by simp, by simp [c0], by simp [c1], by simp, List.nodup_nil⟩
 | j + 1, ls, A, B, hj, h => by
  cases hq : tk R0 R1 dl j with
  | none => rw [tk_none hq (by omega)] at h; cases h
  | some y =>
   obtain ⟨l, A', B'⟩ := y
   have ih := tk_inv o0 o1 hd (by omega) hq
   obtain ⟨k1, k2, k3, k4⟩ := tk_ok o0 o1 hq
   dsimp only at k1 k2 k3 k4
   rw [tk_succ hq] at h
   unfold tkStep at h
   split at h
   ·cases A' with
    | nil => cases h
    | cons r A' =>
     cases h
     have hf : Fre R0 r.1 ∧ (0, r.1) ∉ l := (ih.f0 _).1 (fre_hd k1)
     refine ⟨fun a => ?_, fun a => ?_, ?_, ?_, fun x hx => ?_, ?_⟩
     ·rw [fre_tl k1, ih.f0, List.mem_append, List.mem_singleton, not_or, and_assoc]
      simp
     ·rw [ih.f1, List.mem_append, List.mem_singleton, not_or]
      simp
     ·rw [cnt_tl, ih.n0, c0_snoc]; simp; omega
     ·rw [ih.n1, c1_snoc]; simp
     ·rcases List.mem_append.1 hx with q | q
      ·exact ih.fr x q
      ·rw [List.mem_singleton.1 q]; exact .inl ⟨rfl, hf.1⟩
     ·rw [List.nodup_append]
      refine ⟨ih.nd, by simp, fun a ha b hb e => ?_⟩
      rw [List.mem_singleton.1 hb] at e
      rw [e] at ha; exact hf.2 ha
   ·cases B' with
    | nil => cases h
    | cons r B' =>
     cases h
     have hf : Fre R1 r.1 ∧ (1, r.1) ∉ l := (ih.f1 _).1 (fre_hd k2)
     refine ⟨fun a => ?_, fun a => ?_, ?_, ?_, fun x hx => ?_, ?_⟩
     ·rw [ih.f0, List.mem_append, List.mem_singleton, not_or]
      simp
     ·rw [fre_tl k2, ih.f1, List.mem_append, List.mem_singleton, not_or, and_assoc]
      simp
     ·rw [ih.n0, c0_snoc]; simp
     ·rw [cnt_tl, ih.n1, c1_snoc]; simp; omega
     ·rcases List.mem_append.1 hx with q | q
      ·exact ih.fr x q
      ·rw [List.mem_singleton.1 q]; exact .inr ⟨rfl, hf.1⟩
     ·rw [List.nodup_append]
      refine ⟨ih.nd, by simp, fun a ha b hb e => ?_⟩
      rw [List.mem_singleton.1 hb] at e
      rw [e] at ha; exact hf.2 ha
theorem RmI.more {m n : Nat} {sec : Int} {taken R0 R1 ls A B : List (Int × Int)} (r : RmI m n sec taken R0 R1) (t : TkI R0 R1 ls A B) : RmI m n sec (taken ++ ls) A B := by
 refine ⟨fun a => ?_, fun a => ?_⟩
 ·rw [t.f0, r.f0, List.mem_append, not_or, and_assoc]
 ·rw [t.f1, r.f1, List.mem_append, not_or, and_assoc]
end Abs
end Go.Proofs.YtdebiolekbldiaaGreatDoor
namespace Go.Proofs.YtdebiolekbldiaaGreatDoor
namespace Abs
set_option linter.unusedVariables false
set_option linter.unusedSimpArgs false
open Go.RowKit
attribute [local irreducible] WO WC WD StepK Ans Does Runs DoesD
def Cas.want (K : Cas) (P : Pol) (a b : Int) (i : Nat) : List Int × Int := chooseR P (if 1 < K.do i then 1 else K.do i) (K.txt i).length a b
structure WantOk (K : Cas) (i : Nat) (w : List Int × Int) (ls : List (Int × Int)) (e : Int) : Prop where
 e : (K.do i = 0 ∨ K.do i = 1) → e = w.2
 l : (K.do i = 0 ∨ K.do i = 1) → ls.map (·.1) = w.1
theorem tk_two {R0 R1 : List (Int × Int)} {dl : List Int} (h0 : ∀ d ∈ dl, d = 0 ∨ d = 1) (hr : dl = [1, 0] ∧ R0 ≠ [] ∧ R1 ≠ [] ∨ dl = [1] ∧ R1 ≠ [] ∨ dl = [0] ∧ R0 ≠ []) : ∃ q, tk R0 R1 dl dl.length = some q := by
 rcases hr with ⟨rfl, a, b⟩ | ⟨rfl, b⟩ | ⟨rfl, a⟩
 ·obtain ⟨r, A, rfl⟩ := List.exists_cons_of_ne_nil a
  obtain ⟨r', B, rfl⟩ := List.exists_cons_of_ne_nil b
  exact ⟨_, rfl⟩
 ·obtain ⟨r', B, rfl⟩ := List.exists_cons_of_ne_nil b
  exact ⟨_, rfl⟩
 ·obtain ⟨r, A, rfl⟩ := List.exists_cons_of_ne_nil a
  exact ⟨_, rfl⟩
theorem RunOk.pos {R : List (Int × Int)} (o : RunOk R) (h : 0 < Abs.cnt R) : R ≠ [] := fun e => by
 have := o.cnt.2.2.2 e; omega
theorem stPut_want {P : Pol} {kind : Int} (hk : kind = 0 ∨ kind = 1) {t : List Nat} {R0 R1 : List (Int × Int)} (o0 : RunOk R0) (o1 : RunOk R1) :
  (∀ ls A B, stPutF P kind t R0 R1 = some (ls, A, B) → (chooseR P kind t.length (cnt R0) (cnt R1)).2 = 0 ∧ ls.map (·.1) = (chooseR P kind t.length (cnt R0) (cnt R1)).1 ∧ TkI R0 R1 ls A B ∧ ls.length ≤ 2) ∧
  (stPutF P kind t R0 R1 = none → chooseR P kind t.length (cnt R0) (cnt R1) = ([], 6)) := by
 rw [chooseR_eq hk]
 unfold stPutF
 rcases chooseF_dl P kind t.length (cnt R0) (cnt R1) with ⟨e, _⟩ | ⟨e, h⟩
 ·rw [e]
  exact ⟨fun ls A B q => (by cases q), fun _ => rfl⟩
 ·rw [if_pos e]
  have hd : ∀ d ∈ (chooseF P kind t.length (cnt R0) (cnt R1)).1, d = 0 ∨ d = 1 := by
   rcases h with ⟨h, _⟩ | ⟨h, _⟩ | ⟨h, _⟩ <;> rw [h] <;> simp
  have hl : (chooseF P kind t.length (cnt R0) (cnt R1)).1.length ≤ 2 := by
   rcases h with ⟨h, _⟩ | ⟨h, _⟩ | ⟨h, _⟩ <;> rw [h] <;> simp
  have hr : (chooseF P kind t.length (cnt R0) (cnt R1)).1 = [1, 0] ∧ R0 ≠ [] ∧ R1 ≠ [] ∨ (chooseF P kind t.length (cnt R0) (cnt R1)).1 = [1] ∧ R1 ≠ [] ∨ (chooseF P kind t.length (cnt R0) (cnt R1)).1 = [0] ∧ R0 ≠ [] := by
   rcases h with ⟨h, h1, h2⟩ | ⟨h, h1⟩ | ⟨h, h1⟩
   ·exact .inl ⟨h, o0.pos h1, o1.pos h2⟩
   ·exact .inr (.inl ⟨h, o1.pos h1⟩)
   ·exact .inr (.inr ⟨h, o0.pos h1⟩)
  refine ⟨fun ls A B q => ⟨e, ?_, tk_inv o0 o1 hd (Nat.le_refl _) q, ?_⟩, fun q => ?_⟩
  ·have := tk_distinct hd (Nat.le_refl _) q
   rw [List.take_length] at this
   exact this
  ·have := (tk_ok o0 o1 q).2.2.1
   dsimp only at this
   omega
  ·obtain ⟨x, hx⟩ := tk_two hd hr
   rw [hx] at q; cases q
theorem putO_want {K : Cas} {P : Pol} {i : Nat} {R0 R1 : List (Int × Int)} (o0 : RunOk R0) (o1 : RunOk R1) :
  (∀ ls A B, K.putO P R0 R1 i = some (ls, A, B) → WantOk K i (K.want P (cnt R0) (cnt R1) i) ls 0 ∧ TkI R0 R1 ls A B ∧ ls.length ≤ 2 ∧ RunOk A ∧ RunOk B) ∧
  (K.putO P R0 R1 i = none → WantOk K i (K.want P (cnt R0) (cnt R1) i) [] (K.putE i)) := by
 have hab : ∀ dl ls A B n, tk R0 R1 dl n = some (ls, A, B) → RunOk A ∧ RunOk B := fun dl ls A B n q => ⟨(tk_ok o0 o1 q).1, (tk_ok o0 o1 q).2.1⟩
 have hst : ∀ P kind t ls A B, stPutF P kind t R0 R1 = some (ls, A, B) → RunOk A ∧ RunOk B := fun P kind t ls A B q => by
  unfold stPutF at q
  split at q
  ·exact hab _ _ _ _ _ q
  ·cases q
 unfold Cas.putO Cas.putE Cas.want
 by_cases d0 : K.do i = 0
 ·rw [if_pos d0, if_pos d0, d0, if_neg (by decide)]
  obtain ⟨p1, p2⟩ := stPut_want (P := P) (t := K.txt i) (.inl rfl) o0 o1
  refine ⟨fun ls A B q => ?_, fun q => ?_⟩
  ·obtain ⟨q1, q2, q3, q4⟩ := p1 ls A B q
   exact ⟨⟨fun _ => q1.symm, fun _ => q2⟩, q3, q4, hst _ _ _ _ _ _ q⟩
  ·rw [p2 q]; exact ⟨fun _ => rfl, fun _ => rfl⟩
 rw [if_neg d0, if_neg d0]
 by_cases d1 : K.do i = 1
 ·rw [if_pos d1, if_pos d1, d1, if_neg (by decide)]
  obtain ⟨p1, p2⟩ := stPut_want (P := P) (t := K.txt i) (.inr rfl) o0 o1
  refine ⟨fun ls A B q => ?_, fun q => ?_⟩
  ·obtain ⟨q1, q2, q3, q4⟩ := p1 ls A B q
   exact ⟨⟨fun _ => q1.symm, fun _ => q2⟩, q3, q4, hst _ _ _ _ _ _ q⟩
  ·rw [p2 q]; exact ⟨fun _ => rfl, fun _ => rfl⟩
 rw [if_neg d1, if_neg d1]
 have hno : ∀ w ls e, WantOk K i w ls e := fun w ls e => ⟨fun q => by rcases q with q | q <;> contradiction, fun q => by rcases q with q | q <;> contradiction⟩
 unfold onF
 split
 ·rename_i hd
  refine ⟨fun ls A B q => ⟨hno _ _ _, tk_inv o0 o1 hd.2.2 (Nat.le_refl _) q, ?_, hab _ _ _ _ _ q⟩, fun q => hno _ _ _⟩
  have := (tk_ok o0 o1 q).2.2.1
  dsimp only at this
  have := hd.1.2
  omega
 ·exact ⟨fun ls A B q => (by cases q), fun q => hno _ _ _⟩
theorem Gl.grow {h h' : Heap} (G : Gl gl h) (g : Grow h h') : Gl gl h' := by
 intro b hb
 have e := G b hb
 rcases (baseH_get gl (by decide) b).1 hb with q | ⟨p, _, _, q⟩
 ·rw [q] at e ⊢; exact g.ext _ _ e
 ·rw [q] at e ⊢; exact g.ext _ _ e
theorem Gl.ro {h : Heap} (G : Gl gl h) : Ro h := by
 have e := G 0 (by decide)
 have q : (baseH gl).get 0 = some (.cells ((rootsN.map iN).map uv) .ro) := HT.get_set_same _ _ _
 rw [q] at e
 exact Ro.mk e (V.beqs_refl _)
structure StdS (C : Cfg) : Prop extends StdX C where
 live : ∀ h, Gl gl h → C.S 9 [] h = some (some (.bool true, h))
theorem live18_ans {C : Cfg} (S : StdS C) (h : Heap) (G : Gl gl h) : Ans C 9 [] h fun v h' => v = .bool true ∧ h' = h := Ans.sum (S.live h G) ⟨rfl, rfl⟩
end Abs
end Go.Proofs.YtdebiolekbldiaaGreatDoor
namespace Go.Proofs.YtdebiolekbldiaaGreatDoor
namespace Abs
set_option linter.unusedVariables false
set_option linter.unusedSimpArgs false
open Go.RowKit
attribute [local irreducible] WO WC WD StepK Ans Does Runs DoesD
structure XO (s b b0 b1 : Nat) (wv u0 u1 : V) (R0 R1 : List (Int × Int)) (x : V) : Prop where
 o : ∀ c ∈ [s, b, b0, b1], Off x c
 w : ∀ c, blkOf wv = some c → Off x c
 u0 : R0 ≠ [] → ∀ c, blkOf u0 = some c → Off x c
 u1 : R1 ≠ [] → ∀ c, blkOf u1 = some c → Off x c
theorem XO.nil (s b b0 b1 : Nat) (wv u0 u1 : V) (R0 R1 : List (Int × Int)) : XO s b b0 b1 wv u0 u1 R0 R1 (.slice none 0 0) := ⟨fun _ _ => Off.nil _, fun _ _ => Off.nil _, fun _ _ _ => Off.nil _, fun _ _ _ => Off.nil _⟩
theorem FrU.frm {h h' : Heap} {F : List Nat} {wv u x : V} {R : List (Int × Int)} (f : FrU h F wv u R) (fr : Frm x h h') (ho : R ≠ [] → ∀ c, blkOf u = some c → Off x c) : FrU h' F wv u R := by
 refine ⟨?_, f.ok, f.blk, f.one⟩
 by_cases hR : R = []
 ·subst hR; exact f.sl.nilKeep
 ·exact f.sl.keepB fun c hc ob q => fr c ob q (ho hR c hc)
section
variable {hB h h' : Heap} {s b b0 b1 : Nat} {wv : V} {D : Dv} {T : SV} {u0 u1 : V} {R0 R1 : List (Int × Int)}
theorem StAt.frm {z : V} (x : StAt hB h s b b0 b1 wv D T u0 u1 R0 R1) (fr : Frm z h h') (g : Grow hB h') (o : XO s b b0 b1 wv u0 u1 R0 R1 z) : StAt hB h' s b b0 b1 wv D T u0 u1 R0 R1 :=
 { x with
  g := g
  d := { x.d with B := Cl.frm x.d.B fr (o.o b (by simp)), S0 := x.d.S0.frm fr (o.o b0 (by simp)), S1 := x.d.S1.frm fr (o.o b1 (by simp)), W := x.d.W.keepB fun c hc ob q => fr c ob q (o.w c hc) }
  cs := x.cs.frm fr (o.o s (by simp))
  f0 := x.f0.frm fr o.u0
  f1 := x.f1.frm fr o.u1 }
theorem StAt.lt (x : StAt hB h s b b0 b1 wv D T u0 u1 R0 R1) : (∀ c ∈ [s, b, b0, b1], c < h.size) ∧ (∀ c, blkOf wv = some c → c < h.size) ∧ (R0 ≠ [] → ∀ c, blkOf u0 = some c → c < h.size) ∧ (R1 ≠ [] → ∀ c, blkOf u1 = some c → c < h.size) := by
 have hw := x.g.wf
 obtain ⟨lb, lb0, lb1⟩ := x.d.lt hw
 have ls := x.cs.lt hw
 refine ⟨fun c hc => ?_, fun c hc => x.d.W.blkLt hw hc, fun hR c hc => x.f0.sl.blk_lt hw (by simpa using hR) c hc, fun hR c hc => x.f1.sl.blk_lt hw (by simpa using hR) c hc⟩
 simp only [List.mem_cons, List.not_mem_nil, or_false] at hc
 rcases hc with rfl | rfl | rfl | rfl <;> assumption
theorem XO.app {z v : V} (x : StAt hB h s b b0 b1 wv D T u0 u1 R0 R1) (o : XO s b b0 b1 wv u0 u1 R0 R1 z) (hv : ∀ c, c < h.size → Off z c → Off v c) : XO s b b0 b1 wv u0 u1 R0 R1 v := by
 obtain ⟨l1, l2, l3, l4⟩ := x.lt
 exact ⟨fun c hc => hv c (l1 c hc) (o.o c hc), fun c hc => hv c (l2 c hc) (o.w c hc), fun hR c hc => hv c (l3 hR c hc) (o.u0 hR c hc), fun hR c hc => hv c (l4 hR c hc) (o.u1 hR c hc)⟩
theorem off_of {low sz : Nat} {es : List (List V)} {z : V} {hh : Heap} (g : Grown hh low sz z es) {c : Nat} (h : ∀ d, blkOf z = some d → d ≠ c) : Off z c := by
 intro b2 o l k q e
 subst e
 exact h b2 rfl
theorem off_blk {z : V} {c d : Nat} {low sz : Nat} {es : List (List V)} {hh : Heap} (g : Grown hh low sz z es) (o : Off z c) (hd : blkOf z = some d) : d ≠ c := by
 obtain ⟨_, ⟨rfl, _⟩ | ⟨b', S, ty, rfl, _, _, _⟩⟩ := g
 ·cases hd
 ·cases hd
  exact o _ _ _ _ _ rfl
theorem TkI.ne {ls A B : List (Int × Int)} (t : TkI R0 R1 ls A B) (oA : RunOk A) (oB : RunOk B) : (A ≠ [] → R0 ≠ []) ∧ (B ≠ [] → R1 ≠ []) := by
 refine ⟨fun h0 e => ?_, fun h0 e => ?_⟩
 ·obtain ⟨r, A', rfl⟩ := List.exists_cons_of_ne_nil h0
  obtain ⟨x, hx, _⟩ := ((t.f0 _).1 (fre_hd oA)).1
  rw [e] at hx; cases hx
 ·obtain ⟨r, A', rfl⟩ := List.exists_cons_of_ne_nil h0
  obtain ⟨x, hx, _⟩ := ((t.f1 _).1 (fre_hd oB)).1
  rw [e] at hx; cases hx
end
theorem putO_df {K : Cas} {P : Pol} {i : Nat} {R0 R1 : List (Int × Int)} (o0 : RunOk R0) (o1 : RunOk R1) {ls A B : List (Int × Int)} (h : K.putO P R0 R1 i = some (ls, A, B)) : ∀ a c, ls = [a, c] → a.1 ≠ c.1 := by
 intro a c hac
 have st : ∀ kind, kind = 0 ∨ kind = 1 → stPutF P kind (K.txt i) R0 R1 = some (ls, A, B) → a.1 ≠ c.1 := by
  intro kind hk h
  have h2 := ((stPut_want (P := P) (t := K.txt i) hk o0 o1).1 ls A B h).2.1
  rw [chooseR_eq hk] at h2
  rw [hac] at h2
  rcases chooseF_dl P kind (K.txt i).length (cnt R0) (cnt R1) with ⟨e, _⟩ | ⟨_, ⟨e, _⟩ | ⟨e, _⟩ | ⟨e, _⟩⟩
  ·rw [e] at h2; cases h2
  ·rw [e] at h2
   simp at h2
   rw [h2.1, h2.2]; decide
  ·rw [e] at h2; simp at h2
  ·rw [e] at h2; simp at h2
 unfold Cas.putO at h
 split at h
 ·exact st 0 (.inl rfl) h
 split at h
 ·exact st 1 (.inr rfl) h
 unfold onF at h
 split at h
 ·rename_i hd
  have := tk_distinct hd.2.2 (Nat.le_refl _) h
  rw [List.take_length] at this
  dsimp only at this
  rw [hac] at this
  have h2 : K.dvs.length = 2 := by rw [← this]; rfl
  have h3 := hd.2.1 h2
  rw [← this] at h3
  simpa using h3
 ·cases h
theorem room_put {hB h h' : Heap} {s b b0 b1 : Nat} {wv : V} {D : Dv} {T : SV} {u0 u1 : V} {R0 R1 : List (Int × Int)} (x : StAt hB h s b b0 b1 wv D T u0 u1 R0 R1) {K : Cas} (sm : K.small) {i : Nat} {r : V} (p : PutS hB h s b b0 b1 wv D T (K.txt i) u0 u1 (K.putE i) (K.putO T.P R0 R1 i) r h') {z : V} {E : List (List V)} (gz : Grown h hB.size 2 z E) (xo : XO s b b0 b1 wv u0 u1 R0 R1 z) :
  ∃ ref e ls A B wv' D' u0' u1', r = .tuple [.str ref, iv e] ∧ StAt hB h' s b b0 b1 wv' D' T u0' u1' A B ∧ Grown h' hB.size 2 z E ∧ XO s b b0 b1 wv' u0' u1' A B z ∧ WantOk K i (K.want T.P (cnt R0) (cnt R1) i) ls e ∧ TkI R0 R1 ls A B ∧ ls.length ≤ 2 ∧ D'.ws.length ≤ D.ws.length + 2 ∧ ((ref = [] ∧ ls = []) ∨ ∃ q : Ptr, q.ok ∧ Byt q.sum ∧ ref = encP q ∧ q.locs = ls) := by
 obtain ⟨w1, w2⟩ := putO_want (K := K) (P := T.P) (i := i) x.f0.ok x.f1.ok
 cases hq : K.putO T.P R0 R1 i with
 | none =>
  rw [hq] at p
  obtain ⟨rfl, g⟩ := p
  exact ⟨[], _, [], R0, R1, wv, D, u0, u1, rfl, x.grow g, gz.grow g, xo, w2 hq, ⟨by simp, by simp, by simp [c0], by simp [c1], by simp, List.nodup_nil⟩, by simp, by omega, .inl ⟨rfl, rfl⟩⟩
 | some q =>
  obtain ⟨ls, A, B⟩ := q
  have hdf := putO_df x.f0.ok x.f1.ok hq
  have hne := Cas.putO_ne x.f0.ok x.f1.ok _ hq
  obtain ⟨k1, k2, k3, oA, oB⟩ := w1 ls A B hq
  rw [hq] at p
  obtain ⟨rfl, wv', u0', u1', st, fr, p4, p5⟩ := p
  have hw := x.g.wf
  obtain ⟨n0, n1⟩ := k2.ne oA oB
  have hzw : ∀ c, blkOf z = some c → c ∉ [s, b, b0, b1] ∧ Off wv c ∧ c < h.size := fun c hc => by
   refine ⟨fun hm => off_blk gz (xo.o c hm) hc rfl, off_of x.d.W fun d hd e => ?_, gz.blkLt hw hc⟩
   subst e
   exact off_blk gz (xo.w d hd) hc rfl
  refine ⟨_, _, ls, A, B, wv', _, u0', u1', rfl, st, ?_, ?_, k1, k2, k3, ?_, .inr ⟨refP ls (K.txt i) T.txg, ?_, ofF_byt _, rfl, rfl⟩⟩
  ·exact gz.keepB fun c hc ob ho => fr.keep c ob ho (fun hm => (hzw c hc).1 (by simp at hm ⊢; rcases hm with e | e <;> simp [e])) (hzw c hc).2.1
  ·refine ⟨xo.o, fun c hc => off_of gz fun d hd e => ?_, fun hA c hc => ?_, fun hB' c hc => ?_⟩
   ·subst e
    have := fr.off d (hzw d hd).2.2 (hzw d hd).2.1
    exact off_blk st.d.W this hc rfl
   ·rcases p4 hA c hc with q | q
    ·exact xo.u0 (n0 hA) c q
    ·exact off_of gz fun d hd e => by have := (hzw d hd).2.2; omega
   ·rcases p5 hB' c hc with q | q
    ·exact xo.u1 (n1 hB') c q
    ·exact off_of gz fun d hd e => by have := (hzw d hd).2.2; omega
  ·simp only [Dv.more, wrs, List.length_append, List.length_map]; omega
  ·have hl1 : 1 ≤ ls.length := by
    have : ls.length ≠ 0 := fun e => hne (List.length_eq_zero_iff.1 e)
    omega
   have htl := K.txt_len sm i
   refine ⟨hl1, k3, fun l hl => ?_, hdf, ?_, x.tx, ofF_len _⟩
   ·rcases k2.fr l hl with ⟨e, f⟩ | ⟨e, f⟩
    ·have := fre_bd x.f0.ok f; exact ⟨by omega, by omega⟩
    ·have := fre_bd x.f1.ok f; exact ⟨by omega, by omega⟩
   ·show (0 : Int) ≤ ((K.txt i).length : Int) ∧ ((K.txt i).length : Int) ≤ 960
    omega
end Abs
end Go.Proofs.YtdebiolekbldiaaGreatDoor
namespace Go.Proofs.YtdebiolekbldiaaGreatDoor
namespace Abs
set_option linter.unusedVariables false
set_option linter.unusedSimpArgs false
open Go.RowKit
attribute [local irreducible] WO WC WD StepK Ans Does Runs DoesD
theorem more_loc {hB h : Heap} (hw : Wf hB) (g : Grow hB h) {x : V} {L : List (Int × Int)} (gx : Grown h hB.size 2 x (L.map rn)) (hL : L.length ≤ 100000) (l : Int × Int) :
  ∃ v h', appendA (h.push (.cells (rn l) (.tip [] 0 none))) 2 16 none x (.slice (some (h.size, 0)) 1 1) = some (v, h') ∧ Grown h' hB.size 2 v ((L ++ [l]).map rn) ∧ Grow hB h' ∧ Frm x h h' ∧ (∀ c, c < h.size → Off x c → Off v c) ∧ h.size ≤ h'.size := by
 have gp := (Grow.refl g.wf).push (.cells (rn l) (.tip [] 0 none))
 have hnew : (h.push (.cells (rn l) (.tip [] 0 none))).get h.size = some (.cells (rn l) (.tip [] 0 none)) := get_push_self _ _
 obtain ⟨v, h', a1, a2, a3, a4, a5⟩ := Grown.append2 (bytes := 16) (tyK := none) hw (g.trans gp) (gx.grow gp) (sl_one hnew rfl) (by decide) (by decide) (by rw [List.length_map]; exact decide_eq_true (by simp; omega)) (fun c hc v hv => by
  obtain rfl := List.mem_singleton.1 hc
  simp at hv; rcases hv with rfl | rfl <;> rfl)
 have sz := gp.size
 refine ⟨v, h', a1, ?_, a3, fun b o q ho => a4 b o (gp.ext _ _ q) ho, fun c hc ho => a5 c (by omega) ho, ?_⟩
 ·rw [List.map_append]; exact a2
 ·have := append_size a1; omega
structure RmS where
 i : Nat
 z : V
 wv : V
 D : Dv
 u0 : V
 u1 : V
 R0 : List (Int × Int)
 R1 : List (Int × Int)
 tk : List (Int × Int)
section
variable {C : Cfg} (S : StdS C)
include S
theorem storeRoom_ans (h : Heap) (hw : Wf h) (G : Gl gl h) (K : Cas) (y : Cas4) (ca : CasAt h K y) :
  Ans C 4 [.agg (K.v y)] h fun r h' => r = .bool true ∧ Grow h h' := by
 have hF : C.F 4 = some a4 := S.f rfl
 unfold a4 at hF
 have hSm := S.hm
 refine Ans.val (fun _ _ => S.s _ _ _ rfl) hF rfl rfl hw fun h2 g2 => ?_
 clear hF
 have out : ∀ {e' : List (Nat × V)} {h' : Heap} {Q : Ex → List (Nat × V) → Heap → Prop} {t : Nat}, Grow h h' → t ≠ 2 → (∀ e'' h'', Env.get e'' 2 = some (.bool true) → Grow h h'' → Q .ret e'' h'') →
   WC C (.seq (.ops [⟨(some t), none, .call (.c (.func (.func 9) [] [])) []⟩, ⟨(some 2), none, .mv (.t t)⟩]) .ret) e' h' Q := by
  intro e' h' Q t g ht hQ
  refine WC.seqO ?_
  refine WO.call rfl rfl (live18_ans S h' (G.grow g)) ?_
  rintro _ _ ⟨rfl, rfl⟩
  refine WO.ops (StepK.mv (v := .bool true) (by simp [evE, Env.get])) <| WO.nil (WC.ret (hQ _ _ ?_ g))
  simp [Env.get]
 have fin : ∀ (e'' : List (Nat × V)) (h'' : Heap), Env.get e'' 2 = some (.bool true) → Grow h h'' → Fin .ret ∧ Grow h h'' ∧ retE e'' h'' [.tmp 2] = some (.bool true) := by
  intro e'' h'' he g
  refine ⟨trivial, g, ?_⟩
  simp only [retE, ressE, resE, he]; rfl
 refine WC.seqO (WO.ops (StepK.box rfl) ?_)
 have cp : Cl (h2.push (.cells (K.v y) (.tip [] 0 none))) h2.size (K.v y) := Cl.new _ _ _
 have g3 := g2.push (.cells (K.v y) (.tip [] 0 none))
 change WO C _ _ (h2.push (.cells (K.v y) (.tip [] 0 none))) _
 generalize h2.push (.cells (K.v y) (.tip [] 0 none)) = h3 at *
 generalize h2.size = p at *
 have ca3 := ca.grow g3
 refine omv rfl <| WO.nil <| WC.seqO <| WO.ops (StepK.loadN rfl (cp.rds rfl)) ?_
 refine WO.call rfl rfl (l18open_ans S.toStdX hSm h3 g3.wf (G.grow g3).ro K y ca3) ?_
 rintro r h4 ⟨hbad, hgood⟩
 by_cases good : K.good
 rotate_left
 ·obtain ⟨rfl, g34⟩ := hbad good
  exact omv rfl <| oex rfl rfl <| oex rfl rfl <| omv rfl <| omv rfl <| WO.nil <| WC.seq <| WC.seqO <| omv rfl <| ont rfl <| WO.nil <| WC.cond rfl (fun _ => out (g3.trans g34) (by decide) fin) (fun hc => by cases hc)
 obtain ⟨hB, s, b, b0, b1, T, u0, u1, rfl, g3B, g34, st, eP, eT, _⟩ := hgood good
 have hw0 : Wf hB := g3B.wf
 have g0B := g3.trans g3B
 have roB : Ro hB := (G.grow g0B).ro
 have caB := ca3.grow g3B
 have cpB := cp.grow g3B
 obtain ⟨sm, ⟨hm, hn⟩, hP, hus⟩ := good
 obtain ⟨m, em⟩ : ∃ m : Nat, K.m = m := ⟨K.m.toNat, by omega⟩
 obtain ⟨n, en⟩ : ∃ n : Nat, K.n = n := ⟨K.n.toNat, by omega⟩
 have tm : K.m.toNat = m := by omega
 have tn : K.n.toNat = n := by omega
 rw [tm, tn] at hus
 have eReg : K.reg = regN K.P.sec n := by unfold Cas.reg; rw [tn]
 rw [tm, tn, eReg] at st
 have hs0 : 0 ≤ K.P.sec := hP.2.2.1
 have hm5 : m ≤ 512 := by omega
 have hn5 : n ≤ 512 := by omega
 have rI := rmI0 m n K.P.sec hs0 hm5 hn5 K.us
 obtain ⟨n0, n1⟩ := cnt_us m n K.P.sec hs0 hm5 hn5 K.us hus
 have e0 : cnt (TM0 m n (regN K.P.sec n) K.us 0) = cntM m n K.P.sec 0 512 - c0 (tkUs m n K.P.sec K.us) := by rw [TM0_cnt hm5 hn5, ← n0]; rfl
 have e1 : cnt (TM0 m n (regN K.P.sec n) K.us 1) = cntM m n K.P.sec 1 512 - c1 (tkUs m n K.P.sec K.us) := by rw [TM0_cnt hm5 hn5, ← n1]; rfl
 generalize TM0 m n (regN K.P.sec n) K.us 0 = R0 at *
 generalize TM0 m n (regN K.P.sec n) K.us 1 = R1 at *
 clear n0 n1
 refine omv rfl <| oex rfl rfl <| oex rfl rfl <| omv rfl <| omv rfl <| WO.nil <| WC.seq <| WC.seqO <| omv rfl <| ont rfl <| WO.nil <| WC.cond rfl (fun hc => by cases hc) (fun _ => WC.skip <| WC.seqO ?_)
 have fB : ∀ hh, Grow hB hh → hh.rd p (0 + 0) = some (iv m) ∧ hh.rd p (0 + 1) = some (iv n) ∧ hh.rd p (0 + 2 + 4) = some (iv K.P.sec) ∧ hh.rd p (0 + 7) = some y.u ∧ hh.rd p (0 + 8) = some y.t ∧ hh.rd p (0 + 9) = some y.d ∧ hh.rds p (0 + 2) 5 = some K.P.v ∧ hh.rds p 0 11 = some (K.v y) := fun hh gg => by
  have c := cpB.grow gg
  refine ⟨?_, ?_, c.rd (i := 6) rfl, c.rd (i := 7) rfl, c.rd (i := 8) rfl, c.rd (i := 9) rfl, Cl.rdsAt c (o := 2) (n := 5) (by simp [Cas.v]), c.rds rfl⟩
  ·rw [← em]; exact c.rd (i := 0) rfl
  ·rw [← en]; exact c.rd (i := 1) rfl
 obtain ⟨a0, a1, a6, a7, _⟩ := fB h4 st.g
 refine ofa rfl <| old rfl a0 <| ofa rfl <| old rfl a1 <| ofa rfl <| ofa rfl <| old rfl a6 ?_
 refine WO.call rfl rfl (r18room_ans S.toStdO h4 st.g.wf m n K.P.sec ⟨by omega, by omega⟩ ⟨hs0, by have := hP.2.2.2; omega⟩) ?_
 rintro _ h5 ⟨rfl, g45⟩
 have st5 := st.grow g45
 have bA := cntM_bd m n K.P.sec 0 512
 have bB := cntM_bd m n K.P.sec 1 512
 generalize cntM m n K.P.sec 0 512 = cA at *
 generalize cntM m n K.P.sec 1 512 = cB at *
 refine omv rfl <| oex rfl rfl <| oex rfl rfl <| omv rfl <| omv rfl <| WO.nil <| WC.seqO <| omv rfl <| WO.nil <| WC.seq <| WC.seqO <| omv rfl <| WO.nil <| WC.block ?_
 have lu : slLen y.u = some K.us.length := by have := ca.u.len; simpa using this
 have hul : K.us.length ≤ 100 := sm.2.1
 have szB := st5.g.size
 refine WC.loop (σ := Nat × V) (fun q => [(1, .ptr (some (p, 0))), (3, .ptr (some (s, 0))), (5, iv (cA)), (6, iv (cB)), (7, q.2), (8, iv q.1)])
  (fun q hh => q.1 ≤ K.us.length ∧ StAt hB hh s b b0 b1 (.slice none 0 0) (Dv.new m n) T u0 u1 R0 R1 ∧ Grown hh hB.size 2 q.2 ((tkUs m n K.P.sec (K.us.take q.1)).map rn) ∧ XO s b b0 b1 (.slice none 0 0) u0 u1 R0 R1 q.2) (fun q => K.us.length - q.1) (0, .slice none 0 0)
  (Cov.cons rfl (Cov.cons rfl (Cov.cons rfl (Cov.cons rfl (Cov.cons rfl (Cov.cons rfl (Cov.nil _))))))) ⟨by dsimp only; omega, st5, Grown.nil _ _ _, XO.nil _ _ _ _ _ _ _ _ _⟩ ?_
 clear st st5 a0 a1 a6 a7
 rintro ⟨j, z⟩ h6 ⟨hj, st6, gz, oz⟩
 dsimp only at hj gz oz
 obtain ⟨a0, a1, a6, a7, _⟩ := fB h6 st6.g
 refine WC.seq <| WC.seqO <| omv rfl <| ofa rfl <| old rfl a7 <| ols rfl lu ?_
 by_cases hlt : j < K.us.length
 ·refine obn rfl rfl (ltT (by dsimp only; omega)) <| WO.nil <| WC.cond rfl (fun _ => WC.skip ?_) (fun hc => by cases hc)
  obtain ⟨c, of, k1, k2⟩ := (caB.grow st6.g).u.at (i := j) (by simpa using hlt)
  rw [List.getElem_map] at k2
  have htk : K.us.take (j + 1) = K.us.take j ++ [K.us[j]] := by rw [List.take_succ_eq_append_getElem hlt]
  generalize K.us[j] = l at *
  have hL := tkUs_len m n K.P.sec (K.us.take j)
  rw [List.length_take] at hL
  have hsn := tkUs_snoc m n K.P.sec (K.us.take j) l
  rw [← htk] at hsn
  generalize tkUs m n K.P.sec (K.us.take j) = L at *
  refine WC.seq <| WC.block <| WC.seqD <| dmv rfl <| dfa rfl <| WD.load1 rfl a7 <| dmv rfl <| WD.pure (StepK.idxSl rfl rfl k1) rfl <| WD.loadN rfl k2 ?_
  refine WD.call (by repeat (first | exact trivial | refine ⟨by with_reducible assumption, ?_⟩)) rfl rfl (r18in_ans S.toStdO h6 st6.g.wf z L gz.sl (by omega) l) ?_
  rintro _ h7 ⟨rfl, g67⟩
  have st7 := st6.grow g67
  have gz7 := gz.grow g67
  have go : ∀ e' : List (Nat × V), Cov [(1, .ptr (some (p, 0))), (3, .ptr (some (s, 0))), (5, iv (cA)), (6, iv (cB)), (7, z), (8, iv j)] e' → ∀ hh, Grow h6 hh → tkS m n K.P.sec L l = L → WC C (.ops [⟨(some 44), none, .mv (.t 8)⟩, ⟨(some 45), none, .bin .add (.t 44) (.c (.int .i64 (1)))⟩, ⟨(some 8), none, .mv (.t 45)⟩]) e' hh (fun x e' h' => match x with | .normal => ∃ s' : Nat × V, Cov [(1, .ptr (some (p, 0))), (3, .ptr (some (s, 0))), (5, iv (cA)), (6, iv (cB)), (7, s'.2), (8, iv s'.1)] e' ∧ (s'.1 ≤ K.us.length ∧ StAt hB h' s b b0 b1 (.slice none 0 0) (Dv.new m n) T u0 u1 R0 R1 ∧ Grown h' hB.size 2 s'.2 ((tkUs m n K.P.sec (K.us.take s'.1)).map rn) ∧ XO s b b0 b1 (.slice none 0 0) u0 u1 R0 R1 s'.2) ∧ K.us.length - s'.1 < K.us.length - j | x => False) := fun e' hc hh gg hsame =>
   WC.cov hc <| WC.ops <| omv rfl <| oad rfl rfl (by omega) <| omv rfl <| WO.nil ⟨(j + 1, z), Cov.cons rfl (Cov.cons rfl (Cov.cons rfl (Cov.cons rfl (Cov.cons rfl (Cov.cons rfl (Cov.nil _)))))), ⟨by dsimp only; omega, st6.grow gg, by dsimp only; rw [hsn, hsame]; exact gz.grow gg, oz⟩, by dsimp only; omega⟩
  have down : ∀ {x : Ex} {e1 : List (Nat × V)} {h1 : Heap} {A : Prop}, (match x with | .normal => A | x => False) → x = .normal ∧ A := fun {x e1 h1 A} hx => by cases x <;> first | exact ⟨rfl, hx⟩ | exact hx.elim
  refine dnt rfl <| dmv rfl ?_
  have a7' := g67.rd a7
  have k2' := g67.rds k2
  cases hin : L.contains l with
  | true =>
   (repeat (first | refine dmv rfl ?_ | refine dls rfl (by first | with_reducible assumption | rfl) ?_ | refine dfa rfl ?_ | refine dad rfl rfl (by omega) ?_ | refine dsb rfl rfl (by omega) ?_ | refine dbn rfl rfl rfl ?_ | refine dpt rfl rfl ?_ | refine dpf rfl rfl ?_ | refine dnt rfl ?_ | refine deq rfl rfl rfl ?_ | refine dex rfl rfl ?_ | refine dbu rfl rfl ?_ | refine dfd rfl rfl ?_ | refine dlt rfl ?_ | refine dnk rfl ?_ | refine WD.load1 rfl (by first | with_reducible assumption | rfl) ?_ | refine WD.run rfl ?_ | refine WD.skipn rfl rfl rfl ?_ | refine WD.skipun rfl rfl ?_))
   refine WD.skip (fun _ => (by repeat (first | exact trivial | refine ⟨by with_reducible assumption, ?_⟩))) rfl rfl ?_
   (repeat (first | refine dmv rfl ?_ | refine dls rfl (by first | with_reducible assumption | rfl) ?_ | refine dfa rfl ?_ | refine dad rfl rfl (by omega) ?_ | refine dsb rfl rfl (by omega) ?_ | refine dbn rfl rfl rfl ?_ | refine dpt rfl rfl ?_ | refine dpf rfl rfl ?_ | refine dnt rfl ?_ | refine deq rfl rfl rfl ?_ | refine dex rfl rfl ?_ | refine dbu rfl rfl ?_ | refine dfd rfl rfl ?_ | refine dlt rfl ?_ | refine dnk rfl ?_ | refine WD.load1 rfl (by first | with_reducible assumption | rfl) ?_ | refine WD.run rfl ?_ | refine WD.skipn rfl rfl rfl ?_ | refine WD.skipun rfl rfl ?_))
   refine WD.nil (by repeat (first | exact trivial | refine ⟨by with_reducible assumption, ?_⟩)) <| WC.cond rfl (fun hc => by cases hc) (fun _ => WC.skip ((go _ (Cov.cons rfl (Cov.cons rfl (Cov.cons rfl (Cov.cons rfl (Cov.cons rfl (Cov.cons rfl (Cov.nil _))))))) _ g67 ?_).mono ?_))
   ·unfold tkS; rw [hin, if_neg (by simp)]
   ·intro x e1 h1 hx; cases x <;> first | exact hx | exact hx.elim
  | false =>
   obtain ⟨d0, d1, d6, d7, _⟩ := fB h7 st7.g
   refine WD.run rfl <| dfa rfl <| WD.run rfl <| WD.load1 rfl d7 <| WD.run rfl <| dmv rfl <| WD.run rfl <| WD.pure (StepK.idxSl rfl rfl k1) rfl <| WD.run rfl <| WD.loadN rfl k2' <| WD.run rfl <| dfa rfl <| WD.run rfl <| WD.load1 rfl d0 <| WD.run rfl <| dfa rfl <| WD.run rfl <| WD.load1 rfl d1 <| WD.run rfl <| dfa rfl <| WD.run rfl <| dfa rfl <| WD.run rfl <| WD.load1 rfl d6 <| WD.run rfl ?_
   refine WD.call (by repeat (first | exact trivial | refine ⟨by with_reducible assumption, ?_⟩)) rfl rfl (r18may_ans S.toStdO h7 st7.g.wf l m n K.P.sec ⟨by omega, by omega⟩ ⟨hs0, by have := hP.2.2.2; omega⟩) ?_
   rintro _ h8 ⟨rfl, g78⟩
   have st8 := st7.grow g78
   have gz8 := gz7.grow g78
   obtain ⟨b0', b1', b6', b7', _⟩ := fB h8 st8.g
   have k2'' := g78.rds k2'
   cases hmay : mayF m n K.P.sec l with
   | false =>
    refine dpt rfl rfl <| WD.nil (by repeat (first | exact trivial | refine ⟨by with_reducible assumption, ?_⟩)) <| WC.cond rfl (fun hc => by cases hc) (fun _ => WC.skip ((go _ (Cov.cons rfl (Cov.cons rfl (Cov.cons rfl (Cov.cons rfl (Cov.cons rfl (Cov.cons rfl (Cov.nil _))))))) _ (g67.trans g78) ?_).mono ?_))
    ·unfold tkS; rw [hmay, if_neg (by simp)]
    ·intro x e1 h1 hx; cases x <;> first | exact hx | exact hx.elim
   | true =>
    refine dpt rfl rfl <| WD.nil (by repeat (first | exact trivial | refine ⟨by with_reducible assumption, ?_⟩)) <| WC.cond rfl (fun _ => WC.ops ?_) (fun hc => by cases hc)
    obtain ⟨v, h9, q1, q2, q3, q4, q5, q6⟩ := more_loc hw0 st8.g gz8 (by omega) l
    refine omv rfl <| ofa rfl <| old rfl b7' <| omv rfl <| WO.ops (StepK.idxSl rfl rfl k1) <| WO.ops (StepK.loadN rfl k2'') <| WO.ops (StepK.buildSl rfl rfl) <| WO.ops (StepK.append rfl rfl q1) <| omv rfl <| WO.nil <| WC.ops ?_
    refine omv rfl <| oad rfl rfl (by omega) <| omv rfl <| WO.nil ⟨(j + 1, v), Cov.cons rfl (Cov.cons rfl (Cov.cons rfl (Cov.cons rfl (Cov.cons rfl (Cov.cons rfl (Cov.nil _)))))), ⟨by dsimp only; omega, st8.frm q4 q3 oz, ?_, oz.app st8 q5⟩, by dsimp only; omega⟩
    dsimp only
    rw [hsn]; unfold tkS; rw [if_pos ⟨hin, hmay⟩]; exact q2
 obtain rfl : j = K.us.length := by omega
 rw [List.take_length] at gz
 refine obn rfl rfl (ltF (by dsimp only; omega)) <| WO.nil <| WC.cond rfl (fun hc => by cases hc) (fun _ => WC.exit ?_)
 generalize hTk : tkUs m n K.P.sec K.us = tk0 at *
 have hL0 : tk0.length ≤ 100 := by have := tkUs_len m n K.P.sec K.us; rw [hTk] at this; omega
 clear a0 a1 a6 a7 lu
 have hzl : slLen z = some tk0.length := by have := gz.sl.len; simpa using this
 refine WC.seq <| WC.seqO <| omv rfl <| WO.nil <| WC.block ?_
 refine WC.loop (σ := Nat) (fun q => [(1, .ptr (some (p, 0))), (3, .ptr (some (s, 0))), (5, iv (cA - c0 (tk0.take q))), (6, iv (cB - c1 (tk0.take q))), (7, z), (9, iv q)])
  (fun q hh => q ≤ tk0.length ∧ hh = h6) (fun q => tk0.length - q) 0
  (Cov.cons rfl (Cov.cons rfl (Cov.cons (by simp [Env.get, c0]) (Cov.cons (by simp [Env.get, c1]) (Cov.cons rfl (Cov.cons rfl (Cov.nil _))))))) ⟨by omega, rfl⟩ ?_
 rintro j hh ⟨hj, hhe⟩
 rw [hhe]
 have cle : ∀ L : List (Int × Int), 0 ≤ c0 L ∧ c0 L ≤ L.length ∧ 0 ≤ c1 L ∧ c1 L ≤ L.length := fun L => by
  unfold c0 c1
  have h1 := List.countP_le_length (p := fun l : Int × Int => decide (l.1 = 0)) (l := L)
  have h2 := List.countP_le_length (p := fun l : Int × Int => !decide (l.1 = 0)) (l := L)
  omega
 have cj := cle (tk0.take j)
 rw [List.length_take] at cj
 refine WC.seq <| WC.seqO <| omv rfl <| omv rfl <| ols rfl hzl ?_
 by_cases hlt : j < tk0.length
 ·refine obn rfl rfl (ltT (by omega)) <| WO.nil <| WC.cond rfl (fun _ => WC.skip ?_) (fun hc => by cases hc)
  obtain ⟨c, of, k1, k2⟩ := gz.sl.at (i := j) (by simpa using hlt)
  rw [List.getElem_map] at k2
  have htk : tk0.take (j + 1) = tk0.take j ++ [tk0[j]] := by rw [List.take_succ_eq_append_getElem hlt]
  generalize tk0[j] = l at *
  have k3 : h6.rd c (of + 0) = some (iv l.1) := rds_rd k2 (j := 0) rfl
  refine WC.seq <| WC.block <| WC.seqO <| omv rfl <| omv rfl <| WO.ops (StepK.idxSl rfl rfl k1) <| ofa rfl <| old rfl k3 ?_
  by_cases hd : l.1 = 0
  ·refine obn rfl rfl (eqT hd) <| WO.nil <| WC.cond rfl (fun _ => WC.ops <| omv rfl <| osb rfl rfl (by omega) <| omv rfl <| WO.nil <| WC.ops <| omv rfl <| oad rfl rfl (by omega) <| omv rfl <| WO.nil ⟨j + 1, Cov.cons rfl (Cov.cons rfl (Cov.cons ?_ (Cov.cons ?_ (Cov.cons rfl (Cov.cons rfl (Cov.nil _)))))), ⟨by omega, rfl⟩, by omega⟩) (fun hc => by cases hc)
   ·rw [htk, c0_snoc, if_pos hd]
    show some (iv _) = some (iv _)
    congr 2; omega
   ·rw [htk, c1_snoc, if_pos hd, Int.add_zero]; rfl
  ·refine obn rfl rfl (eqF hd) <| WO.nil <| WC.cond rfl (fun hc => by cases hc) (fun _ => WC.ops <| omv rfl <| osb rfl rfl (by omega) <| omv rfl <| WO.nil <| WC.ops <| omv rfl <| oad rfl rfl (by omega) <| omv rfl <| WO.nil ⟨j + 1, Cov.cons rfl (Cov.cons rfl (Cov.cons ?_ (Cov.cons ?_ (Cov.cons rfl (Cov.cons rfl (Cov.nil _)))))), ⟨by omega, rfl⟩, by omega⟩)
   ·rw [htk, c0_snoc, if_neg hd, Int.add_zero]; rfl
   ·rw [htk, c1_snoc, if_neg hd]
    show some (iv _) = some (iv _)
    congr 2; omega
 obtain rfl : j = tk0.length := by omega
 rw [List.take_length, ← e0, ← e1]
 refine obn rfl rfl (ltF (by omega)) <| WO.nil <| WC.cond rfl (fun hc => by cases hc) (fun _ => WC.exit ?_)
 have lt : slLen y.t = some K.ts.length := by have := ca.t.len; simpa using this
 have ld : slLen y.d = some K.dos.length := by have := ca.d.len; simpa [ints] using this
 have htl := short_len sm.1
 refine WC.seq <| WC.seqO <| omv rfl <| WO.nil <| WC.block ?_
 refine WC.loop (σ := RmS) (fun q => [(1, .ptr (some (p, 0))), (3, .ptr (some (s, 0))), (5, iv (cnt q.R0)), (6, iv (cnt q.R1)), (7, q.z), (10, iv q.i)])
  (fun q hh => q.i ≤ K.ts.length ∧ StAt hB hh s b b0 b1 q.wv q.D T q.u0 q.u1 q.R0 q.R1 ∧ Grown hh hB.size 2 q.z (q.tk.map rn) ∧ XO s b b0 b1 q.wv q.u0 q.u1 q.R0 q.R1 q.z ∧ RmI m n K.P.sec q.tk q.R0 q.R1 ∧ q.D.ws.length ≤ 2 * q.i ∧ q.tk.length ≤ 100 + 2 * q.i) (fun q => K.ts.length - q.i) ⟨0, z, .slice none 0 0, Dv.new m n, u0, u1, R0, R1, tk0⟩
  (Cov.cons rfl (Cov.cons rfl (Cov.cons rfl (Cov.cons rfl (Cov.cons rfl (Cov.cons rfl (Cov.nil _))))))) ⟨Nat.zero_le _, st6, gz, oz, rI, by simp [Dv.new], by omega⟩ ?_
 clear st6 gz oz rI hzl e0 e1 bA bB cj hj hhe hgood hbad hlt
 rintro ⟨i, z, wv, D, u0, u1, R0, R1, tk⟩ h6 ⟨hi, st6, gz, oz, rI, hD, htkl⟩
 dsimp only at hi st6 gz oz rI hD htkl
 obtain ⟨a0, a1, a6, a7, a8, a9, aP, aK⟩ := fB h6 st6.g
 refine WC.seq <| WC.seqO <| omv rfl <| ofa rfl <| old rfl a8 <| ols rfl lt ?_
 by_cases hlt : i < K.ts.length
 rotate_left
 ·exact obn rfl rfl (ltF (by dsimp only; omega)) <| WO.nil <| WC.cond rfl (fun hc => by cases hc) (fun _ => WC.exit <| out (g0B.trans st6.g) (by decide) fin)
 refine obn rfl rfl (ltT (by dsimp only; omega)) <| WO.nil <| WC.cond rfl (fun _ => WC.skip ?_) (fun hc => by cases hc)
 refine WC.seq <| WC.block <| WC.seqO <| omv rfl ?_
 refine WO.call rfl rfl (free_ans S.toStdO hB h6 s b b0 b1 wv D T u0 u1 R0 R1 st6) ?_
 rintro _ h7 ⟨rfl, g67⟩
 have st7 := st6.grow g67
 have gz7 := gz.grow g67
 obtain ⟨a0, a1, a6, a7, a8, a9, aP, aK⟩ := fB h7 st7.g
 refine omv rfl <| oex rfl rfl <| oex rfl rfl <| omv rfl <| omv rfl <| WO.nil <| WC.seq <| WC.seqO ?_
 refine omv rfl <| omv rfl <| obn rfl rfl (neF rfl) <| omv rfl <| WO.run rfl <| omv rfl <| WO.run rfl <| omv rfl <| WO.run rfl <| obn rfl rfl (neF rfl) <| opf rfl rfl <| WO.nil <| WC.cond rfl (fun hc => by cases hc) (fun _ => WC.skip <| WC.seqO <| omv rfl <| WO.nil ?_)
 refine WC.seqM (M := fun e' h' => Cov [(1, .ptr (some (p, 0))), (3, .ptr (some (s, 0))), (5, iv (cnt R0)), (6, iv (cnt R1)), (7, z), (10, iv i), (13, iv (K.do i))] e' ∧ h' = h7) (WC.seqO ?_) ?_
 ·refine omv rfl <| ofa rfl <| old rfl a9 <| ols rfl ld ?_
  by_cases hd : i < K.dos.length
  ·obtain ⟨cd, od, j1, j2⟩ := (caB.grow st7.g).d.at (i := i) (by simpa [ints] using hd)
   rw [ints_at hd] at j2
   have j3 : h7.rd cd od = some (iv K.dos[i]) := rds_rd j2 (j := 0) rfl
   refine obn rfl rfl (ltT (by dsimp only; omega)) <| WO.nil <| WC.cond rfl (fun _ => WC.ops <| ofa rfl <| old rfl a9 <| omv rfl <| WO.ops (StepK.idxSl rfl rfl j1) <| old rfl j3 <| omv rfl <| WO.nil ⟨Cov.cons rfl (Cov.cons rfl (Cov.cons rfl (Cov.cons rfl (Cov.cons rfl (Cov.cons rfl (Cov.cons ?_ (Cov.nil _))))))), rfl⟩) (fun hc => by cases hc)
   unfold Cas.do
   rw [if_pos hd, List.getD_eq_getElem?_getD, List.getElem?_eq_getElem hd]; rfl
  ·refine obn rfl rfl (ltF (by dsimp only; omega)) <| WO.nil <| WC.cond rfl (fun hc => by cases hc) (fun _ => WC.skip ⟨Cov.cons rfl (Cov.cons rfl (Cov.cons rfl (Cov.cons rfl (Cov.cons rfl (Cov.cons rfl (Cov.cons ?_ (Cov.nil _))))))), rfl⟩)
   unfold Cas.do
   rw [if_neg hd]; rfl
 rintro e' h' ⟨hcov, hh⟩
 rw [hh]
 refine WC.cov hcov <| WC.seqO <| omv rfl <| WO.ops (StepK.loadN rfl aK) <| omv rfl ?_
 refine WO.call rfl rfl (l18put_ans S.toStdO hSm hB h7 hw0 roB s b b0 b1 wv D T u0 u1 R0 R1 st7 (by omega) K y (caB.grow st7.g) sm i hlt) ?_
 rintro r h8 hr
 obtain ⟨ref, e, ls, A, B, wv', D', u0', u1', rfl, st8, gz8, oz8, hwant, tI, hl2, hD8, href⟩ := room_put st7 sm hr gz7 oz
 rw [eP] at hwant
 have oR0 := st7.f0.ok
 have oR1 := st7.f1.ok
 clear hr
 obtain ⟨a0, a1, a6, a7, a8, a9, aP, aK⟩ := fB h8 st8.g
 refine omv rfl <| oex rfl rfl <| oex rfl rfl <| omv rfl <| omv rfl <| WO.nil <| WC.seqD ?_
 obtain ⟨ct, ot, k1, k2⟩ := (caB.grow st8.g).t.at (i := i) (by simpa using hlt)
 rw [List.getElem_map] at k2
 have et : K.ts[i] = K.txt i := by unfold Cas.txt; rw [List.getD_eq_getElem?_getD, List.getElem?_eq_getElem hlt]; rfl
 rw [et] at k2
 have k3 : h8.rd ct ot = some (.str (K.txt i)) := rds_rd k2 (j := 0) rfl
 refine dfa rfl <| WD.loadN rfl aP <| dmv rfl <| dmn rfl rfl <| dfa rfl <| WD.load1 rfl a8 <| dmv rfl <| WD.pure (StepK.idxSl rfl rfl k1) rfl <| WD.load1 rfl k3 <| dlt rfl <| dmv rfl <| dmv rfl <| WD.alloc rfl (StepK.buildSl rfl rfl) ?_
 have sl9 : Sl (h8.push (.cells [iv (cnt R0), iv (cnt R1)] (.tip [] 0 none))) 1 (.slice (some (h8.size, 0)) 2 2) (ints [cnt R0, cnt R1]) := new_ret (h := h8) rfl rfl
 have new9 : (h8.push (.cells [iv (cnt R0), iv (cnt R1)] (.tip [] 0 none))).get h8.size = some (.cells [iv (cnt R0), iv (cnt R1)] (.tip [] 0 none)) := get_push_self _ _
 have g89 := (Grow.refl st8.g.wf).push (.cells [iv (cnt R0), iv (cnt R1)] (.tip [] 0 none))
 change WD C _ _ _ _ (h8.push (.cells [iv (cnt R0), iv (cnt R1)] (.tip [] 0 none))) _
 generalize h8.push (.cells [iv (cnt R0), iv (cnt R1)] (.tip [] 0 none)) = h9 at *
 have st9 := st8.grow g89
 obtain ⟨b0', b1', b6', b7', b8', b9', bP', bK'⟩ := fB h9 st9.g
 have k3' := g89.rd k3
 have z89 := g89.size
 have hzoff : ∀ c, blkOf z = some c → c < h8.size := fun c hc => gz8.blkLt st8.g.wf hc
 generalize h8.size = n8 at *
 have htx := K.txt_len sm i
 refine WD.call ⟨new9, k3', b8', bP', trivial⟩ rfl rfl (r08choose_ans S.toStdO h9 st9.g.wf K.P hP (if 1 < K.do i then 1 else K.do i) (K.txt i).length (cnt R0) (cnt R1) (by split <;> omega) ⟨by omega, by omega⟩ _ sl9 oR0.cnt.1 oR1.cnt.1) ?_
 rintro _ h10 ⟨w, rfl, sw, g910, hwb⟩
 change Sl h10 1 w (ints (K.want K.P (cnt R0) (cnt R1) i).1) at sw
 change WD C _ _ _ ((_, V.tuple [w, iv (K.want K.P (cnt R0) (cnt R1) i).2]) :: _) _ _
 generalize K.want K.P (cnt R0) (cnt R1) i = W at *
 have st10 := st9.grow g910
 obtain ⟨c0', c1', c6', c7', c8', c9', cP', cK'⟩ := fB h10 st10.g
 have k3'' := g910.rd k3'
 have new10 := g910.ext _ _ new9
 refine dmv rfl <| dex rfl rfl <| dex rfl rfl <| dmv rfl <| dmv rfl <| WD.nil (by repeat (first | exact trivial | refine ⟨by with_reducible assumption, ?_⟩)) <| WC.seqO <| omv rfl ?_
 have locs : Ans C 19 [.str ref] h10 fun zl h' => Sl h' 2 zl (ls.map rn) ∧ Grow h10 h' ∧ ∀ c, blkOf zl = some c → h10.size ≤ c ∧ c < h'.size := by
  rcases href with ⟨rfl, rfl⟩ | ⟨q, q1, q2, rfl, rfl⟩
  ·exact (r18locs_nil S.toStdO h10 st10.g.wf).mono fun r h' ⟨x1, x2⟩ => ⟨by rw [x1]; exact Sl.nil _ _, x2, fun c hc => by rw [x1] at hc; cases hc⟩
  ·exact (r18locs_ok S.toStdO h10 st10.g.wf q q1 q2).mono fun r h' ⟨x1, x2⟩ => ⟨x1.sl, x2, fun c hc => ⟨x1.blk hc, x1.blkLt x2.wf hc⟩⟩
 refine WO.call rfl rfl locs ?_
 rintro zl h11 ⟨szl, g1011, hzlb⟩
 have st11 := st10.grow g1011
 have sw11 := sw.grow g1011
 have gz11 := ((gz8.grow g89).grow g910).grow g1011
 have hlw : slLen w = some W.1.length := by have := sw11.len; simpa [ints] using this
 have hlz : slLen zl = some ls.length := by have := szl.len; simpa using this
 have z910 := g910.size
 have z1011 := g1011.size
 refine omv rfl <| WO.nil ?_
 refine WC.seqM (M := fun e' h' => Cov [(1, .ptr (some (p, 0))), (3, .ptr (some (s, 0))), (5, iv (cnt R0)), (6, iv (cnt R1)), (7, z), (10, iv i), (13, iv (K.do i)), (16, w), (18, zl)] e' ∧ h' = h11) (WC.seqO ?_) ?_
 ·have hcov9 : ∀ {e' : List (Nat × V)}, Env.get e' 1 = some (.ptr (some (p, 0))) → Env.get e' 3 = some (.ptr (some (s, 0))) → Env.get e' 5 = some (iv (cnt R0)) → Env.get e' 6 = some (iv (cnt R1)) → Env.get e' 7 = some z → Env.get e' 10 = some (iv i) → Env.get e' 13 = some (iv (K.do i)) → Env.get e' 16 = some w → Env.get e' 18 = some zl →
    Cov [(1, .ptr (some (p, 0))), (3, .ptr (some (s, 0))), (5, iv (cnt R0)), (6, iv (cnt R1)), (7, z), (10, iv i), (13, iv (K.do i)), (16, w), (18, zl)] e' := fun q1 q2 q3 q4 q5 q6 q7 q8 q9 =>
   Cov.cons q1 (Cov.cons q2 (Cov.cons q3 (Cov.cons q4 (Cov.cons q5 (Cov.cons q6 (Cov.cons q7 (Cov.cons q8 (Cov.cons q9 (Cov.nil _)))))))))
  refine omv rfl ?_
  by_cases d0 : K.do i = 0
  ·have he := hwant.e (.inl d0)
   have hl := hwant.l (.inl d0)
   have hll : ls.length = W.1.length := by rw [← hl, List.length_map]
   refine obn rfl rfl (eqT d0) <| omv rfl <| WO.skip rfl rfl <| WO.skip rfl rfl <| opt rfl rfl <| omv rfl <| WO.run rfl <| omv rfl <| WO.run rfl <| omv rfl <| WO.run rfl <| obn rfl rfl (neF he) <| WO.run rfl <| omv rfl <| WO.run rfl <| omv rfl <| WO.run rfl <| ols rfl hlz <| WO.run rfl <| omv rfl <| WO.run rfl <| ols rfl hlw <| WO.run rfl <| obn rfl rfl (neF (by omega)) <| WO.run rfl <| opf rfl rfl <| opt rfl rfl <| WO.nil <| WC.cond rfl (fun hc => by cases hc) (fun _ => WC.skip ⟨hcov9 rfl rfl rfl rfl rfl rfl rfl rfl rfl, rfl⟩)
  by_cases d1 : K.do i = 1
  ·have he := hwant.e (.inr d1)
   have hl := hwant.l (.inr d1)
   have hll : ls.length = W.1.length := by rw [← hl, List.length_map]
   refine obn rfl rfl (eqF d0) <| omv rfl <| WO.run rfl <| omv rfl <| WO.run rfl <| obn rfl rfl (eqT d1) <| opf rfl rfl <| omv rfl <| WO.run rfl <| omv rfl <| WO.run rfl <| omv rfl <| WO.run rfl <| obn rfl rfl (neF he) <| WO.run rfl <| omv rfl <| WO.run rfl <| omv rfl <| WO.run rfl <| ols rfl hlz <| WO.run rfl <| omv rfl <| WO.run rfl <| ols rfl hlw <| WO.run rfl <| obn rfl rfl (neF (by omega)) <| WO.run rfl <| opf rfl rfl <| opt rfl rfl <| WO.nil <| WC.cond rfl (fun hc => by cases hc) (fun _ => WC.skip ⟨hcov9 rfl rfl rfl rfl rfl rfl rfl rfl rfl, rfl⟩)
  refine obn rfl rfl (eqF d0) <| omv rfl <| WO.run rfl <| omv rfl <| WO.run rfl <| obn rfl rfl (eqF d1) <| opf rfl rfl <| omv rfl ?_
  (repeat (first | refine omv rfl ?_ | refine ols rfl (by first | with_reducible assumption | rfl) ?_ | refine ofa rfl ?_ | refine oad rfl rfl (by omega) ?_ | refine osb rfl rfl (by omega) ?_ | refine obn rfl rfl rfl ?_ | refine opt rfl rfl ?_ | refine opf rfl rfl ?_ | refine ont rfl ?_ | refine oeq rfl rfl rfl ?_ | refine oex rfl rfl ?_ | refine obu rfl rfl ?_ | refine ofd rfl rfl ?_ | refine olt rfl ?_ | refine onk rfl ?_ | refine old rfl (by first | with_reducible assumption | rfl) ?_ | refine WO.run rfl ?_ | refine WO.skip rfl rfl ?_ | refine WO.skipu rfl ?_))
  exact WO.nil <| WC.cond rfl (fun hc => by cases hc) (fun _ => WC.skip ⟨hcov9 rfl rfl rfl rfl rfl rfl rfl rfl rfl, rfl⟩)
 rintro e' h' ⟨hcov, hh⟩
 rw [hh]
 refine WC.cov hcov <| WC.seqO <| omv rfl <| WO.nil <| WC.block ?_
 have cntR0 := oR0.cnt
 have cntR1 := oR1.cnt
 have ozl : ∀ c, blkOf zl = some c → Off z c ∧ c < h11.size := fun c hc => ⟨off_of gz8 fun d hd e => by have := hzoff d hd; have := (hzlb c hc).1; omega, (hzlb c hc).2⟩
 have ow : ∀ c, blkOf w = some c → W.1 ≠ [] → Off z c ∧ c < h11.size := fun c hc hne => ⟨off_of gz8 fun d hd e => by have := hzoff d hd; have := hwb c hc; omega, by have := sw.blk_lt g910.wf (by simpa [ints] using hne) c hc; omega⟩
 have lsn : ∀ k, c0 (ls.take k) ≤ 2 ∧ 0 ≤ c0 (ls.take k) ∧ c1 (ls.take k) ≤ 2 ∧ 0 ≤ c1 (ls.take k) := fun k => by
  have := cle (ls.take k)
  rw [List.length_take] at this
  omega
 refine WC.loop (σ := Nat × V) (fun q => [(1, .ptr (some (p, 0))), (3, .ptr (some (s, 0))), (5, iv (cnt R0 - c0 (ls.take q.1))), (6, iv (cnt R1 - c1 (ls.take q.1))), (7, q.2), (10, iv i), (13, iv (K.do i)), (16, w), (18, zl), (19, iv q.1)])
  (fun q hh => q.1 ≤ ls.length ∧ StAt hB hh s b b0 b1 wv' D' T u0' u1' A B ∧ Grown hh hB.size 2 q.2 ((tk ++ ls.take q.1).map rn) ∧ XO s b b0 b1 wv' u0' u1' A B q.2 ∧ Sl hh 2 zl (ls.map rn) ∧ Sl hh 1 w (ints W.1) ∧ (∀ c, blkOf zl = some c → Off q.2 c ∧ c < hh.size) ∧ (∀ c, blkOf w = some c → W.1 ≠ [] → Off q.2 c ∧ c < hh.size)) (fun q => ls.length - q.1) (0, z)
  (Cov.cons rfl (Cov.cons rfl (Cov.cons (by simp [Env.get, c0]) (Cov.cons (by simp [Env.get, c1]) (Cov.cons rfl (Cov.cons rfl (Cov.cons rfl (Cov.cons rfl (Cov.cons rfl (Cov.cons rfl (Cov.nil _))))))))))) ⟨Nat.zero_le _, st11, by simpa using gz11, oz8, szl, sw11, ozl, ow⟩ ?_
 clear st11 gz11 szl sw11 ozl ow gz8 st8 st9 st10 hlw
 rintro ⟨k, z⟩ h12 ⟨hk, st12, gz12, oz12, szl, sw12, ozl, ow⟩
 dsimp only at hk gz12 oz12 ozl ow
 obtain ⟨a0, a1, a6, _⟩ := fB h12 st12.g
 refine WC.seq <| WC.seqO <| omv rfl <| omv rfl <| ols rfl hlz ?_
 have lk := lsn k
 by_cases hlk : k < ls.length
 ·refine obn rfl rfl (ltT (by dsimp only; omega)) <| WO.nil <| WC.cond rfl (fun _ => WC.skip ?_) (fun hc => by cases hc)
  obtain ⟨c, of, k1, k2⟩ := szl.at (i := k) (by simpa using hlk)
  rw [List.getElem_map] at k2
  have htk : ls.take (k + 1) = ls.take k ++ [ls[k]] := by rw [List.take_succ_eq_append_getElem hlk]
  have hmem : ls[k] ∈ ls := List.getElem_mem hlk
  have hfr := tI.fr _ hmem
  have hnot : (tk ++ ls.take k).contains ls[k] = false := by
   rw [Bool.eq_false_iff, Ne, List.contains_iff_mem, List.mem_append, not_or]
   refine ⟨fun q => ?_, fun q => ?_⟩
   ·rcases hfr with ⟨q1, q2⟩ | ⟨q1, q2⟩
    ·have := ((rI.f0 _).1 q2).2
     rw [← q1] at this; exact this q
    ·have := ((rI.f1 _).1 q2).2
     rw [← q1] at this; exact this q
   ·have hnd := tI.nd.sublist (List.take_sublist (k + 1) ls)
    rw [htk, List.nodup_append] at hnd
    exact hnd.2.2 _ q _ (List.mem_singleton.2 rfl) rfl
  have hmay : mayF m n K.P.sec ls[k] = true := by
   rcases hfr with ⟨q1, q2⟩ | ⟨q1, q2⟩
   ·have := ((rI.f0 _).1 q2).1
    rw [← q1] at this; exact this
   ·have := ((rI.f1 _).1 q2).1
    rw [← q1] at this; exact this
  have hwk : (K.do i = 0 ∨ K.do i = 1) → ∃ cw ow', idxSlA 1 w (iv k) = some (.ptr (some (cw, ow'))) ∧ h12.rd cw ow' = some (iv ls[k].1) := fun hd => by
   have hl := hwant.l hd
   have hkW : k < W.1.length := by rw [← hl, List.length_map]; exact hlk
   obtain ⟨cw, ow', j1, j2⟩ := sw12.at (i := k) (by simpa [ints] using hkW)
   rw [ints_at hkW] at j2
   have e : W.1[k] = ls[k].1 := by
    have : (ls.map (·.1))[k]'(by simpa using hlk) = W.1[k] := by simp only [hl]
    rw [← this, List.getElem_map]
   rw [e] at j2
   exact ⟨cw, ow', j1, rds_rd j2 (j := 0) rfl⟩
  generalize ls[k] = l at *
  have k3 : h12.rd c (of + 0) = some (iv l.1) := rds_rd k2 (j := 0) rfl
  refine WC.seq <| WC.block ?_
  refine WC.seqM (M := fun e' h' => Cov [(1, .ptr (some (p, 0))), (3, .ptr (some (s, 0))), (5, iv (cnt R0 - c0 (ls.take k))), (6, iv (cnt R1 - c1 (ls.take k))), (7, z), (10, iv i), (13, iv (K.do i)), (16, w), (18, zl), (19, iv k)] e' ∧ Grow h12 h') (WC.seqD ?_) ?_
  ·have hcov9 : ∀ {e' : List (Nat × V)}, Env.get e' 1 = some (.ptr (some (p, 0))) → Env.get e' 3 = some (.ptr (some (s, 0))) → Env.get e' 5 = some (iv (cnt R0 - c0 (ls.take k))) → Env.get e' 6 = some (iv (cnt R1 - c1 (ls.take k))) → Env.get e' 7 = some z → Env.get e' 10 = some (iv i) → Env.get e' 13 = some (iv (K.do i)) → Env.get e' 16 = some w → Env.get e' 18 = some zl → Env.get e' 19 = some (iv k) →
     Cov [(1, .ptr (some (p, 0))), (3, .ptr (some (s, 0))), (5, iv (cnt R0 - c0 (ls.take k))), (6, iv (cnt R1 - c1 (ls.take k))), (7, z), (10, iv i), (13, iv (K.do i)), (16, w), (18, zl), (19, iv k)] e' := fun q1 q2 q3 q4 q5 q6 q7 q8 q9 q10 =>
    Cov.cons q1 (Cov.cons q2 (Cov.cons q3 (Cov.cons q4 (Cov.cons q5 (Cov.cons q6 (Cov.cons q7 (Cov.cons q8 (Cov.cons q9 (Cov.cons q10 (Cov.nil _))))))))))
   refine dmv rfl <| dmv rfl <| dmv rfl <| WD.pure (StepK.idxSl rfl rfl k1) rfl <| WD.loadN rfl k2 ?_
   refine WD.call (by repeat (first | exact trivial | refine ⟨by with_reducible assumption, ?_⟩)) rfl rfl (r18in_ans S.toStdO h12 st12.g.wf z _ gz12.sl (by simp; omega) l) ?_
   rintro _ h13 ⟨rfl, g1213⟩
   rw [hnot]
   have k2' := g1213.rds k2
   have st13 := st12.grow g1213
   obtain ⟨b0', b1', b6', _⟩ := fB h13 st13.g
   refine dmv rfl <| WD.run rfl <| dmv rfl <| WD.run rfl <| dmv rfl <| WD.run rfl <| WD.pure (StepK.idxSl rfl rfl k1) rfl <| WD.run rfl <| WD.loadN rfl k2' <| WD.run rfl <| dfa rfl <| WD.run rfl <| WD.load1 rfl b0' <| WD.run rfl <| dfa rfl <| WD.run rfl <| WD.load1 rfl b1' <| WD.run rfl <| dfa rfl <| WD.run rfl <| dfa rfl <| WD.run rfl <| WD.load1 rfl b6' <| WD.run rfl ?_
   refine WD.call (by repeat (first | exact trivial | refine ⟨by with_reducible assumption, ?_⟩)) rfl rfl (r18may_ans S.toStdO h13 st13.g.wf l m n K.P.sec ⟨by omega, by omega⟩ ⟨hs0, by have := hP.2.2.2; omega⟩) ?_
   rintro _ h14 ⟨rfl, g1314⟩
   rw [hmay]
   have st14 := st13.grow g1314
   have k2'' := g1314.rds k2'
   obtain ⟨c0', c1', c6', _⟩ := fB h14 st14.g
   have g14 := g1213.trans g1314
   have k3' := g14.rd k3
   refine WD.run rfl <| dnt rfl <| dpf rfl rfl <| dmv rfl <| WD.run rfl <| dmv rfl <| WD.run rfl ?_
   by_cases d0 : K.do i = 0
   ·obtain ⟨cw, ow', j1, j2⟩ := hwk (.inl d0)
    have j2' := g14.rd j2
    exact dbn rfl rfl (eqT d0) <| WD.run rfl <| dmv rfl <| WD.skipn rfl rfl rfl <| WD.skipn rfl rfl rfl <| WD.run rfl <| dpt rfl rfl <| WD.run rfl <| dmv rfl <| WD.run rfl <| dmv rfl <| WD.run rfl <| dmv rfl <| WD.run rfl <| WD.pure (StepK.idxSl rfl rfl k1) rfl <| WD.run rfl <| dfa rfl <| WD.run rfl <| WD.load1 rfl k3' <| WD.run rfl <| dmv rfl <| WD.run rfl <| dmv rfl <| WD.run rfl <| WD.pure (StepK.idxSl rfl rfl j1) rfl <| WD.run rfl <| WD.load1 rfl j2' <| WD.run rfl <| dbn rfl rfl (neF rfl) <| WD.run rfl <| dpt rfl rfl <| dpf rfl rfl <| WD.nil (by repeat (first | exact trivial | refine ⟨by with_reducible assumption, ?_⟩)) <| WC.cond rfl (fun hc => by cases hc) (fun _ => WC.skip ⟨hcov9 rfl rfl rfl rfl rfl rfl rfl rfl rfl rfl, g14⟩)
   by_cases d1 : K.do i = 1
   ·obtain ⟨cw, ow', j1, j2⟩ := hwk (.inr d1)
    have j2' := g14.rd j2
    exact dbn rfl rfl (eqF d0) <| WD.run rfl <| dmv rfl <| WD.run rfl <| dmv rfl <| WD.run rfl <| dbn rfl rfl (eqT d1) <| WD.run rfl <| dpf rfl rfl <| WD.run rfl <| dmv rfl <| WD.run rfl <| dmv rfl <| WD.run rfl <| dmv rfl <| WD.run rfl <| WD.pure (StepK.idxSl rfl rfl k1) rfl <| WD.run rfl <| dfa rfl <| WD.run rfl <| WD.load1 rfl k3' <| WD.run rfl <| dmv rfl <| WD.run rfl <| dmv rfl <| WD.run rfl <| WD.pure (StepK.idxSl rfl rfl j1) rfl <| WD.run rfl <| WD.load1 rfl j2' <| WD.run rfl <| dbn rfl rfl (neF rfl) <| WD.run rfl <| dpt rfl rfl <| dpf rfl rfl <| WD.nil (by repeat (first | exact trivial | refine ⟨by with_reducible assumption, ?_⟩)) <| WC.cond rfl (fun hc => by cases hc) (fun _ => WC.skip ⟨hcov9 rfl rfl rfl rfl rfl rfl rfl rfl rfl rfl, g14⟩)
   refine dbn rfl rfl (eqF d0) <| WD.run rfl <| dmv rfl <| WD.run rfl <| dmv rfl <| WD.run rfl <| dbn rfl rfl (eqF d1) <| WD.run rfl <| dpf rfl rfl <| WD.run rfl <| dmv rfl ?_
   (repeat (first | refine dmv rfl ?_ | refine dls rfl (by first | with_reducible assumption | rfl) ?_ | refine dfa rfl ?_ | refine dad rfl rfl (by omega) ?_ | refine dsb rfl rfl (by omega) ?_ | refine dbn rfl rfl rfl ?_ | refine dpt rfl rfl ?_ | refine dpf rfl rfl ?_ | refine dnt rfl ?_ | refine deq rfl rfl rfl ?_ | refine dex rfl rfl ?_ | refine dbu rfl rfl ?_ | refine dfd rfl rfl ?_ | refine dlt rfl ?_ | refine dnk rfl ?_ | refine WD.load1 rfl (by first | with_reducible assumption | rfl) ?_ | refine WD.run rfl ?_ | refine WD.skipn rfl rfl rfl ?_ | refine WD.skipun rfl rfl ?_))
   exact WD.nil (by repeat (first | exact trivial | refine ⟨by with_reducible assumption, ?_⟩)) <| WC.cond rfl (fun hc => by cases hc) (fun _ => WC.skip ⟨hcov9 rfl rfl rfl rfl rfl rfl rfl rfl rfl rfl, g14⟩)
  rintro e' h15 ⟨hcov, g1215⟩
  have st15 := st12.grow g1215
  have gz15 := gz12.grow g1215
  have k2' := g1215.rds k2
  obtain ⟨v, h16, q1, q2, q3, q4, q5, q6⟩ := more_loc hw0 st15.g gz15 (by simp; omega) l
  have st16 := st15.frm q4 q3 oz12
  have oz16 := oz12.app st15 q5
  have keepS : ∀ (u : V) (sz : Nat) (E : List (List V)), Sl h12 sz u E → (E ≠ [] → ∀ c, blkOf u = some c → Off z c) → Sl h16 sz u E := fun u sz E su ho => by
   by_cases hE : E = []
   ·subst hE; exact su.nilKeep
   ·exact (su.grow g1215).keepB fun c hc ob hob => q4 c ob hob (ho hE c hc)
  have szl16 := keepS zl 2 _ szl (fun _ c hc => (ozl c hc).1)
  have sw16 := keepS w 1 _ sw12 (fun hne c hc => (ow c hc (by simpa [ints] using hne)).1)
  have z1215 := g1215.size
  have k3a : h16.rd c (of + 0) = some (iv l.1) := by
   obtain ⟨c', of', k1', k2''⟩ := szl16.at (i := k) (by simpa using hlk)
   have e11 : c' = c ∧ of' = of := by rw [k1] at k1'; simp at k1'; exact ⟨k1'.1.symm, k1'.2.symm⟩
   obtain ⟨rfl, rfl⟩ := e11
   rw [List.getElem_map] at k2''
   have : ls[k]'hlk = l := by
    have h1 : (ls.take (k + 1))[k]? = some ls[k] := by rw [List.getElem?_take_of_lt (by omega), List.getElem?_eq_getElem hlk]
    rw [htk, List.getElem?_append_right (by rw [List.length_take]; omega)] at h1
    rw [List.length_take, Nat.min_eq_left (by omega), Nat.sub_self] at h1
    simpa using h1.symm
   rw [this] at k2''
   exact rds_rd k2'' (j := 0) rfl
  refine WC.cov hcov <| WC.seqO <| omv rfl <| omv rfl <| omv rfl <| WO.ops (StepK.idxSl rfl rfl k1) <| WO.ops (StepK.loadN rfl k2') <| WO.ops (StepK.buildSl rfl rfl) <| WO.ops (StepK.append rfl rfl q1) <| omv rfl <| WO.nil <| WC.seqO ?_
  refine omv rfl <| omv rfl <| WO.ops (StepK.idxSl rfl rfl k1) <| ofa rfl <| old rfl k3a ?_
  have nextI : StAt hB h16 s b b0 b1 wv' D' T u0' u1' A B ∧ Grown h16 hB.size 2 v ((tk ++ ls.take (k + 1)).map rn) ∧ XO s b b0 b1 wv' u0' u1' A B v ∧ Sl h16 2 zl (ls.map rn) ∧ Sl h16 1 w (ints W.1) ∧ (∀ c, blkOf zl = some c → Off v c ∧ c < h16.size) ∧ (∀ c, blkOf w = some c → W.1 ≠ [] → Off v c ∧ c < h16.size) := by
   refine ⟨st16, by rw [htk, ← List.append_assoc]; exact q2, oz16, szl16, sw16, fun c hc => ?_, fun c hc hne => ?_⟩
   ·have := ozl c hc
    exact ⟨q5 c (by omega) this.1, by omega⟩
   ·have := ow c hc hne
    exact ⟨q5 c (by omega) this.1, by omega⟩
  by_cases hd : l.1 = 0
  ·refine obn rfl rfl (eqT hd) <| WO.nil <| WC.cond rfl (fun _ => WC.ops <| omv rfl <| osb rfl rfl (by omega) <| omv rfl <| WO.nil <| WC.ops <| omv rfl <| oad rfl rfl (by omega) <| omv rfl <| WO.nil ⟨(k + 1, v), Cov.cons rfl (Cov.cons rfl (Cov.cons ?_ (Cov.cons ?_ (Cov.cons rfl (Cov.cons rfl (Cov.cons rfl (Cov.cons rfl (Cov.cons rfl (Cov.cons rfl (Cov.nil _)))))))))), ⟨hlk, nextI⟩, by dsimp only; omega⟩) (fun hc => by cases hc)
   ·show _ = some (iv (cnt R0 - c0 (ls.take (k + 1))))
    rw [htk, c0_snoc, if_pos hd]
    show some (iv _) = some (iv _)
    congr 2; omega
   ·show _ = some (iv (cnt R1 - c1 (ls.take (k + 1))))
    rw [htk, c1_snoc, if_pos hd, Int.add_zero]; rfl
  ·refine obn rfl rfl (eqF hd) <| WO.nil <| WC.cond rfl (fun hc => by cases hc) (fun _ => WC.ops <| omv rfl <| osb rfl rfl (by omega) <| omv rfl <| WO.nil <| WC.ops <| omv rfl <| oad rfl rfl (by omega) <| omv rfl <| WO.nil ⟨(k + 1, v), Cov.cons rfl (Cov.cons rfl (Cov.cons ?_ (Cov.cons ?_ (Cov.cons rfl (Cov.cons rfl (Cov.cons rfl (Cov.cons rfl (Cov.cons rfl (Cov.cons rfl (Cov.nil _)))))))))), ⟨hlk, nextI⟩, by dsimp only; omega⟩)
   ·show _ = some (iv (cnt R0 - c0 (ls.take (k + 1))))
    rw [htk, c0_snoc, if_neg hd, Int.add_zero]; rfl
   ·show _ = some (iv (cnt R1 - c1 (ls.take (k + 1))))
    rw [htk, c1_snoc, if_neg hd]
    show some (iv _) = some (iv _)
    congr 2; omega
 obtain rfl : k = ls.length := by omega
 rw [List.take_length] at gz12 ⊢
 rw [← tI.n0, ← tI.n1]
 refine obn rfl rfl (ltF (by dsimp only; omega)) <| WO.nil <| WC.cond rfl (fun hc => by cases hc) (fun _ => WC.exit <| WC.ops <| omv rfl <| oad rfl rfl (by omega) <| omv rfl <| WO.nil ⟨⟨i + 1, z, wv', D', u0', u1', A, B, tk ++ ls⟩, Cov.cons rfl (Cov.cons rfl (Cov.cons rfl (Cov.cons rfl (Cov.cons rfl (Cov.cons rfl (Cov.nil _)))))), ⟨hlt, st12, gz12, oz12, rI.more tI, by dsimp only; omega, by dsimp only; rw [List.length_append]; omega⟩, by dsimp only; omega⟩)
end
end Abs
end Go.Proofs.YtdebiolekbldiaaGreatDoor
