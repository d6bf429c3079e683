/- The abstract machine: reasoning with what is known of the variables; memory that grows. The abstract machine: reasoning over regions whose order is drawn. The abstract machine: contracts of functions; slices in memory. The abstract machine: slices that came in. The abstract machine: parts of slices, and appending to them. The abstract machine: several lists that grow side by side. The abstract machine: what a call may change; functions that write to memory that was there. The abstract machine: rules for more operations: arrays in place, strings' bytes, unsafe's steps. The abstract machine: a contract whose answer names no new memory serves as a summary. The abstract machine: summaries that hand back a block of their own; maps' keys, sorted. -/
import Derived.Test.YthgcjbniipfnbaaGreatDoorA18
import Derived.ChangeArms
import Derived.ChangeSame
import Derived.WideShapes
import Derived.Lib.SlKeysI
import Derived.Sort.OwnSorted
namespace Go.Proofs.YthgcjbniipfnbaaGreatDoor
namespace Abs
noncomputable section
set_option linter.unusedVariables false
set_option linter.unusedSimpArgs false
open Go.RowKit
/-! ### What is known of the variables -/
def Env.get:List (Nat × V)→Nat→Option V
 | [],_=>none
 | (k,v)::r,n=>if n=k then some v else Env.get r n
def Env.put (e:List (Nat × V)):Option Nat→V→List (Nat × V)
 | none,_=>e
 | some d,v=>(d,v)::e
def Sub (e:List (Nat × V)) (tm:TM):Prop:=∀ k v,Env.get e k=some v→tm.get k=some v
def Cov (e e':List (Nat × V)):Prop:=∀ k v,Env.get e k=some v→Env.get e' k=some v
theorem Sub.nil (tm:TM):Sub [] tm:=by intro k v h;cases h
theorem Sub.set {e:List (Nat × V)} {tm:TM} (h:Sub e tm) (d:Nat) (v:V):Sub ((d,v)::e) (tm.set d v):=by
 intro k u hk
 simp only [Env.get] at hk
 rw [TM.get_set]
 split at hk
 ·rename_i q;rw [if_pos q];exact hk
 ·rename_i q;rw [if_neg q];exact h k u hk
theorem Sub.put {e:List (Nat × V)} {tm:TM} (h:Sub e tm) (d:Option Nat) (v:V):Sub (Env.put e d v) (TM.put tm d v):=by
 cases d with
 | none=>exact h
 | some d=>exact h.set d v
theorem Sub.same {e:List (Nat × V)} {tm:TM} (h:Sub e tm) {d:Nat} {v:V} (hg:Env.get e d=some v):Sub ((d,v)::e) tm:=by
 intro k u hk
 simp only [Env.get] at hk
 split at hk
 ·rename_i q;cases hk;rw [q];exact h d v hg
 ·exact h k u hk
theorem Sub.cov {e e':List (Nat × V)} {tm:TM} (h:Sub e' tm) (hc:Cov e e'):Sub e tm:=fun k v hk=>h k v (hc k v hk)
theorem Cov.nil (e:List (Nat × V)):Cov [] e:=by intro k v h;cases h
theorem Cov.cons {e e':List (Nat × V)} {d:Nat} {v:V} (hg:Env.get e' d=some v) (h:Cov e e'):Cov ((d,v)::e) e':=by
 intro k u hk
 simp only [Env.get] at hk
 split at hk
 ·rename_i q;cases hk;rw [q];exact hg
 ·exact h k u hk
theorem Cov.refl (e:List (Nat × V)):Cov e e:=fun _ _ h=>h
def evE (e:List (Nat × V)):Opd→Option V
 | .t i=>Env.get e i
 | .c v=>some v
def evsE (e:List (Nat × V)):List Opd→Option (List V)
 | []=>some []
 | x::r=>match evE e x,evsE e r with
  | some v,some vs=>some (v::vs)
  | _,_=>none
def evoE (e:List (Nat × V)):Option Opd→Option (Option V)
 | none=>some none
 | some x=>match evE e x with
  | some v=>some (some v)
  | none=>none
def evPartsE (e:List (Nat × V)):List (Nat × Nat × Opd)→Option (List (Nat × Nat × V))
 | []=>some []
 | (o,s,x)::r=>match evE e x,evPartsE e r with
  | some v,some vs=>some ((o,s,v)::vs)
  | _,_=>none
section
variable {e:List (Nat × V)} {tm:TM}
theorem Sub.ev (hs:Sub e tm) {x:Opd} {v:V} (h:evE e x=some v):Abs.ev tm x=some v:=by
 cases x with
 | t i=>exact hs i v h
 | c v=>exact h
theorem Sub.evs (hs:Sub e tm):∀ {x:List Opd} {vs:List V},evsE e x=some vs→Abs.evs tm x=some vs
 | [],_,h=>h
 | x::r,vs,h=>by
  simp only [evsE] at h
  split at h
  ·rename_i v us q1 q2
   simp only [Abs.evs,hs.ev q1,hs.evs q2];exact h
  ·cases h
theorem Sub.evo (hs:Sub e tm) {x:Option Opd} {v:Option V} (h:evoE e x=some v):Abs.evo tm x=some v:=by
 cases x with
 | none=>exact h
 | some x =>
  simp only [evoE] at h
  split at h
  ·rename_i v q1
   simp only [Abs.evo,hs.ev q1];exact h
  ·cases h
theorem Sub.evParts (hs:Sub e tm):∀ {x:List (Nat × Nat × Opd)} {vs:List (Nat × Nat × V)},evPartsE e x=some vs→Abs.evParts tm x=some vs
 | [],_,h=>h
 | (o,s,x)::r,vs,h=>by
  simp only [evPartsE] at h
  split at h
  ·rename_i v us q1 q2
   simp only [Abs.evParts,hs.ev q1,hs.evParts q2];exact h
  ·cases h
end
/-! ### One operation -/
def StepK (e:List (Nat × V)) (h:Heap) (k:K) (v:V) (h':Heap):Prop:=∀ tm,Sub e tm→opK k tm h=some (v,h')
namespace StepK
variable {e:List (Nat × V)} {h h':Heap} {x y z:Opd} {a b c v w:V}
theorem mv (hx:evE e x=some v):StepK e h (.mv x) v h:=fun tm hs=>by simp only [opK,hs.ev hx]
theorem pickT (hx:evE e x=some (.bool true)) (hy:evE e y=some v):StepK e h (.pick x y z) v h:=fun tm hs=>by simp only [opK,hs.ev hx,hs.ev hy,if_true]
theorem pickF (hx:evE e x=some (.bool false)) (hy:evE e z=some v):StepK e h (.pick x y z) v h:=fun tm hs=>by simp only [opK,hs.ev hx,hs.ev hy,Bool.false_eq_true,if_false]
theorem alloc {ty:Option Nat} {zs:List V}:StepK e h (.alloc ty zs) (.ptr (some (h.size,0))) (h.push (.cells zs (.tip [] 0 ty))):=fun tm hs=>by simp only [opK]
theorem box (hx:evE e x=some v):StepK e h (.box x) (.ptr (some (h.size,0))) (h.push (.cells v.cellsOf (.tip [] 0 none))):=fun tm hs=>by simp only [opK,hs.ev hx]
theorem build {zs cs:List V} {ps:List (Nat × Nat × Opd)} {us:List (Nat × Nat × V)} (hp:evPartsE e ps=some us) (hf:fillV zs us=some cs):StepK e h (.build zs ps) (.agg cs) h:=fun tm hs=>by simp only [opK,hs.evParts hp,hf]
theorem buildSl {ty:Option Nat} {n:Nat} {zs cs:List V} {ps:List (Nat × Nat × Opd)} {us:List (Nat × Nat × V)} (hp:evPartsE e ps=some us) (hf:fillV zs us=some cs):StepK e h (.buildSl ty zs n ps) (.slice (some (h.size,0)) n n) (h.push (.cells cs (.tip [] 0 ty))):=fun tm hs=>by simp only [opK,hs.evParts hp,hf]
theorem load1 {b o:Nat} (hx:evE e x=some (.ptr (some (b,o)))) (hl:h.rd b o=some v):StepK e h (.load none x) v h:=fun tm hs=>by simp only [opK,hs.ev hx,loadA,hl]
theorem loadN {b o n:Nat} {cs:List V} (hx:evE e x=some (.ptr (some (b,o)))) (hl:h.rds b o n=some cs):StepK e h (.load (some n) x) (.agg cs) h:=fun tm hs=>by simp only [opK,hs.ev hx,loadA,hl]
theorem store {b o n:Nat} (hx:evE e x=some (.ptr (some (b,o)))) (hy:evE e y=some v) (hn:v.cellsOf.length=n) (hw:h.wr b o v.cellsOf=some h'):StepK e h (.store n x y) undefV h':=fun tm hs=>by simp only [opK,hs.ev hx,hs.ev hy,storeA,if_pos hn,hw]
theorem nilck {p:Nat × Nat} (hx:evE e x=some (.ptr (some p))):StepK e h (.nilck x) (.ptr (some p)) h:=fun tm hs=>by simp only [opK,hs.ev hx]
theorem bin {op:BinOp} (hx:evE e x=some a) (hy:evE e y=some b) (hb:binA op a b=some v):StepK e h (.bin op x y) v h:=fun tm hs=>by simp only [opK,hs.ev hx,hs.ev hy,hb]
theorem wrap64 {n:Int} (h1:-9223372036854775808≤n) (h2:n<9223372036854775808):IntKind.i64.wrap n=n:=by
 have hd:IntKind.i64.wrap n=if n % 18446744073709551616≥9223372036854775808 then n % 18446744073709551616-18446744073709551616 else n % 18446744073709551616:=by
  simp [IntKind.wrap,IntKind.signed,IntKind.bits]
 rw [hd]
 split <;> omega
theorem add {m n:Int} (hx:evE e x=some (.int .i64 m)) (hy:evE e y=some (.int .i64 n)) (h1:-9223372036854775808≤m+n∧m+n<9223372036854775808):StepK e h (.bin .add x y) (.int .i64 (m+n)) h :=
 bin hx hy (by simp only [binA,if_true,wrap64 h1.1 h1.2])
theorem sub {m n:Int} (hx:evE e x=some (.int .i64 m)) (hy:evE e y=some (.int .i64 n)) (h1:-9223372036854775808≤m-n∧m-n<9223372036854775808):StepK e h (.bin .sub x y) (.int .i64 (m-n)) h :=
 bin hx hy (by simp only [binA,if_true,wrap64 h1.1 h1.2])
theorem eq {neg t:Bool} {d:EqD} (hx:evE e x=some a) (hy:evE e y=some b) (hb:eqA d a b=some t):StepK e h (.eq neg d x y) (.bool (if neg then !t else t)) h:=fun tm hs=>by simp only [opK,hs.ev hx,hs.ev hy,hb]
theorem not {t:Bool} (hx:evE e x=some (.bool t)):StepK e h (.not x) (.bool (!t)) h:=fun tm hs=>by simp only [opK,hs.ev hx]
theorem sliceSl {sz:Nat} {lo hi mx:Option Opd} {l' h2 m':Option V} (hx:evE e x=some a) (h1:evoE e lo=some l') (h3:evoE e hi=some h2) (h4:evoE e mx=some m') (h5:sliceSlA sz a l' h2 m'=some v):StepK e h (.sliceSl sz x lo hi mx) v h:=fun tm hs=>by simp only [opK,hs.ev hx,hs.evo h1,hs.evo h3,hs.evo h4,h5]
theorem fieldAddr {b o off:Nat} (hx:evE e x=some (.ptr (some (b,o)))):StepK e h (.fieldAddr off x) (.ptr (some (b,o+off))) h:=fun tm hs=>by simp only [opK,hs.ev hx]
theorem field {off:Nat} {n:Option Nat} {cs:List V} (hx:evE e x=some (.agg cs)) (hf:aggOf n cs off=some v):StepK e h (.field off n x) v h:=fun tm hs=>by simp only [opK,hs.ev hx,hf]
theorem idxSl {sz:Nat} (hx:evE e x=some a) (hy:evE e y=some b) (hi:idxSlA sz a b=some v):StepK e h (.idxSl sz x y) v h:=fun tm hs=>by simp only [opK,hs.ev hx,hs.ev hy,hi]
theorem lenStr {s:List Nat} (hx:evE e x=some (.str s)):StepK e h (.lenStr x) (.int .i64 s.length) h:=fun tm hs=>by simp only [opK,hs.ev hx]
theorem lenSl {n:Nat} (hx:evE e x=some a) (hl:slLen a=some n):StepK e h (.lenSl x) (.int .i64 n) h:=fun tm hs=>by simp only [opK,hs.ev hx,hl]
theorem min2 {k k':IntKind} {m n:Int} (hx:evE e x=some (.int k m)) (hy:evE e y=some (.int k' n)):StepK e h (.min2 x y) (.int k (if n<m then n else m)) h:=fun tm hs=>by simp only [opK,hs.ev hx,hs.ev hy]
theorem max2 {k k':IntKind} {m n:Int} (hx:evE e x=some (.int k m)) (hy:evE e y=some (.int k' n)):StepK e h (.max2 x y) (.int k (if n > m then n else m)) h:=fun tm hs=>by simp only [opK,hs.ev hx,hs.ev hy]
theorem append {sz bytes:Nat} {tyK:Option Nat} (hx:evE e x=some a) (hy:evE e y=some b) (ha:appendA h sz bytes tyK a b=some (v,h')):StepK e h (.append sz bytes tyK x y) v h':=fun tm hs=>by simp only [opK,hs.ev hx,hs.ev hy,ha]
theorem clear {sz:Nat} {zs:List V} (hx:evE e x=some a) (ha:clearA h sz zs a=some (v,h')):StepK e h (.clear sz zs x) v h':=fun tm hs=>by simp only [opK,hs.ev hx,ha]
theorem mkFn {fn:Fn} {f1 c1:List Opd} {fs cs:List V} (h1:evsE e f1=some fs) (h2:evsE e c1=some cs):StepK e h (.mkFn fn f1 c1) (.func fn fs cs) h:=fun tm hs=>by simp only [opK,hs.evs h1,hs.evs h2]
theorem extract {i:Nat} {vs:List V} (hx:evE e x=some (.tuple vs)) (hi:vs[i]? = some v):StepK e h (.extract i x) v h:=fun tm hs=>by simp only [opK,hs.ev hx,hi]
theorem toInt {k k':IntKind} {n m:Int} (hx:evE e x=some (.int k' n)) (hw:k.wrap n=m):StepK e h (.toInt k x) (.int k m) h:=fun tm hs=>by simp only [opK,hs.ev hx,hw]
theorem toStr (hx:evE e x=some a) (hw:toStrA h a=some v):StepK e h (.toStr x) v h:=fun tm hs=>by simp only [opK,hs.ev hx,hw]
end StepK
/-! ### Pieces of code -/
section
variable (C:Cfg)
def Ans (f:Nat) (args:List V) (h:Heap) (R:V→Heap→Prop):Prop:=∃ v h',Gives C f args h v h'∧R v h'
def WO (l:List AOp) (e:List (Nat × V)) (h:Heap) (Q:List (Nat × V)→Heap→Prop):Prop:=∀ tm,Sub e tm→Does C l tm h fun tm' h'=>∃ e',Sub e' tm'∧Q e' h'
def WC (a:AC) (e:List (Nat × V)) (h:Heap) (Q:Ex→List (Nat × V)→Heap→Prop):Prop:=∀ tm,Sub e tm→Runs C a tm h fun x tm' h'=>∃ e',Sub e' tm'∧Q x e' h'
end
section
variable {C:Cfg} {e:List (Nat × V)} {h h':Heap} {l:List AOp}
namespace WO
variable {Q:List (Nat × V)→Heap→Prop}
theorem nil (hq:Q e h):WO C [] e h Q:=fun tm hs=>Does.nil ⟨e,hs,hq⟩
theorem op {k:K} {d:Option Nat} {v:V} (hk:StepK e h k v h') (hq:WO C l (Env.put e d v) h' Q):WO C (⟨d,none,k⟩::l) e h Q :=
 fun tm hs=>Does.op (o:=⟨d,none,k⟩) rfl (hk tm hs) (hq _ (hs.put d v))
theorem ops {k:K} {d:Nat} {v:V} (hk:StepK e h k v h') (hq:WO C l ((d,v)::e) h' Q):WO C (⟨some d,none,k⟩::l) e h Q:=op hk hq
theorem run {k:K} {d:Option Nat} {t:Nat} {w:Bool} (hg:Env.get e t=some (.bool w)) (hq:WO C (⟨d,none,k⟩::l) e h Q):WO C (⟨d,some (t,w),k⟩::l) e h Q:=fun tm hs=>by
 obtain ⟨n,t1,h1,q1,q2⟩:=hq tm hs
 refine ⟨n,t1,h1,?_,q2⟩
 rw [←q1]
 have hg':tm.get t=some (.bool w):=hs t _ hg
 simp only [runOps,stepOp,wantedA,hg',beq_self_eq_true]
theorem skip {k:K} {d:Nat} {t:Nat} {w w':Bool} (hg:Env.get e t=some (.bool w')) (hw:(w' == w)=false) (hq:WO C l ((d,undefV)::e) h Q):WO C (⟨some d,some (t,w),k⟩::l) e h Q:=fun tm hs =>
 Does.skip (o:=⟨some d,some (t,w),k⟩) (by have hg':tm.get t=some (.bool w'):=hs t _ hg;simp only [wantedA,hg',hw]) (hq _ (hs.put (some d) undefV))
theorem skipu {k:K} {d:Nat} {t:Nat} {w:Bool} (hg:Env.get e t=some undefV) (hq:WO C l ((d,undefV)::e) h Q):WO C (⟨some d,some (t,w),k⟩::l) e h Q:=fun tm hs =>
 Does.skip (o:=⟨some d,some (t,w),k⟩) (by have hg':tm.get t=some (.tuple []):=hs t _ hg;simp only [wantedA,hg']) (hq _ (hs.put (some d) undefV))
theorem split {t:Nat} {b:Bool} (hg:Env.get e t=some (.bool b)) (h1:b=true→WO C l ((t,.bool true)::e) h Q) (h2:b=false→WO C l ((t,.bool false)::e) h Q):WO C l e h Q:=by
 cases b with
 | true=>exact fun tm hs=>h1 rfl tm (hs.same hg)
 | false=>exact fun tm hs=>h2 rfl tm (hs.same hg)
theorem call {d:Nat} {fx:Opd} {xs:List Opd} {f:Nat} {first caps vs:List V} {R:V→Heap→Prop} (hf:evE e fx=some (.func (.func f) first caps)) (hx:evsE e xs=some vs) (hc:Ans C f (first++vs++caps) h R)
  (hq:∀ v h',R v h'→WO C l ((d,v)::e) h' Q):WO C (⟨some d,none,.call fx xs⟩::l) e h Q:=fun tm hs=>by
 obtain ⟨v,h',q1,q2⟩:=hc
 exact Does.call rfl (hs.ev hf) (hs.evs hx) q1 (hq v h' q2 _ (hs.put (some d) v))
theorem mono {Q':List (Nat × V)→Heap→Prop} (hx:WO C l e h Q) (hq:∀ e h,Q e h→Q' e h):WO C l e h Q':=fun tm hs =>
 let ⟨n,t,h1,q1,e1,q2,q3⟩:=hx tm hs;⟨n,t,h1,q1,e1,q2,hq _ _ q3⟩
end WO
namespace WC
variable {a b:AC} {Q:Ex→List (Nat × V)→Heap→Prop}
theorem mono {Q':Ex→List (Nat × V)→Heap→Prop} (hx:WC C a e h Q) (hq:∀ x e h,Q x e h→Q' x e h):WC C a e h Q':=fun tm hs =>
 (hx tm hs).mono fun x t h1 ⟨e1,q1,q2⟩=>⟨e1,q1,hq _ _ _ q2⟩
theorem cov {e':List (Nat × V)} (hc:Cov e' e) (hx:WC C a e' h Q):WC C a e h Q:=fun tm hs=>hx tm (hs.cov hc)
theorem ops (hx:WO C l e h (Q .normal)):WC C (.ops l) e h Q:=fun tm hs=>Runs.ops (hx tm hs)
theorem skip (hq:Q .normal e h):WC C .skip e h Q:=fun tm hs=>Runs.skip ⟨e,hs,hq⟩
theorem ret (hq:Q .ret e h):WC C .ret e h Q:=fun tm hs=>Runs.ret ⟨e,hs,hq⟩
theorem exit {id:Nat} (hq:Q (.exit id) e h):WC C (.exit id) e h Q:=fun tm hs=>Runs.exit ⟨e,hs,hq⟩
theorem seq (hx:WC C a e h (fun x e' h'=>match x with | .normal=>WC C b e' h' Q | x=>Q x e' h')):WC C (.seq a b) e h Q:=fun tm hs=>by
 refine Runs.seq ((hx tm hs).mono fun x t h1 ⟨e1,q1,q2⟩=>?_)
 cases x with
 | normal=>exact q2 t q1
 | exit id=>exact ⟨e1,q1,q2⟩
 | ret=>exact ⟨e1,q1,q2⟩
theorem seqO (hx:WO C l e h (fun e' h'=>WC C b e' h' Q)):WC C (.seq (.ops l) b) e h Q:=seq (ops hx)
theorem condT {x:Opd} (hv:evE e x=some (.bool true)) (hx:WC C a e h Q):WC C (.cond x a b) e h Q:=fun tm hs=>Runs.cond (hs.ev hv) (hx tm hs)
theorem condF {x:Opd} (hv:evE e x=some (.bool false)) (hx:WC C b e h Q):WC C (.cond x a b) e h Q:=fun tm hs=>Runs.cond (hs.ev hv) (hx tm hs)
theorem cond {x:Opd} {t:Bool} (hv:evE e x=some (.bool t)) (h1:t=true→WC C a e h Q) (h2:t=false→WC C b e h Q):WC C (.cond x a b) e h Q:=by
 cases t with
 | true=>exact condT hv (h1 rfl)
 | false=>exact condF hv (h2 rfl)
theorem block {id:Nat} (hx:WC C a e h (fun x e' h'=>match x with | .exit i=>if i=id then Q .normal e' h' else Q (.exit i) e' h' | x=>Q x e' h')):WC C (.block id a) e h Q:=fun tm hs=>by
 refine Runs.block ((hx tm hs).mono fun x t h1 ⟨e1,q1,q2⟩=>?_)
 cases x with
 | normal=>exact ⟨e1,q1,q2⟩
 | ret=>exact ⟨e1,q1,q2⟩
 | exit i =>
  simp only [AtExit]
  simp only at q2
  split
  ·rename_i g;rw [if_pos g] at q2;exact ⟨e1,q1,q2⟩
  ·rename_i g;rw [if_neg g] at q2;exact ⟨e1,q1,q2⟩
theorem loop {σ:Type} (T:σ→List (Nat × V)) (I:σ→Heap→Prop) (μ:σ→Nat) (s0:σ) (hc:Cov (T s0) e) (hi:I s0 h)
  (step:∀ s h,I s h→WC C a (T s) h (fun x e' h'=>match x with | .normal=>∃ s',Cov (T s') e'∧I s' h'∧μ s'<μ s | x=>Q x e' h')):WC C (.loop a) e h Q:=fun tm hs=>by
 refine Runs.loop (fun s t h=>Sub (T s) t∧I s h) μ s0 ⟨hs.cov hc,hi⟩ fun s t h hi=>?_
 refine (step s h hi.2 t hi.1).mono fun x t' h' ⟨e1,q1,q2⟩=>?_
 cases x with
 | normal =>
  obtain ⟨s',g1,g2,g3⟩:=q2
  exact ⟨s',⟨q1.cov g1,g2⟩,g3⟩
 | exit id=>exact ⟨e1,q1,q2⟩
 | ret=>exact ⟨e1,q1,q2⟩
end WC
def resE (e:List (Nat × V)) (h:Heap):Res→Option V
 | .tmp t=>Env.get e t
 | .cell t n=>match Env.get e t with
  | some a=>loadA h n a
  | none=>none
def ressE (e:List (Nat × V)) (h:Heap):List Res→Option (List V)
 | []=>some []
 | r::rs=>match resE e h r,ressE e h rs with
  | some v,some vs=>some (v::vs)
  | _,_=>none
def argsE:Nat→List V→List (Nat × V)→List (Nat × V)
 | _,[],e=>e
 | i,v::r,e=>argsE (i+1) r ((i,v)::e)
theorem Sub.res {tm:TM} (hs:Sub e tm) {r:Res} {v:V} (hr:resE e h r=some v):resA tm h r=some v:=by
 cases r with
 | tmp t=>exact hs t v hr
 | cell t n =>
  simp only [resE] at hr
  split at hr
  ·rename_i a q;simp only [resA,hs t _ q];exact hr
  ·cases hr
theorem Sub.ress {tm:TM} (hs:Sub e tm):∀ {r:List Res} {vs:List V},ressE e h r=some vs→ressA tm h r=some vs
 | [],_,hr=>hr
 | r::rs,vs,hr=>by
  simp only [ressE] at hr
  split at hr
  ·rename_i v us q1 q2
   simp only [ressA,hs.res q1,hs.ress q2];exact hr
  ·cases hr
theorem Sub.args {tm:TM} (hs:Sub e tm):∀ (i:Nat) (vs:List V),Sub (argsE i vs e) (argsTM i vs tm):=by
 intro i vs
 induction vs generalizing i e tm with
 | nil=>exact hs
 | cons v r ih=>exact ih (hs.set i v) (i+1)
structure Grow (h h':Heap):Prop where
 wf:∀ b,h'.size≤b→h'.get b=none
 size:h.size≤h'.size
 ext:∀ b o,h.get b=some o→h'.get b=some o
def Wf (h:Heap):Prop:=∀ b,h.size≤b→h.get b=none
theorem Grow.refl (hw:Wf h):Grow h h:=⟨hw,Nat.le_refl _,fun _ _ q=>q⟩
theorem Grow.trans {h1 h2:Heap} (g:Grow h h1) (g':Grow h1 h2):Grow h h2:=⟨g'.wf,Nat.le_trans g.size g'.size,fun b o q=>g'.ext b o (g.ext b o q)⟩
theorem Wf.lt (hw:Wf h) {b:Nat} {o:Obj} (hg:h.get b=some o):b<h.size:=by
 rcases Nat.lt_or_ge b h.size with q | q
 ·exact q
 ·rw [hw b q] at hg;cases hg
theorem get_push (h:Heap) (o:Obj) (b:Nat):(h.push o).get b=if b=h.size then some o else h.get b:=by simp only [Heap.get,Heap.push,HT.get_set]
theorem get_put (h:Heap) (o:Obj) (b c:Nat):(h.put c o).get b=if b=c then some o else h.get b:=by simp only [Heap.get,Heap.put,HT.get_set]
theorem Grow.push (g:Grow h h') (o:Obj):Grow h (h'.push o):=by
 refine ⟨fun b hb=>?_,Nat.le_trans g.size (Nat.le_succ _),fun b o' q=>?_⟩
 ·rw [get_push,if_neg (by simp only [Heap.push] at hb;omega)];exact g.wf b (by simp only [Heap.push] at hb;omega)
 ·have:=g.ext b o' q
  rw [get_push,if_neg]
  ·exact this
  ·intro hb;subst hb;rw [g.wf _ (Nat.le_refl _)] at this;cases this
theorem Grow.put (g:Grow h h') {b:Nat} (hb:h.size≤b) (hb':b<h'.size) (hw:Wf h) (o:Obj):Grow h (h'.put b o):=by
 refine ⟨fun c hc=>?_,g.size,fun c o' q=>?_⟩
 ·rw [get_put,if_neg (by simp only [Heap.put] at hc;omega)];exact g.wf c hc
 ·rw [get_put,if_neg]
  ·exact g.ext c o' q
  ·intro hcb;subst hcb;rw [hw _ hb] at q;cases q
theorem Grow.rd (g:Grow h h') {b o:Nat} {v:V} (hr:h.rd b o=some v):h'.rd b o=some v:=by
 simp only [Heap.rd] at hr ⊢
 split at hr
 ·rename_i q;rw [g.ext _ _ q];exact hr
 ·cases hr
theorem Grow.rds (g:Grow h h') {b o n:Nat} {v:List V} (hr:h.rds b o n=some v):h'.rds b o n=some v:=by
 simp only [Heap.rds] at hr ⊢
 split at hr
 ·rename_i q;rw [g.ext _ _ q];exact hr
 ·cases hr
theorem Ans.body {f:Nat} {af:AFunc} {args:List V} {R:V→Heap→Prop} (hS:C.S f args h=none) (hF:C.F f=some af) (hl:args.length=af.nparams) (hpl:af.body.plain=true) (hdx:args.length≤DX)
  (hx:WC C af.body (argsE 0 args []) { h with low:=h.size } fun x e' h1=>(∀ id,x≠.exit id)∧∃ vs,ressE e' h1 af.results=some vs∧R (oneOf vs) { h1 with low:=min h.low h1.low }∧((oneOf vs).scopd h.size=true→R (oneOf vs) h)):Ans C f args h R:=by
 have hx:=hx _ ((Sub.nil (.nil:TM)).args 0 args)
 have key:∃ v h',(∃ n x t h1,execC (run C n).1 (run C n).2 af.body (argsTM 0 args .nil) { h with low:=h.size }=some (x,t,h1)∧(∀ id,x≠.exit id)∧∃ vs,ressA t h1 af.results=some vs∧closeCall h (oneOf vs) h1=(v,h'))∧R v h':=by
  obtain ⟨n,x,t,h1,q1,e1,q2,q3,vs,q4,q5,q6⟩:=hx
  by_cases hc:h.size≤h1.low∧(oneOf vs).scopd h.size=true
  ·exact ⟨oneOf vs,h,⟨n,x,t,h1,q1,q3,vs,q2.ress q4,by simp only [closeCall,if_pos hc]⟩,q6 hc.2⟩
  ·exact ⟨oneOf vs,_,⟨n,x,t,h1,q1,q3,vs,q2.ress q4,by simp only [closeCall,if_neg hc]⟩,q5⟩
 obtain ⟨v,h',q1,q2⟩:=key
 exact ⟨v,h',Gives.body hS hF hl hpl hdx q1,q2⟩
theorem Ans.mono {f:Nat} {args:List V} {R R':V→Heap→Prop} (hx:Ans C f args h R) (hr:∀ v h',R v h'→R' v h'):Ans C f args h R' :=
 let ⟨v,h',q1,q2⟩:=hx;⟨v,h',q1,hr _ _ q2⟩
end
end
end Abs
end Go.Proofs.YthgcjbniipfnbaaGreatDoor
namespace Go.Proofs.YthgcjbniipfnbaaGreatDoor
namespace Abs
noncomputable section
set_option linter.unusedVariables false
set_option linter.unusedSimpArgs false
open Go.RowKit
def AllP:List (Nat × (Heap→Prop))→Heap→Prop
 | [],_=>True
 | p::r,h=>p.2 h∧AllP r h
def dropP (anc:List Nat):List (Nat × (Heap→Prop))→List (Nat × (Heap→Prop))
 | []=>[]
 | p::r=>if anc.contains p.1 then dropP anc r else p::dropP anc r
theorem allP_mem {h:Heap}:∀ {P:List (Nat × (Heap→Prop))},AllP P h→∀ p∈P,p.2 h
 | [],_,_,hp=>by cases hp
 | q::r,ha,p,hp=>by
  rcases List.mem_cons.1 hp with e | e
  ·subst e;exact ha.1
  ·exact allP_mem ha.2 p e
theorem dropP_mem {anc:List Nat}:∀ {P:List (Nat × (Heap→Prop))} {p},p∈P→anc.contains p.1=false→p∈dropP anc P
 | q::r,p,hp,hc=>by
  simp only [dropP]
  rcases List.mem_cons.1 hp with e | e
  ·subst e;rw [hc];exact List.mem_cons_self
  ·split
   ·exact dropP_mem e hc
   ·exact List.mem_cons_of_mem _ (dropP_mem e hc)
theorem okTail_all {l:Log} (hl:∀ h,okLater l h=true) (p:Nat):∀ (r:List (DOp × Log)) (hN:Heap),okTail l p r hN=true
 | [],hN=>hl hN
 | (d,l')::r,hN=>by
  simp only [okTail]
  split
  ·rw [hl,okTail_all hl p r hN];simp
  ·exact okTail_all hl p r hN
def DoesD (C:Cfg) (q:Nat) (l:List DOp) (P:List (Nat × (Heap→Prop))) (tm:TM) (h:Heap) (Q:TM→Heap→Prop):Prop :=
 ∃ n tr tm' h',traceDraw (run C n).1 l tm h=some (tr,tm',h')∧okAll q tr h'=true∧(∀ p∈P,∀ lg:Log,(∀ h1,p.2 h1→okLater lg h1=true)→okTail lg p.1 tr h'=true)∧Q tm' h'
section
variable {C:Cfg} {q:Nat} {l:List DOp} {P:List (Nat × (Heap→Prop))} {tm:TM} {h h':Heap} {Q:TM→Heap→Prop} {k:K} {d:Option Nat} {g:Option (Nat × Bool)} {idx:Nat} {anc:List Nat} {v:V}
theorem DoesD.nil (hP:AllP P h) (hq:Q tm h):DoesD C q [] P tm h Q :=
 ⟨0,[],tm,h,rfl,rfl,fun p hp lg hl=>hl h (allP_mem hP p hp),hq⟩
theorem DoesD.skip (hP:k.isC=true→AllP P h) (hw:wantedA tm g=some false) (hq:DoesD C (q+1) l P (TM.put tm d undefV) h Q):DoesD C q (⟨⟨d,g,k⟩,idx,anc⟩::l) P tm h Q:=by
 obtain ⟨n,tr,tm',h',q1,q2,q3,q4⟩:=hq
 refine ⟨n,(⟨⟨d,g,k⟩,idx,anc⟩,⟨⟨d,g,k⟩,false,tm,h,undefV⟩)::tr,tm',h',?_,?_,?_,q4⟩
 ·simp only [traceDraw,hw,q1]
 ·have:okTail ⟨⟨d,g,k⟩,false,tm,h,undefV⟩ q tr h'=true:=okTail_all (fun _=>rfl) q tr h'
  simp only [okAll,this,q2,Bool.or_true,Bool.and_self]
 ·intro p hp lg hl
  have:=q3 p hp lg hl
  simp only [okTail]
  split
  ·rename_i hc;rw [hl h (allP_mem (hP hc) p hp),this];simp
  ·exact this
theorem DoesD.op {R:Heap→Prop} (hc:k.isC=false) (hw:wantedA tm g=some true) (hk:opK k tm h=some (v,h')) (hr:∀ h1,R h1→okLater ⟨⟨d,g,k⟩,true,tm,h,v⟩ h1=true) (hq:DoesD C (q+1) l ((q,R)::P) (TM.put tm d v) h' Q):DoesD C q (⟨⟨d,g,k⟩,idx,anc⟩::l) P tm h Q:=by
 obtain ⟨n,tr,tm',h2,q1,q2,q3,q4⟩:=hq
 refine ⟨n,(⟨⟨d,g,k⟩,idx,anc⟩,⟨⟨d,g,k⟩,true,tm,h,v⟩)::tr,tm',h2,?_,?_,?_,q4⟩
 ·have hnc:k.calls=false:=nc_of hk
  simp only [traceDraw,hw,opA_nc hnc,hk,q1]
 ·have:=q3 (q,R) List.mem_cons_self _ hr
  simp only [okAll,this,q2,Bool.or_true,Bool.and_self]
 ·intro p hp lg hl
  have:=q3 p (List.mem_cons_of_mem _ hp) lg hl
  simp only [okTail,hc,Bool.false_eq_true,if_false]
  exact this
theorem DoesD.pure (hc:k.isC=false) (hw:wantedA tm g=some true) (hk:opK k tm h=some (v,h')) (hr:∀ h1,okLater ⟨⟨d,g,k⟩,true,tm,h,v⟩ h1=true) (hq:DoesD C (q+1) l P (TM.put tm d v) h' Q):DoesD C q (⟨⟨d,g,k⟩,idx,anc⟩::l) P tm h Q:=by
 obtain ⟨n,tr,tm',h2,q1,q2,q3,q4⟩:=hq
 refine ⟨n,(⟨⟨d,g,k⟩,idx,anc⟩,⟨⟨d,g,k⟩,true,tm,h,v⟩)::tr,tm',h2,?_,?_,?_,q4⟩
 ·have hnc:k.calls=false:=nc_of hk
  simp only [traceDraw,hw,opA_nc hnc,hk,q1]
 ·have:=okTail_all hr q tr h2
  simp only [okAll,this,q2,Bool.or_true,Bool.and_self]
 ·intro p hp lg hl
  have:=q3 p hp lg hl
  simp only [okTail,hc,Bool.false_eq_true,if_false]
  exact this
theorem DoesD.opC (hP:AllP P h) (hc:k.isC=true) (hw:wantedA tm g=some true) {m:Nat} (hk:opA (run C m).1 k tm h=some (v,h')) (hq:DoesD C (q+1) l (dropP anc P) (TM.put tm d v) h' Q):DoesD C q (⟨⟨d,g,k⟩,idx,anc⟩::l) P tm h Q:=by
 obtain ⟨n,tr,tm',h2,q1,q2,q3,q4⟩:=hq
 refine ⟨max n m,(⟨⟨d,g,k⟩,idx,anc⟩,⟨⟨d,g,k⟩,true,tm,h,v⟩)::tr,tm',h2,?_,?_,?_,q4⟩
 ·simp only [traceDraw,hw,opA_mono (run_le C (Nat.le_max_right n m)).1 hk,trace_mono (run_le C (Nat.le_max_left n m)).1 l q1]
 ·simp only [okAll,hc,q2,Bool.true_or,Bool.and_self]
 ·intro p hp lg hl
  simp only [okTail,hc,if_true]
  rw [hl h (allP_mem hP p hp)]
  cases ha:anc.contains p.1 with
  | true=>rfl
  | false=>rw [q3 p (dropP_mem hp ha) lg hl];rfl
theorem Runs.draw {l:List DOp} {Q:Ex→TM→Heap→Prop} (hx:DoesD C 0 l [] tm h (Q .normal)):Runs C (.draw l) tm h Q:=by
 obtain ⟨n,tr,t,h',q1,q2,q3,q4⟩:=hx
 exact ⟨n,.normal,t,h',by simp only [execC,runDraw,q1,q2,if_true],q4⟩
end
def K.isPure:K→Bool
 | .unsStr .. | .unsP .. | .ofUns .. | .load .. | .toStr .. | .lookup .. | .mapLen .. | .alloc .. | .box .. | .buildSl .. | .makeSl .. | .makeMap | .toBytes .. | .store .. | .append .. | .appendS .. | .copy .. | .clear .. | .mapUpd .. | .mapDel .. | .call .. | .invoke .. | .invokeV .. | .mapEnt .. | .entSt .. | .rangeM .. | .nextM .. | .entM ..=>false
 | _=>true
theorem pure_here {k:K} (hp:k.isPure=true) {tm:TM} {h h':Heap} {v:V} (hk:opK k tm h=some (v,h')):h'=h∧∀ h1,opK k tm h1=some (v,h1):=by
 cases k <;> simp only [K.isPure,Bool.false_eq_true] at hp <;> simp only [opK] at hk ⊢ <;> (repeat' split at hk) <;> simp_all
 all_goals (intro _;rw [←hk.1];first | rw [if_neg (by omega)])
def WD (C:Cfg) (q:Nat) (l:List DOp) (P:List (Nat × (Heap→Prop))) (e:List (Nat × V)) (h:Heap) (Q:List (Nat × V)→Heap→Prop):Prop:=∀ tm,Sub e tm→DoesD C q l P tm h fun tm' h'=>∃ e',Sub e' tm'∧Q e' h'
section
variable {C:Cfg} {q:Nat} {l:List DOp} {P:List (Nat × (Heap→Prop))} {e:List (Nat × V)} {h h':Heap} {Q:List (Nat × V)→Heap→Prop} {k:K} {d:Nat} {dd:Option Nat} {idx:Nat} {anc:List Nat} {v:V} {x:Opd}
theorem WC.draw {l:List DOp} {Q:Ex→List (Nat × V)→Heap→Prop} (hx:WD C 0 l [] e h (Q .normal)):WC C (.draw l) e h Q:=fun tm hs=>Runs.draw (hx tm hs)
theorem WC.seqD {l:List DOp} {b:AC} {Q:Ex→List (Nat × V)→Heap→Prop} (hx:WD C 0 l [] e h (fun e' h'=>WC C b e' h' Q)):WC C (.seq (.draw l) b) e h Q:=WC.seq (WC.draw hx)
namespace WD
theorem nil (hP:AllP P h) (hq:Q e h):WD C q [] P e h Q:=fun tm hs=>DoesD.nil hP ⟨e,hs,hq⟩
theorem pure (hk:StepK e h k v h') (hp:k.isPure=true) (hq:WD C (q+1) l P ((d,v)::e) h' Q):WD C q (⟨⟨some d,none,k⟩,idx,anc⟩::l) P e h Q:=fun tm hs=>by
 have ⟨g1,g2⟩:=pure_here hp (hk tm hs)
 refine DoesD.pure ?_ rfl (hk tm hs) (fun h1=>?_) (hq _ (hs.set d v))
 ·cases k <;> simp_all [K.isPure,K.isC]
 ·simp only [okLater,if_true]
  rw [if_neg]
  ·rw [g2 h1];exact V.beq_refl v
  ·cases k <;> simp_all [K.isPure,K.isAlloc]
theorem load1 {b o:Nat} (hx:evE e x=some (.ptr (some (b,o)))) (hl:h.rd b o=some v) (hq:WD C (q+1) l ((q,fun h1=>h1.rd b o=some v)::P) ((d,v)::e) h Q):WD C q (⟨⟨some d,none,.load none x⟩,idx,anc⟩::l) P e h Q:=fun tm hs=>by
 refine DoesD.op rfl rfl (StepK.load1 hx hl tm hs) (fun h1 hr=>?_) (hq _ (hs.set d v))
 simp only [okLater,if_true,K.isAlloc,Bool.false_eq_true,if_false,StepK.load1 hx hr tm hs,V.beq_refl]
theorem loadN {b o n:Nat} {cs:List V} (hx:evE e x=some (.ptr (some (b,o)))) (hl:h.rds b o n=some cs) (hq:WD C (q+1) l ((q,fun h1=>h1.rds b o n=some cs)::P) ((d,.agg cs)::e) h Q):WD C q (⟨⟨some d,none,.load (some n) x⟩,idx,anc⟩::l) P e h Q:=fun tm hs=>by
 refine DoesD.op rfl rfl (StepK.loadN hx hl tm hs) (fun h1 hr=>?_) (hq _ (hs.set d _))
 simp only [okLater,if_true,K.isAlloc,Bool.false_eq_true,if_false,StepK.loadN hx hr tm hs,V.beq_refl]
theorem alloc {cs:List V} {ty:Option Nat} (ha:k.isAlloc=true) (hk:StepK e h k v (h.push (.cells cs (.tip [] 0 ty)))) (hq:WD C (q+1) l ((q,fun h1=>h1.get h.size=some (.cells cs (.tip [] 0 ty)))::P) ((d,v)::e) (h.push (.cells cs (.tip [] 0 ty))) Q):WD C q (⟨⟨some d,none,k⟩,idx,anc⟩::l) P e h Q:=fun tm hs=>by
 refine DoesD.op ?_ rfl (hk tm hs) (fun h1 hr=>?_) (hq _ (hs.set d _))
 ·cases k <;> simp_all [K.isAlloc,K.isC]
 ·simp only [okLater,if_true,ha,hk tm hs,hr,get_push,sameObj,V.beqs_refl,beq_self_eq_true,Bool.and_self,decide_true]
theorem opC (hP:AllP P h) (hc:k.isC=true) (hk:StepK e h k v h') (hq:WD C (q+1) l (dropP anc P) (Env.put e dd v) h' Q):WD C q (⟨⟨dd,none,k⟩,idx,anc⟩::l) P e h Q:=fun tm hs =>
 DoesD.opC (m:=0) hP hc rfl (by rw [opA_nc (nc_of (hk tm hs))];exact hk tm hs) (hq _ (hs.put dd v))
theorem call {fx:Opd} {xs:List Opd} {f:Nat} {first caps vs:List V} {R:V→Heap→Prop} (hP:AllP P h) (hf:evE e fx=some (.func (.func f) first caps)) (hx:evsE e xs=some vs) (hc:Ans C f (first++vs++caps) h R)
  (hq:∀ v h',R v h'→WD C (q+1) l (dropP anc P) ((d,v)::e) h' Q):WD C q (⟨⟨some d,none,.call fx xs⟩,idx,anc⟩::l) P e h Q:=fun tm hs=>by
 obtain ⟨v,h',⟨m,q1⟩,q2⟩:=hc
 exact DoesD.opC (m:=m) hP rfl rfl (by simp only [opA,hs.ev hf,hs.evs hx];exact q1) (hq v h' q2 _ (hs.set d v))
theorem split {t:Nat} {b:Bool} (hg:Env.get e t=some (.bool b)) (h1:b=true→WD C q l P ((t,.bool true)::e) h Q) (h2:b=false→WD C q l P ((t,.bool false)::e) h Q):WD C q l P e h Q:=by
 cases b with
 | true=>exact fun tm hs=>h1 rfl tm (hs.same hg)
 | false=>exact fun tm hs=>h2 rfl tm (hs.same hg)
theorem run {t:Nat} {w:Bool} (hg:Env.get e t=some (.bool w)) (hq:WD C q (⟨⟨dd,none,k⟩,idx,anc⟩::l) P e h Q):WD C q (⟨⟨dd,some (t,w),k⟩,idx,anc⟩::l) P e h Q:=fun tm hs=>by
 obtain ⟨n,tr,t1,h1,q1,q2,q3,q4⟩:=hq tm hs
 have hg':tm.get t=some (.bool w):=hs t _ hg
 simp only [traceDraw,wantedA] at q1
 split at q1
 ·rename_i v2 h2 p1
  split at q1
  ·rename_i tr2 tm2 h3 p2
   cases q1
   refine ⟨n,(⟨⟨dd,some (t,w),k⟩,idx,anc⟩,⟨⟨dd,some (t,w),k⟩,true,tm,h,v2⟩)::tr2,t1,h1,?_,?_,?_,q4⟩
   ·simp only [traceDraw,wantedA,hg',beq_self_eq_true,p1,p2]
   ·have:∀ r hN,okTail ⟨⟨dd,some (t,w),k⟩,true,tm,h,v2⟩ q r hN=okTail ⟨⟨dd,none,k⟩,true,tm,h,v2⟩ q r hN:=by
     intro r hN
     induction r with
     | nil=>rfl
     | cons a r ih=>obtain ⟨a1,a2⟩:=a;simp only [okTail,ih];rfl
    simp only [okAll,this] at q2 ⊢
    exact q2
   ·intro p hp lg hl
    have:=q3 p hp lg hl
    simp only [okTail] at this ⊢
    exact this
  ·cases q1
 ·cases q1
theorem skip {t:Nat} {w w':Bool} (hP:k.isC=true→AllP P h) (hg:Env.get e t=some (.bool w')) (hw:(w' == w)=false) (hq:WD C (q+1) l P ((d,undefV)::e) h Q):WD C q (⟨⟨some d,some (t,w),k⟩,idx,anc⟩::l) P e h Q:=fun tm hs =>
 DoesD.skip hP (by have hg':tm.get t=some (.bool w'):=hs t _ hg;simp only [wantedA,hg',hw]) (hq _ (hs.set d undefV))
theorem skipn {t:Nat} {w w':Bool} (hc:k.isC=false) (hg:Env.get e t=some (.bool w')) (hw:(w' == w)=false) (hq:WD C (q+1) l P ((d,undefV)::e) h Q):WD C q (⟨⟨some d,some (t,w),k⟩,idx,anc⟩::l) P e h Q:=skip (fun g=>by rw [hc] at g;cases g) hg hw hq
end WD
end
end
end Abs
end Go.Proofs.YthgcjbniipfnbaaGreatDoor
namespace Go.Proofs.YthgcjbniipfnbaaGreatDoor
namespace Abs
noncomputable section
set_option linter.unusedVariables false
set_option linter.unusedSimpArgs false
open Go.RowKit
def Fin:Ex→Prop
 | .exit _=>False
 | _=>True
def retE (e:List (Nat × V)) (h:Heap) (res:List Res):Option V :=
 match ressE e h res with
 | some vs=>some (oneOf vs)
 | none=>none
section
variable {C:Cfg} {f:Nat} {args:List V} {h:Heap}
theorem Ans.fn {np:Nat} {res:List Res} {body:AC} {e0:List (Nat × V)} {R:V→Heap→Prop} (hS:∀ args h,C.S f args h=none) (hF:C.F f=some ⟨np,res,body⟩) (hl:args.length=np) (he:argsE 0 args []=e0) (hw:Wf h)
  (hx:∀ h2,Grow h h2→WC C body e0 h2 fun x e' h1=>Fin x∧Wf h1∧∃ v,retE e' h1 res=some v∧(∀ h3,Grow h1 h3→R v h3)∧(v.scopd h.size=true→R v h)) (hpl:body.plain=true:=by rfl) (hdx:np≤DX:=by decide):Ans C f args h R:=by
 refine Ans.body (hS _ _) hF hl hpl (by omega) ?_
 rw [he]
 refine (hx { h with low:=h.size } ⟨hw,Nat.le_refl _,fun _ _ q=>q⟩).mono fun x e' h1 ⟨q1,q2,v,q3,q4,q5⟩=>⟨?_,?_⟩
 ·intro id hid;subst hid;exact q1
 ·simp only [retE] at q3
  split at q3
  ·rename_i vs q;cases q3
   exact ⟨vs,q,q4 _ ⟨q2,Nat.le_refl _,fun _ _ q=>q⟩,q5⟩
  ·cases q3
theorem Ans.val {np:Nat} {res:List Res} {body:AC} {e0:List (Nat × V)} {val:V} (hS:∀ args h,C.S f args h=none) (hF:C.F f=some ⟨np,res,body⟩) (hl:args.length=np) (he:argsE 0 args []=e0) (hw:Wf h)
  (hx:∀ h2,Grow h h2→WC C body e0 h2 fun x e' h1=>Fin x∧Grow h h1∧retE e' h1 res=some val) (hpl:body.plain=true:=by rfl) (hdx:np≤DX:=by decide):Ans C f args h fun v h'=>v=val∧Grow h h' :=
 Ans.fn hS hF hl he hw (fun h2 g=>(hx h2 g).mono fun x e' h1 ⟨q1,q2,q3⟩=>⟨q1,q2.wf,val,q3,fun h3 g3=>⟨rfl,q2.trans g3⟩,fun _=>⟨rfl,Grow.refl hw⟩⟩) hpl hdx
end
/-! ### Boxes -/
theorem get_push_self (h:Heap) (o:Obj):(h.push o).get h.size=some o:=by rw [get_push,if_pos rfl]
theorem rd_get {h:Heap} {b o:Nat} {cs:List V} {st:St} {v:V} (hg:h.get b=some (.cells cs st)) (hv:cs[o]? = some v):h.rd b o=some v:=by
 simp only [Heap.rd,hg];exact hv
/-! ### Slices -/
def Sl (h:Heap) (sz:Nat) (x:V) (es:List (List V)):Prop :=
 (∀ c∈es,c.length=sz)∧match x with
 | .slice none l c=>l=0∧c=0∧es=[]
 | .slice (some (b,o)) l c=>l=es.length∧l≤c∧(es≠[]→h.rds b o (es.length*sz)=some es.flatten)
 | .oslice b o l c z=>l=es.length∧l≤c∧(z=sz∨z=0)∧(es≠[]→h.rds b o (es.length*sz)=some es.flatten)
 | _=>False
theorem Sl.grow {h h':Heap} {sz:Nat} {x:V} {es:List (List V)} (s:Sl h sz x es) (g:Grow h h'):Sl h' sz x es:=by
 refine ⟨s.1,?_⟩
 have:=s.2
 split at this
 ·exact this
 ·exact ⟨this.1,this.2.1,fun q=>g.rds (this.2.2 q)⟩
 ·exact ⟨this.1,this.2.1,this.2.2.1,fun q=>g.rds (this.2.2.2 q)⟩
 ·exact this
theorem Sl.len {h:Heap} {sz:Nat} {x:V} {es:List (List V)} (s:Sl h sz x es):slLen x=some es.length:=by
 have:=s.2
 split at this
 ·rw [this.1,this.2.2];rfl
 ·rw [this.1];rfl
 ·rw [this.1];rfl
 ·exact this.elim
theorem Sl.nil (h:Heap) (sz:Nat):Sl h sz (.slice none 0 0) []:=⟨by simp,rfl,rfl,rfl⟩
theorem flat_len {es:List (List V)} {sz:Nat} (hl:∀ c∈es,c.length=sz):es.flatten.length=es.length*sz:=by
 induction es with
 | nil=>simp
 | cons a r ih =>
  rw [List.flatten_cons,List.length_append,hl a List.mem_cons_self,ih fun c hc=>hl c (List.mem_cons_of_mem _ hc),List.length_cons,Nat.succ_mul];omega
theorem flat_drop {es:List (List V)} {sz:Nat} (hl:∀ c∈es,c.length=sz) (i:Nat):es.flatten.drop (i*sz)=(es.drop i).flatten:=by
 induction es generalizing i with
 | nil=>simp
 | cons a r ih =>
  cases i with
  | zero=>simp
  | succ i =>
   have ha:=hl a List.mem_cons_self
   rw [List.flatten_cons,List.drop_append,List.drop_succ_cons,←ih (fun c hc=>hl c (List.mem_cons_of_mem _ hc)) i,ha,Nat.succ_mul]
   rw [List.drop_eq_nil_of_le (by rw [ha];omega),List.nil_append,show i*sz+sz-sz=i*sz by omega]
theorem rds_part {h:Heap} {b o n:Nat} {cs:List V} (hr:h.rds b o n=some cs) (i m:Nat) (hi:i+m≤n):h.rds b (o+i) m=some ((cs.drop i).take m):=by
 simp only [Heap.rds] at hr ⊢
 split at hr
 ·rename_i ds st q
  split at hr
  ·rename_i hle
   cases hr
   rw [if_pos (by omega),List.drop_take,List.drop_drop,List.take_take,Nat.min_eq_left (by omega)]
  ·cases hr
 ·cases hr
theorem rds_len {h:Heap} {b o n:Nat} {cs:List V} (hr:h.rds b o n=some cs):cs.length=n:=by
 simp only [Heap.rds] at hr
 split at hr
 ·split at hr
  ·cases hr;rw [List.length_take,List.length_drop];omega
  ·cases hr
 ·cases hr
theorem rds_rd {h:Heap} {b o n:Nat} {cs:List V} (hr:h.rds b o n=some cs) {j:Nat} {v:V} (hj:cs[j]? = some v):h.rd b (o+j)=some v:=by
 have hl:=rds_len hr
 have hjn:j<n:=by rw [←hl];exact (List.getElem?_eq_some_iff.1 hj).1
 simp only [Heap.rds] at hr
 simp only [Heap.rd]
 split at hr
 ·rename_i ds st q
  split at hr
  ·cases hr
   rw [List.getElem?_take_of_lt hjn,List.getElem?_drop] at hj
   exact hj
  ·cases hr
 ·cases hr
theorem Sl.at {h:Heap} {sz:Nat} {x:V} {es:List (List V)} (s:Sl h sz x es) {i:Nat} (hi:i<es.length):∃ b o,idxSlA sz x (.int .i64 i)=some (.ptr (some (b,o)))∧h.rds b o sz=some es[i]:=by
 have part:∀ b o,h.rds b o (es.length*sz)=some es.flatten→h.rds b (o+i*sz) sz=some es[i]:=by
  intro b o hr
  have h1:i*sz+sz≤es.length*sz:=by rw [←Nat.succ_mul];exact Nat.mul_le_mul_right _ hi
  rw [rds_part hr (i*sz) sz h1,flat_drop s.1]
  have hd:es.drop i=es[i]::es.drop (i+1):=List.drop_eq_getElem_cons hi
  have hle:es[i].length=sz:=s.1 _ (List.getElem_mem hi)
  rw [hd,List.flatten_cons,List.take_append_of_le_length (by omega),List.take_of_length_le (by omega)]
 have hne:es≠[]:=by intro e;subst e;simp at hi
 have:=s.2
 split at this
 ·exact absurd this.2.2 hne
 ·rename_i b o l c
  refine ⟨b,o+i*sz,?_,part b o (this.2.2 hne)⟩
  simp only [idxSlA,intV]
  rw [if_pos ⟨by omega,by rw [this.1];omega⟩];simp
 ·rename_i b o l c z
  refine ⟨b,o+i*sz,?_,part b o (this.2.2.2 hne)⟩
  simp only [idxSlA,intV]
  rw [if_pos ⟨by omega,by rw [this.1];omega⟩];simp
 ·exact this.elim
theorem Sl.cells {h:Heap} {sz:Nat} {x:V} {es:List (List V)} (s:Sl h sz x es):slCells h sz es.length x=some es.flatten:=by
 have:=s.2
 split at this
 ·rw [this.2.2];rfl
 ·rename_i b o l c
  simp only [slCells]
  split
  ·rename_i q;rw [List.length_eq_zero_iff.1 q];rfl
  ·rename_i q;exact this.2.2 (by intro e;subst e;simp at q)
 ·rename_i b o l c z
  simp only [slCells]
  split
  ·rename_i q;rw [List.length_eq_zero_iff.1 q];rfl
  ·rename_i q;exact this.2.2.2 (by intro e;subst e;simp at q)
 ·exact this.elim
theorem rds_all {h:Heap} {b:Nat} {cs:List V} {st:St} (hg:h.get b=some (.cells cs st)) {n:Nat} (hn:cs.length=n):h.rds b 0 n=some cs:=by
 simp only [Heap.rds,hg]
 rw [if_pos (by omega),List.drop_zero,List.take_of_length_le (by omega)]
def Grown (h:Heap) (low sz:Nat) (x:V) (es:List (List V)):Prop :=
 (∀ c∈es,c.length=sz)∧((x=.slice none 0 0∧es=[])∨∃ b S ty,x=.oslice b 0 es.length es.length sz∧es≠[]∧(low≤b∧∀ s∈S,low≤s)∧h.get b=some (.cells es.flatten (.tip S 0 ty)))
theorem Grown.nil (h:Heap) (low sz:Nat):Grown h low sz (.slice none 0 0) []:=⟨by simp,.inl ⟨rfl,rfl⟩⟩
theorem Grown.sl {h:Heap} {low sz:Nat} {x:V} {es:List (List V)} (g:Grown h low sz x es):Sl h sz x es:=by
 obtain ⟨g1,⟨rfl,rfl⟩ | ⟨b,S,ty,rfl,q2,q3,q4⟩⟩:=g
 ·exact Sl.nil h sz
 ·exact ⟨g1,rfl,Nat.le_refl _,.inl rfl,fun _=>rds_all q4 (flat_len g1)⟩
theorem Grown.grow {h h':Heap} {low sz:Nat} {x:V} {es:List (List V)} (g:Grown h low sz x es) (gr:Grow h h'):Grown h' low sz x es:=by
 obtain ⟨g1,g2 | ⟨b,S,ty,q1,q2,q3,q4⟩⟩:=g
 ·exact ⟨g1,.inl g2⟩
 ·exact ⟨g1,.inr ⟨b,S,ty,q1,q2,q3,gr.ext _ _ q4⟩⟩
theorem Grown.scopd {h h1:Heap} {sz:Nat} {x:V} {es:List (List V)} (g:Grown h1 h.size sz x es) (hs:x.scopd h.size=true) (h':Heap):Grown h' h.size sz x es:=by
 obtain ⟨g1,⟨rfl,rfl⟩ | ⟨b,S,ty,rfl,q2,q3,q4⟩⟩:=g
 ·exact Grown.nil h' h.size sz
 ·simp [V.scopd] at hs;have:=q3.1;omega
theorem Grown.append {h0 h:Heap} {sz bytes:Nat} {tyK:Option Nat} {x y:V} {es fs:List (List V)} (hw0:Wf h0) (g:Grow h0 h) (s:Grown h h0.size sz x es) (t:Sl h sz y fs) (hsz:sz≠0) (hb:bytes≠0) (hr:roomy (es.length+fs.length) bytes=true) (h1:∀ c∈fs,∀ v∈c,V.one v=true) :
  ∃ v h',appendA h sz bytes tyK x y=some (v,h')∧Grown h' h0.size sz v (es++fs)∧Grow h0 h':=by
 have hw:=g.wf
 have hlen:=flat_len t.1
 have hone:fs.flatten.all V.one=true:=by
  rw [List.all_eq_true];intro v hv
  obtain ⟨c,hc,hv⟩:=List.mem_flatten.1 hv
  exact h1 c hc v hv
 have hA:appendA h sz bytes tyK x y=appendCore h sz bytes tyK x fs.length fs.flatten:=by
  simp only [appendA,t.len,t.cells]
  rw [if_pos ⟨hsz,hb,hlen,hone⟩]
 rw [hA]
 have hall:∀ c∈es++fs,c.length=sz:=by
  intro c hc
  rcases List.mem_append.1 hc with q | q
  ·exact s.1 c q
  ·exact t.1 c q
 obtain ⟨s1,⟨rfl,rfl⟩ | ⟨b,S,ty,rfl,q2,q3,q4⟩⟩:=s
 ·by_cases hf:fs=[]
  ·subst hf
   exact ⟨_,_,rfl,⟨by simp,.inl ⟨rfl,rfl⟩⟩,g⟩
  ·have hn:fs.length≠0:=by intro e;exact hf (List.length_eq_zero_iff.1 e)
   simp only [List.length_nil,Nat.zero_add] at hr
   refine ⟨.oslice h.size 0 fs.length fs.length sz,h.push (.cells fs.flatten (.tip [] 0 tyK)),?_,⟨hall,.inr ⟨h.size,[],tyK,rfl,hf,⟨g.size,by simp⟩,?_⟩⟩,g.push _⟩
   ·simp only [appendCore,if_neg hn,hr,if_true]
   ·rw [get_push,if_pos rfl];rfl
 ·by_cases hf:fs=[]
  ·subst hf
   refine ⟨.oslice b 0 es.length es.length sz,h,?_,?_,g⟩
   ·simp [appendCore]
   ·rw [List.append_nil];exact ⟨s1,.inr ⟨b,S,ty,rfl,q2,q3,q4⟩⟩
  ·have hn:fs.length≠0:=by intro e;exact hf (List.length_eq_zero_iff.1 e)
   have hn2:es.length≠0:=by intro e;exact q2 (List.length_eq_zero_iff.1 e)
   have hbs:b<h.size:=Wf.lt hw q4
   have hfl:=flat_len s1
   refine ⟨.oslice h.size 0 (es.length+fs.length) (es.length+fs.length) sz,(h.put b (.cells es.flatten .sup)).push (.cells (es.flatten++fs.flatten) (.tip (b::S) 0 (joinTy tyK ty 0))),?_,⟨hall,.inr ⟨h.size,b::S,joinTy tyK ty 0,?_,by simp [hf],⟨g.size,?_⟩,?_⟩⟩,(g.put q3.1 hbs hw0 _).push _⟩
   ·simp only [appendCore]
    rw [if_neg (by omega),if_pos ⟨trivial,hn2,hr⟩,q4]
    simp only
    rw [if_pos ⟨by omega,by omega⟩]
    simp
   ·rw [List.length_append]
   ·intro s hs;rcases List.mem_cons.1 hs with e | e
    ·subst e;exact q3.1
    ·exact q3.2 s e
   ·rw [get_push,if_pos (by rfl),List.flatten_append]
theorem Grow.kill {h0:Heap} (hw:Wf h0):∀ (S:List Nat) {h:Heap},Grow h0 h→(∀ s∈S,h0.size≤s)→Grow h0 (h.kill S)
 | [],_,g,_=>g
 | b::r,h,g,hs=>by
  simp only [Heap.kill]
  split
  ·rename_i hb
   exact Grow.kill hw r (g.put (hs b List.mem_cons_self) hb hw _) fun s q=>hs s (List.mem_cons_of_mem _ q)
  ·exact Grow.kill hw r g fun s q=>hs s (List.mem_cons_of_mem _ q)
theorem kill_size:∀ (S:List Nat) (h:Heap),(h.kill S).size=h.size
 | [],_=>rfl
 | b::r,h=>by
  simp only [Heap.kill]
  split
  ·rw [kill_size r];rfl
  ·exact kill_size r h
theorem flat_set {es:List (List V)} {sz:Nat} (hl:∀ c∈es,c.length=sz) {i j:Nat} (hi:i<es.length) (hj:j<sz) (v:V):es.flatten.set (i*sz+j) v=(es.set i (es[i].set j v)).flatten:=by
 induction es generalizing i with
 | nil=>simp at hi
 | cons a r ih =>
  have ha:=hl a List.mem_cons_self
  cases i with
  | zero =>
   simp only [Nat.zero_mul,Nat.zero_add,List.flatten_cons,List.getElem_cons_zero,List.set_cons_zero]
   rw [List.set_append_left _ _ (by omega)]
  | succ i =>
   simp only [List.flatten_cons,List.getElem_cons_succ,List.set_cons_succ]
   rw [←ih (fun c hc=>hl c (List.mem_cons_of_mem _ hc)) (by simpa using hi),Nat.succ_mul,List.set_append_right _ _ (by omega)]
   congr 2;omega
theorem Grown.store {h0 h:Heap} {sz:Nat} {x:V} {es:List (List V)} (hw0:Wf h0) (g:Grow h0 h) (s:Grown h h0.size sz x es) {i j:Nat} (hi:i<es.length) (hj:j<sz) {v:V} (hv:V.one v=true) :
  ∃ b o h',idxSlA sz x (.int .i64 i)=some (.ptr (some (b,o)))∧h.rds b o sz=some es[i]∧h.wr b (o+j) [v]=some h'∧Grown h' h0.size sz x (es.set i (es[i].set j v))∧Grow h0 h':=by
 obtain ⟨b,o,k1,k2⟩:=s.sl.at hi
 obtain ⟨s1,⟨rfl,rfl⟩ | ⟨b',S,ty,rfl,q2,q3,q4⟩⟩:=s
 ·simp at hi
 simp only [idxSlA,intV] at k1
 rw [if_pos ⟨by omega,by omega⟩] at k1
 simp only [Option.some.injEq,V.ptr.injEq,Prod.mk.injEq,Int.toNat_natCast,Nat.zero_add] at k1
 obtain ⟨rfl,rfl⟩:=k1
 have hfl:=flat_len s1
 have hlt:i*sz+j<es.length*sz:=by
  have:i*sz+sz≤es.length*sz:=by rw [←Nat.succ_mul];exact Nat.mul_le_mul_right _ hi
  omega
 have hbs:b'<h.size:=Wf.lt g.wf q4
 refine ⟨b',i*sz,(h.kill S).put b' (.cells (splice es.flatten (i*sz+j) [v]) (.tip [] 0 ty)),?_,k2,?_,⟨?_,.inr ⟨b',[],ty,?_,?_,⟨q3.1,by simp⟩,?_⟩⟩,?_⟩
 ·simp only [idxSlA,intV]
  rw [if_pos ⟨by omega,by omega⟩];simp
 ·simp only [Heap.wr,q4]
  rw [if_pos ⟨by omega,by simp only [List.length_singleton];omega,by simp [hv]⟩]
 ·intro c hc
  rcases List.mem_or_eq_of_mem_set hc with q | q
  ·exact s1 c q
  ·subst q;rw [List.length_set];exact s1 _ (List.getElem_mem hi)
 ·rw [List.length_set]
 ·intro e;exact q2 (by simpa using e)
 ·rw [get_put,if_pos rfl,←flat_set s1 hi hj];rfl
 ·exact Grow.put (Grow.kill hw0 S g q3.2) q3.1 (by rw [kill_size];exact hbs) hw0 _
end
end Abs
end Go.Proofs.YthgcjbniipfnbaaGreatDoor
namespace Go.Proofs.YthgcjbniipfnbaaGreatDoor
namespace Abs
noncomputable section
set_option linter.unusedVariables false
set_option linter.unusedSimpArgs false
open Go.RowKit
theorem VRs.at {ρ:Rho}:∀ {x:List V} {a:List Value},VRs ρ x a→∀ {i:Nat} {v:V},x[i]? = some v→∃ u,a[i]? = some u∧VR ρ v u
 | _,_,.nil,i,v,h=>by simp at h
 | _,_,.cons v0 u0 x a h0 t,0,v,h=>by simp at h;subst h;exact ⟨u0,by simp,h0⟩
 | _,_,.cons v0 u0 x a h0 t,i+1,v,h=>by simp at h;obtain ⟨u,q1,q2⟩:=VRs.at t h;exact ⟨u,by simpa using q1,q2⟩
theorem noRho_le (ρ:Rho):RLe noRho ρ:=by intro b e h;cases h
theorem Rel.addRo {P:Program} {w:World} {ρ:Rho} {h:Heap} (r:Rel P w.heap.size w ρ h w) (e:Emb) (cs:List V) (hb:e.blk<w.heap.size) (hc:CellFacts ρ w e cs) :
  Rel P w.heap.size w (fun b=>if b=h.size then some e else ρ b) (h.push (.cells cs .ro)) w∧RLe ρ (fun b=>if b=h.size then some e else ρ b):=by
 have hle:RLe ρ (fun b=>if b=h.size then some e else ρ b):=by
  intro b f hf
  have:=r.dom b f hf
  simp only
  rw [if_neg (by omega)];exact hf
 refine ⟨⟨?_,?_,?_,?_,?_,r.below,r.base,r.glob.mono hle⟩,hle⟩
 ·intro b f hf
  split at hf
  ·simp only [Heap.push];omega
  ·have:=r.dom b f hf;simp only [Heap.push];omega
 ·intro b f hf
  split at hf
  ·rename_i q;cases hf;subst q
   exact ⟨_,get_push_self _ _,hb,hc.mono hle⟩
  ·rename_i q
   obtain ⟨o,q1,q2⟩:=r.obj b f hf
   exact ⟨o,by rw [get_push,if_neg q];exact q1,q2.mono hle⟩
 ·intro b b' f f' o o' S h1 h2 hne h3 h4 h5 h6 h7
  rw [get_push] at h3 h5
  split at h1
  ·rename_i q
   rw [if_pos q] at h3;cases h3;cases h4
  ·rename_i q
   rw [if_neg q] at h3
   split at h2
   ·rename_i q2
    rw [if_pos q2] at h5;cases h5;cases h2
    obtain ⟨o2,g1,g2⟩:=r.obj b f h1
    rw [h3] at g1;cases g1
    exfalso
    cases o with
    | cells cs1 st =>
     cases st with
     | ro=>cases h4
     | sup=>cases h4
     | tip S1 fz=>have:=g2.1;omega
    | map _ _ _ | loop _ _ _ _ _ _ _ | dfr | iter _=>have:=g2.1;omega
    | dead=>cases h4
   ·rename_i q2
    rw [if_neg q2] at h5
    exact r.sep b b' f f' o o' S h1 h2 hne h3 h4 h5 h6 h7
 ·intro b f o h1 h2 h3
  rw [get_push] at h2
  split at h1
  ·cases h1;exact hb
  ·rename_i q
   rw [if_neg q] at h2
   exact r.live b f o h1 h2 h3
 ·intro b hb'
  simp only [Heap.push] at hb'
  rw [get_push,if_neg (by omega)]
  exact r.fresh b (by omega)
section
variable {H:Type} {enc:TypeId × Value→H} {P:Program} {w:World} {spare:Nat→Bool} {held:Bool}
end
end
end Abs
end Go.Proofs.YthgcjbniipfnbaaGreatDoor
namespace Go.Proofs.YthgcjbniipfnbaaGreatDoor
namespace Abs
noncomputable section
set_option linter.unusedVariables false
set_option linter.unusedSimpArgs false
open Go.RowKit
def Fit (h:Heap) (sz:Nat) (x:V) (es:List (List V)):Prop:=Sl h sz x es∧∃ a,x=.slice a es.length es.length
theorem Fit.append {h0 h:Heap} {sz bytes:Nat} {tyK:Option Nat} {x y:V} {es fs:List (List V)} (g:Grow h0 h) (s:Fit h sz x es) (t:Sl h sz y fs) (hsz:sz≠0) (hb:bytes≠0) (hr:roomy (es.length+fs.length) bytes=true) (h1:∀ c∈fs,∀ v∈c,V.one v=true) :
  ∃ v h',appendA h sz bytes tyK x y=some (v,h')∧Grow h0 h'∧((fs=[]∧v=x∧h'=h)∨Grown h' h0.size sz v (es++fs)):=by
 have hlen:=flat_len t.1
 have hone:fs.flatten.all V.one=true:=by
  rw [List.all_eq_true];intro v hv
  obtain ⟨c,hc,hv⟩:=List.mem_flatten.1 hv
  exact h1 c hc v hv
 have hA:appendA h sz bytes tyK x y=appendCore h sz bytes tyK x fs.length fs.flatten:=by
  simp only [appendA,t.len,t.cells]
  rw [if_pos ⟨hsz,hb,hlen,hone⟩]
 rw [hA]
 obtain ⟨s,a,rfl⟩:=s
 have hall:∀ c∈es++fs,c.length=sz:=by
  intro c hc
  rcases List.mem_append.1 hc with q | q
  ·exact s.1 c q
  ·exact t.1 c q
 have hcells:=s.cells
 by_cases hf:fs=[]
 ·subst hf
  refine ⟨_,_,?_,g,.inl ⟨rfl,rfl,rfl⟩⟩
  cases a with
  | none =>
   have:=s.2
   simp only at this
   simp [appendCore,this.1]
  | some p=>obtain ⟨b,o⟩:=p;simp [appendCore]
 have hn:fs.length≠0:=by intro e;exact hf (List.length_eq_zero_iff.1 e)
 cases a with
 | none =>
  have h2:=s.2
  simp only at h2
  obtain ⟨_,_,rfl⟩:=h2
  simp only [List.length_nil,Nat.zero_add] at hr
  refine ⟨.oslice h.size 0 fs.length fs.length sz,h.push (.cells fs.flatten (.tip [] 0 tyK)),?_,g.push _,.inr ⟨hall,.inr ⟨h.size,[],tyK,rfl,by simpa using hf,⟨g.size,by simp⟩,?_⟩⟩⟩
  ·simp only [appendCore,if_neg hn,hr,if_true]
  ·rw [get_push_self];rfl
 | some p =>
  obtain ⟨b,o⟩:=p
  refine ⟨.oslice h.size 0 (es.length+fs.length) (es.length+fs.length) sz,h.push (.cells (es.flatten++fs.flatten) (.tip [] 0 tyK)),?_,g.push _,.inr ⟨hall,.inr ⟨h.size,[],tyK,by rw [List.length_append],by simp [hf],⟨g.size,by simp⟩,?_⟩⟩⟩
  ·simp only [appendCore]
   rw [if_neg (by omega),if_pos hr,hcells]
  ·rw [get_push_self,List.flatten_append]
end
end Abs
end Go.Proofs.YthgcjbniipfnbaaGreatDoor
namespace Go.Proofs.YthgcjbniipfnbaaGreatDoor
namespace Abs
noncomputable section
set_option linter.unusedVariables false
set_option linter.unusedSimpArgs false
open Go.RowKit
def Off (x:V) (c:Nat):Prop:=∀ b o l k z,x=.oslice b o l k z→b≠c
theorem Off.nil (c:Nat):Off (.slice none 0 0) c:=by intro b o l k z h;cases h
theorem Grown.frame {h h':Heap} {low sz:Nat} {x:V} {es:List (List V)} (g:Grown h low sz x es) (hf:∀ b o,h.get b=some o→(∀ o2 l k z,x=.oslice b o2 l k z→h'.get b=some o)):Grown h' low sz x es:=by
 obtain ⟨g1,g2 | ⟨b,S,ty,q1,q2,q3,q4⟩⟩:=g
 ·exact ⟨g1,.inl g2⟩
 ·exact ⟨g1,.inr ⟨b,S,ty,q1,q2,q3,hf b _ q4 0 es.length es.length sz q1⟩⟩
theorem Grown.append2 {h0 h:Heap} {sz bytes:Nat} {tyK:Option Nat} {x y:V} {es fs:List (List V)} (hw0:Wf h0) (g:Grow h0 h) (s:Grown h h0.size sz x es) (t:Sl h sz y fs) (hsz:sz≠0) (hb:bytes≠0) (hr:roomy (es.length+fs.length) bytes=true) (h1:∀ c∈fs,∀ v∈c,V.one v=true) :
  ∃ v h',appendA h sz bytes tyK x y=some (v,h')∧Grown h' h0.size sz v (es++fs)∧Grow h0 h'∧(∀ b o,h.get b=some o→Off x b→h'.get b=some o)∧(∀ c,c<h.size→Off x c→Off v c):=by
 have hw:=g.wf
 have hlen:=flat_len t.1
 have hone:fs.flatten.all V.one=true:=by
  rw [List.all_eq_true];intro v hv
  obtain ⟨c,hc,hv⟩:=List.mem_flatten.1 hv
  exact h1 c hc v hv
 have hA:appendA h sz bytes tyK x y=appendCore h sz bytes tyK x fs.length fs.flatten:=by
  simp only [appendA,t.len,t.cells]
  rw [if_pos ⟨hsz,hb,hlen,hone⟩]
 rw [hA]
 have hall:∀ c∈es++fs,c.length=sz:=by
  intro c hc
  rcases List.mem_append.1 hc with q | q
  ·exact s.1 c q
  ·exact t.1 c q
 have hpush:∀ (h2:Heap) o,h2.size=h.size→∀ b o',b<h.size→h2.get b=some o'→(h2.push o).get b=some o':=by
  intro h2 o hs b o' hb' hg
  rw [get_push,if_neg (by omega)];exact hg
 obtain ⟨s1,⟨rfl,rfl⟩ | ⟨b,S,ty,rfl,q2,q3,q4⟩⟩:=s
 ·by_cases hf:fs=[]
  ·subst hf
   exact ⟨_,_,rfl,⟨by simp,.inl ⟨rfl,rfl⟩⟩,g,fun b o hg _=>hg,fun c _ ho=>ho⟩
  ·have hn:fs.length≠0:=by intro e;exact hf (List.length_eq_zero_iff.1 e)
   simp only [List.length_nil,Nat.zero_add] at hr
   refine ⟨.oslice h.size 0 fs.length fs.length sz,h.push (.cells fs.flatten (.tip [] 0 tyK)),?_,⟨hall,.inr ⟨h.size,[],tyK,rfl,hf,⟨g.size,by simp⟩,?_⟩⟩,g.push _,fun b o hg _=>hpush h _ rfl b o (Wf.lt hw hg) hg,?_⟩
   ·simp only [appendCore,if_neg hn,hr,if_true]
   ·rw [get_push,if_pos rfl];rfl
   ·intro c hc _ b o l k z e;cases e;omega
 ·by_cases hf:fs=[]
  ·subst hf
   refine ⟨.oslice b 0 es.length es.length sz,h,?_,?_,g,fun b o hg _=>hg,fun c _ ho=>ho⟩
   ·simp [appendCore]
   ·rw [List.append_nil];exact ⟨s1,.inr ⟨b,S,ty,rfl,q2,q3,q4⟩⟩
  ·have hn:fs.length≠0:=by intro e;exact hf (List.length_eq_zero_iff.1 e)
   have hn2:es.length≠0:=by intro e;exact q2 (List.length_eq_zero_iff.1 e)
   have hbs:b<h.size:=Wf.lt hw q4
   have hfl:=flat_len s1
   refine ⟨.oslice h.size 0 (es.length+fs.length) (es.length+fs.length) sz,(h.put b (.cells es.flatten .sup)).push (.cells (es.flatten++fs.flatten) (.tip (b::S) 0 (joinTy tyK ty 0))),?_,⟨hall,.inr ⟨h.size,b::S,joinTy tyK ty 0,?_,by simp [hf],⟨g.size,?_⟩,?_⟩⟩,(g.put q3.1 hbs hw0 _).push _,?_,?_⟩
   ·simp only [appendCore]
    rw [if_neg (by omega),if_pos ⟨trivial,hn2,hr⟩,q4]
    simp only
    rw [if_pos ⟨by omega,by omega⟩]
    simp
   ·rw [List.length_append]
   ·intro s hs;rcases List.mem_cons.1 hs with e | e
    ·subst e;exact q3.1
    ·exact q3.2 s e
   ·rw [get_push,if_pos (by rfl),List.flatten_append]
   ·intro b' o hg ho
    have hne:b'≠b:=fun e=>ho b 0 es.length es.length sz rfl e.symm
    exact hpush (h.put b (.cells es.flatten .sup)) _ rfl b' o (Wf.lt hw hg) (by rw [get_put,if_neg hne];exact hg)
   ·intro c hc _ b' o l k z e;cases e;omega
end
end Abs
end Go.Proofs.YthgcjbniipfnbaaGreatDoor
namespace Go.Proofs.YthgcjbniipfnbaaGreatDoor
namespace Abs
noncomputable section
set_option linter.unusedVariables false
set_option linter.unusedSimpArgs false
open Go.RowKit
structure Chg (F:List Nat) (h h':Heap):Prop where
 wf:Wf h'
 size:h.size≤h'.size
 keep:∀ b o,b∉F→h.get b=some o→h'.get b=some o
def Comes (h:Heap) (F F':List Nat):Prop:=∀ b∈F',b∈F∨h.size≤b
def Lows (h:Heap) (F:List Nat):Prop:=∀ b∈F,b<h.size
def Dj (F G:List Nat):Prop:=∀ b∈F,b∉G
theorem Grow.chg {h h':Heap} (g:Grow h h') (F:List Nat):Chg F h h':=⟨g.wf,g.size,fun b o _ q=>g.ext b o q⟩
theorem Chg.grow {h h':Heap} (g:Chg [] h h'):Grow h h':=⟨g.wf,g.size,fun b o q=>g.keep b o (by simp) q⟩
theorem Chg.mono {F G:List Nat} {h h':Heap} (g:Chg F h h') (hs:∀ b∈F,b∈G):Chg G h h':=⟨g.wf,g.size,fun b o q=>g.keep b o fun c=>q (hs b c)⟩
theorem Chg.trans {F G:List Nat} {h h1 h2:Heap} (g:Chg F h h1) (g':Chg G h1 h2) (hw:Wf h) (hc:Comes h F G):Chg F h h2 :=
 ⟨g'.wf,Nat.le_trans g.size g'.size,fun b o q hb=>g'.keep b o (fun c=>by
  rcases hc b c with e | e
  ·exact q e
  ·rw [hw b e] at hb;cases hb) (g.keep b o q hb)⟩
theorem Chg.growl {F:List Nat} {h h1 h2:Heap} (g:Grow h h1) (g':Chg F h1 h2):Chg F h h2 :=
 ⟨g'.wf,Nat.le_trans g.size g'.size,fun b o q hb=>g'.keep b o q (g.ext b o hb)⟩
theorem Chg.growr {F:List Nat} {h h1 h2:Heap} (g:Chg F h h1) (g':Grow h1 h2):Chg F h h2 :=
 ⟨g'.wf,Nat.le_trans g.size g'.size,fun b o q hb=>g'.ext b o (g.keep b o q hb)⟩
theorem Chg.put {h:Heap} (hw:Wf h) {a:Nat} (ha:a<h.size) (o:Obj):Chg [a] h (h.put a o) :=
 ⟨fun b hb=>by rw [get_put,if_neg (by simp only [Heap.put] at hb;omega)];exact hw b hb,Nat.le_refl _,fun b o' q hb=>by rw [get_put,if_neg (by simpa using q)];exact hb⟩
theorem Comes.refl (h:Heap) (F:List Nat):Comes h F F:=fun b hb=>.inl hb
theorem Comes.trans {h h1:Heap} {F G K:List Nat} (c:Comes h F G) (d:Comes h1 G K) (hs:h.size≤h1.size):Comes h F K:=fun b hb=>by
 rcases d b hb with e | e
 ·exact c b e
 ·exact .inr (by omega)
theorem Dj.symm {F G:List Nat} (h:Dj F G):Dj G F:=fun b hb hg=>h b hg hb
/-! ### Functions that write to memory that was there -/
section
variable {C:Cfg} {f:Nat} {args:List V} {h:Heap}
theorem Ans.hm {R:V→Heap→Prop} (hSm:∀ f args h v h',C.S f args h=some (some (v,h'))→HM h h') (hx:Ans C f args h R):Ans C f args h fun v h'=>R v h'∧h'.low≤h.low:=by
 obtain ⟨v,h',⟨n,q1⟩,q2⟩:=hx
 exact ⟨v,h',⟨n,q1⟩,q2,((HM.run C hSm n).1 (.fn f) args h v h' q1).low⟩
end
/-! ### Splicing -/
end
end Abs
end Go.Proofs.YthgcjbniipfnbaaGreatDoor
namespace Go.Proofs.YthgcjbniipfnbaaGreatDoor
namespace Abs
noncomputable section
set_option linter.unusedVariables false
set_option linter.unusedSimpArgs false
open Go.RowKit
namespace StepK
variable {e:List (Nat × V)} {h h':Heap} {x y z:Opd} {a b v:V}
theorem idxArr {n sz:Nat} (hx:evE e x=some a) (hy:evE e y=some b) (hi:idxArrA n sz a b=some v):StepK e h (.idxArr n sz x y) v h:=fun tm hs=>by simp only [opK,hs.ev hx,hs.ev hy,hi]
theorem atArr {n sz:Nat} {g:Option Nat} (hx:evE e x=some a) (hy:evE e y=some b) (hi:atArrA n sz g a b=some v):StepK e h (.atArr n sz g x y) v h:=fun tm hs=>by simp only [opK,hs.ev hx,hs.ev hy,hi]
theorem atStr (hx:evE e x=some a) (hy:evE e y=some b) (hi:atStrA a b=some v):StepK e h (.atStr x y) v h:=fun tm hs=>by simp only [opK,hs.ev hx,hs.ev hy,hi]
theorem inv {k:IntKind} {n:Int} (hx:evE e x=some (.int k n)):StepK e h (.inv x) (.int k (k.wrap (BitVec.ofInt k.bits (if k.signed then -1 else k.max) ^^^ BitVec.ofInt k.bits n).toNat)) h:=fun tm hs=>by simp only [opK,hs.ev hx]
theorem neg {k:IntKind} {n:Int} (hx:evE e x=some (.int k n)):StepK e h (.neg x) (.int k (k.wrap (0-n))) h:=fun tm hs=>by simp only [opK,hs.ev hx]
theorem sliceStr {lo hi:Option Opd} {l' h2:Option V} (hx:evE e x=some a) (h1:evoE e lo=some l') (h3:evoE e hi=some h2) (h5:sliceStrA a l' h2=some v):StepK e h (.sliceStr x lo hi) v h:=fun tm hs=>by simp only [opK,hs.ev hx,hs.evo h1,hs.evo h3,h5]
theorem appendS {ty:Option Nat} (hx:evE e x=some a) (hy:evE e y=some b) (ha:appendSA h ty a b=some (v,h')):StepK e h (.appendS ty x y) v h':=fun tm hs=>by simp only [opK,hs.ev hx,hs.ev hy,ha]
theorem sliceData (hx:evE e x=some a) (ha:sliceDataA a=some v):StepK e h (.sliceData x) v h:=fun tm hs=>by simp only [opK,hs.ev hx,ha]
theorem unsStr {t:Nat} (hx:evE e x=some a) (hy:evE e y=some b) (ha:unsStrA h t a b=some (v,h')):StepK e h (.unsStr t x y) v h':=fun tm hs=>by simp only [opK,hs.ev hx,hs.ev hy,ha]
theorem unsP (hx:evE e x=some a) (ha:unsPA h a=true):StepK e h (.unsP x) a h:=fun tm hs=>by simp only [opK,hs.ev hx,ha,if_true]
theorem ofUns {u n:Nat} (hx:evE e x=some a) (ha:ofUnsA h u n a=true):StepK e h (.ofUns u n x) a h:=fun tm hs=>by simp only [opK,hs.ev hx,ha,if_true]
theorem makeMap:StepK e h .makeMap (.map (some h.size)) (h.push (.map [] [] 0)):=fun tm hs=>by simp only [opK]
theorem toBytes {s:List Nat} (hx:evE e x=some (.str s)):StepK e h (.toBytes x) (.oslice h.size 0 s.length s.length 0) (h.push (.cells (bytesV s) (.tip [] 0 none))):=fun tm hs=>by simp only [opK,hs.ev hx]
theorem same {s:List Nat} (hx:evE e x=some (.str s)):StepK e h (.same x) (.str s) h:=fun tm hs=>by simp only [opK,hs.ev hx]
theorem makeSl {sz bytes:Nat} {zs:List V} (hx:evE e x=some a) (hy:evE e y=some b) (ha:makeSlA h sz bytes zs a b=some (v,h')):StepK e h (.makeSl sz bytes zs x y) v h':=fun tm hs=>by simp only [opK,hs.ev hx,hs.ev hy,ha]
end StepK
theorem wr_cell {h:Heap} {b i:Nat} {cs:List V} {v:V} {ty:Option Nat} (hg:h.get b=some (.cells cs (.tip [] 0 ty))) (hi:i<cs.length) (hv:V.one v=true):h.wr b i [v]=some (h.put b (.cells (cs.set i v) (.tip [] 0 ty))):=by
 simp only [Heap.wr,hg]
 rw [if_pos ⟨Nat.zero_le _,by simp only [List.length_singleton];omega,by simp [hv]⟩]
 rfl
theorem splice_all {α:Type}:∀ (us:List α) (p cs:List α),us.length=cs.length→splice (p++cs) p.length us=p++us
 | [],p,cs,h=>by
  have:cs=[]:=List.length_eq_zero_iff.1 (by simpa using h.symm)
  subst this;rfl
 | u::us,p,[],h=>by simp at h
 | u::us,p,c::cs,h=>by
  unfold splice
  have e:(p++c::cs).set p.length u=(p++[u])++cs:=by
   rw [List.set_append_right _ _ (Nat.le_refl _),Nat.sub_self,List.set_cons_zero,List.append_assoc];rfl
  rw [e]
  have:=splice_all us (p++[u]) cs (by simpa using h)
  rw [List.length_append,List.length_singleton] at this
  rw [this,List.append_assoc];rfl
theorem wr_all {h:Heap} {b:Nat} {cs us:List V} {ty:Option Nat} (hg:h.get b=some (.cells cs (.tip [] 0 ty))) (hl:us.length=cs.length) (hv:us.all V.one=true):h.wr b 0 us=some (h.put b (.cells us (.tip [] 0 ty))):=by
 simp only [Heap.wr,hg]
 rw [if_pos ⟨Nat.zero_le _,by omega,hv⟩]
 have:=splice_all us [] cs hl
 simp only [List.nil_append,List.length_nil] at this
 rw [this]
 rfl
theorem rd_cell {h:Heap} {b i:Nat} {cs:List V} {st:St} (hg:h.get b=some (.cells cs st)):h.rd b i=cs[i]?:=by simp only [Heap.rd,hg]
theorem idxArr_at {n sz b o:Nat} {k:IntKind} {i:Int} (h0:0≤i) (h1:i<n):idxArrA n sz (.ptr (some (b,o))) (.int k i)=some (.ptr (some (b,o+i.toNat*sz))):=by
 simp only [idxArrA,intV]
 rw [if_pos ⟨h0,h1⟩]
theorem bin_shr {k k':IntKind} {a n:Int} (hn:0≤n):binA .shr (.int k a) (.int k' n)=some (.int k (a.fdiv (2 ^ (min n.toNat k.bits)))):=by
 simp only [binA,shiftA]
 rw [if_neg (by omega)]
theorem bin_shl {k k':IntKind} {a n:Int} (hn:0≤n):binA .shl (.int k a) (.int k' n)=some (.int k (k.wrap (a*2 ^ (min n.toNat k.bits)))):=by
 simp only [binA,shiftA]
 rw [if_neg (by omega)]
end
end Abs
end Go.Proofs.YthgcjbniipfnbaaGreatDoor
namespace Go.Proofs.YthgcjbniipfnbaaGreatDoor
namespace Abs
noncomputable section
set_option linter.unusedVariables false
set_option linter.unusedSimpArgs false
open Go.RowKit
section
variable {P:Program} {B:Nat} {w0:World}
theorem Rel.cutG {ρ ρ':Rho} {h h1:Heap} {w w':World} (r:Rel P B w0 ρ h w) (r1:Rel P B w0 ρ' h1 w') (hn:New ρ ρ' h.size) (hg:∀ b o,h.get b=some o→h1.get b=some o):Rel P B w0 ρ h w':=by
 have nar:∀ b e,b<h.size→ρ' b=some e→ρ b=some e:=fun b e hb he=>(hn.2 b e he).resolve_right (by omega)
 refine ⟨r.dom,fun b e hb=>?_,?_,fun b e o h1' h2 h3=>?_,r.fresh,r1.below,r1.base,r.glob⟩
 ·obtain ⟨o,q1,q2⟩:=r.obj b e hb
  obtain ⟨o',g1,g2⟩:=r1.obj b e (hn.1 b e hb)
  rw [hg b o q1] at g1
  cases g1
  exact ⟨o,q1,ORel.narrow nar r.dom q2 g2⟩
 ·intro b b' e e' o o' S q1 q2 q3 q4 q5 q6 q7 q8
  exact r1.sep b b' e e' o o' S (hn.1 _ _ q1) (hn.1 _ _ q2) q3 (hg b o q4) q5 (hg b' o' q6) q7 q8
 ·exact r1.live b e o (hn.1 _ _ h1') (hg b o h2) h3
theorem snd_cut {ρ:Rho} {h h':Heap} {w:World} {v:V} {f:Nat} {us:Array Value} (r:Rel P B w0 ρ h w) (hx:CallSnd P B w0 ρ f us w h v h') (hv:v.scopd h.size=true) (hg:∀ b o,h.get b=some o→h'.get b=some o):CallSnd P B w0 ρ f us w h v h:=by
 have conv:∀ u w',Ret P B w0 ρ h.size v h' u w'→Ret P B w0 ρ h.size v h u w':=by
  rintro u w' ⟨ρ',q1,q2,q3⟩
  exact ⟨ρ,q1.narrow (fun b e hb he=>(q3.2 b e he).resolve_right (by omega)) hv,r.cutG q2 q3 hg,New.refl _ _⟩
 rcases hx with ⟨q1,q2⟩ | ⟨u,w',q1,q2⟩
 ·refine .inl ⟨q1,fun m=>?_⟩
  obtain ⟨g1,g2⟩:=q2 m
  refine ⟨g1,fun cs hcs=>?_⟩
  obtain ⟨e,w',fr,q3,q4,q5,q6⟩:=g2 cs hcs
  refine ⟨e,w',fr,?_,q4,q5,q6⟩
  cases e with
  | returned u=>exact conv u w' q3
  | panicked c=>exact q3.elim
  | outgrown=>exact q3.elim
 ·exact .inr ⟨u,w',q1,conv u w' q2⟩
theorem pure_sum {C:Cfg} (hT:TableOk P C) (hS:SumOk P B w0 C) {f:Nat} {args:List V} {val:V} {h:Heap} (hx:Ans C f args h fun v h'=>v=val∧Grow h h') (hv:val.scopd h.size=true)
  {ρ:Rho} {w:World} {us:Array Value} (r:Rel P B w0 ρ h w) (hr:VRs ρ args us.toList):CallSnd P B w0 ρ f us w h val h:=by
 obtain ⟨v,h',⟨n,hn⟩,rfl,g⟩:=hx
 exact snd_cut r ((run_sound hT hS n).1.fn f args h v h' hn ρ w us r hr) hv g.ext
end
/-! ### Short names, for texts that a program of mine expands -/
section
variable {C:Cfg} {e:List (Nat × V)} {h:Heap} {l:List AOp} {ld:List DOp} {d q idx:Nat} {anc:List Nat} {P:List (Nat × (Heap→Prop))} {x y z:Opd} {a b v:V} {Q:List (Nat × V)→Heap→Prop}
theorem omv  (hx:evE e x=some v) (hq:WO C l ((d,v)::e) h Q):WO C (⟨some d,none,.mv x⟩::l) e h Q:=WO.ops (StepK.mv hx) hq
theorem dmv  (hx:evE e x=some v) (hq:WD C (q+1) ld P ((d,v)::e) h Q):WD C q (⟨⟨some d,none,.mv x⟩,idx,anc⟩::ld) P e h Q:=WD.pure (StepK.mv hx) rfl hq
theorem ols {n:Nat} (hx:evE e x=some a) (hl:slLen a=some n) (hq:WO C l ((d,(.int .i64 n))::e) h Q):WO C (⟨some d,none,.lenSl x⟩::l) e h Q:=WO.ops (StepK.lenSl hx hl) hq
theorem dls {n:Nat} (hx:evE e x=some a) (hl:slLen a=some n) (hq:WD C (q+1) ld P ((d,(.int .i64 n))::e) h Q):WD C q (⟨⟨some d,none,.lenSl x⟩,idx,anc⟩::ld) P e h Q:=WD.pure (StepK.lenSl hx hl) rfl hq
theorem ofa {bk o off:Nat} (hx:evE e x=some (.ptr (some (bk,o)))) (hq:WO C l ((d,(.ptr (some (bk,o+off))))::e) h Q):WO C (⟨some d,none,.fieldAddr off x⟩::l) e h Q:=WO.ops (StepK.fieldAddr hx) hq
theorem dfa {bk o off:Nat} (hx:evE e x=some (.ptr (some (bk,o)))) (hq:WD C (q+1) ld P ((d,(.ptr (some (bk,o+off))))::e) h Q):WD C q (⟨⟨some d,none,.fieldAddr off x⟩,idx,anc⟩::ld) P e h Q:=WD.pure (StepK.fieldAddr hx) rfl hq
theorem old {bk o:Nat} (hx:evE e x=some (.ptr (some (bk,o)))) (hl:h.rd bk o=some v) (hq:WO C l ((d,v)::e) h Q):WO C (⟨some d,none,.load none x⟩::l) e h Q:=WO.ops (StepK.load1 hx hl) hq
theorem oad {m n:Int} (hx:evE e x=some (.int .i64 m)) (hy:evE e y=some (.int .i64 n)) (h1:-9223372036854775808≤m+n∧m+n<9223372036854775808) (hq:WO C l ((d,(.int .i64 (m+n)))::e) h Q):WO C (⟨some d,none,.bin .add x y⟩::l) e h Q:=WO.ops (StepK.add hx hy h1) hq
theorem dad {m n:Int} (hx:evE e x=some (.int .i64 m)) (hy:evE e y=some (.int .i64 n)) (h1:-9223372036854775808≤m+n∧m+n<9223372036854775808) (hq:WD C (q+1) ld P ((d,(.int .i64 (m+n)))::e) h Q):WD C q (⟨⟨some d,none,.bin .add x y⟩,idx,anc⟩::ld) P e h Q:=WD.pure (StepK.add hx hy h1) rfl hq
theorem osb {m n:Int} (hx:evE e x=some (.int .i64 m)) (hy:evE e y=some (.int .i64 n)) (h1:-9223372036854775808≤m-n∧m-n<9223372036854775808) (hq:WO C l ((d,(.int .i64 (m-n)))::e) h Q):WO C (⟨some d,none,.bin .sub x y⟩::l) e h Q:=WO.ops (StepK.sub hx hy h1) hq
theorem dsb {m n:Int} (hx:evE e x=some (.int .i64 m)) (hy:evE e y=some (.int .i64 n)) (h1:-9223372036854775808≤m-n∧m-n<9223372036854775808) (hq:WD C (q+1) ld P ((d,(.int .i64 (m-n)))::e) h Q):WD C q (⟨⟨some d,none,.bin .sub x y⟩,idx,anc⟩::ld) P e h Q:=WD.pure (StepK.sub hx hy h1) rfl hq
theorem obn {op:BinOp} (hx:evE e x=some a) (hy:evE e y=some b) (hb:binA op a b=some v) (hq:WO C l ((d,v)::e) h Q):WO C (⟨some d,none,.bin op x y⟩::l) e h Q:=WO.ops (StepK.bin hx hy hb) hq
theorem dbn {op:BinOp} (hx:evE e x=some a) (hy:evE e y=some b) (hb:binA op a b=some v) (hq:WD C (q+1) ld P ((d,v)::e) h Q):WD C q (⟨⟨some d,none,.bin op x y⟩,idx,anc⟩::ld) P e h Q:=WD.pure (StepK.bin hx hy hb) rfl hq
theorem opt  (hx:evE e x=some (.bool true)) (hy:evE e y=some v) (hq:WO C l ((d,v)::e) h Q):WO C (⟨some d,none,.pick x y z⟩::l) e h Q:=WO.ops (StepK.pickT hx hy) hq
theorem dpt  (hx:evE e x=some (.bool true)) (hy:evE e y=some v) (hq:WD C (q+1) ld P ((d,v)::e) h Q):WD C q (⟨⟨some d,none,.pick x y z⟩,idx,anc⟩::ld) P e h Q:=WD.pure (StepK.pickT hx hy) rfl hq
theorem opf  (hx:evE e x=some (.bool false)) (hy:evE e z=some v) (hq:WO C l ((d,v)::e) h Q):WO C (⟨some d,none,.pick x y z⟩::l) e h Q:=WO.ops (StepK.pickF hx hy) hq
theorem dpf  (hx:evE e x=some (.bool false)) (hy:evE e z=some v) (hq:WD C (q+1) ld P ((d,v)::e) h Q):WD C q (⟨⟨some d,none,.pick x y z⟩,idx,anc⟩::ld) P e h Q:=WD.pure (StepK.pickF hx hy) rfl hq
theorem ont {t:Bool} (hx:evE e x=some (.bool t)) (hq:WO C l ((d,(.bool (!t)))::e) h Q):WO C (⟨some d,none,.not x⟩::l) e h Q:=WO.ops (StepK.not hx) hq
theorem dnt {t:Bool} (hx:evE e x=some (.bool t)) (hq:WD C (q+1) ld P ((d,(.bool (!t)))::e) h Q):WD C q (⟨⟨some d,none,.not x⟩,idx,anc⟩::ld) P e h Q:=WD.pure (StepK.not hx) rfl hq
theorem oeq {neg t:Bool} {dd:EqD} (hx:evE e x=some a) (hy:evE e y=some b) (hb:eqA dd a b=some t) (hq:WO C l ((d,(.bool (if neg then !t else t)))::e) h Q):WO C (⟨some d,none,.eq neg dd x y⟩::l) e h Q:=WO.ops (StepK.eq hx hy hb) hq
theorem oex {i:Nat} {vs:List V} (hx:evE e x=some (.tuple vs)) (hi:vs[i]? = some v) (hq:WO C l ((d,v)::e) h Q):WO C (⟨some d,none,.extract i x⟩::l) e h Q:=WO.ops (StepK.extract hx hi) hq
theorem obu {zs cs:List V} {ps:List (Nat × Nat × Opd)} {us:List (Nat × Nat × V)} (hp:evPartsE e ps=some us) (hf:fillV zs us=some cs) (hq:WO C l ((d,(.agg cs))::e) h Q):WO C (⟨some d,none,.build zs ps⟩::l) e h Q:=WO.ops (StepK.build hp hf) hq
theorem dbu {zs cs:List V} {ps:List (Nat × Nat × Opd)} {us:List (Nat × Nat × V)} (hp:evPartsE e ps=some us) (hf:fillV zs us=some cs) (hq:WD C (q+1) ld P ((d,(.agg cs))::e) h Q):WD C q (⟨⟨some d,none,.build zs ps⟩,idx,anc⟩::ld) P e h Q:=WD.pure (StepK.build hp hf) rfl hq
theorem omf {fn:Fn} {f1 c1:List Opd} {fs cs:List V} (h1:evsE e f1=some fs) (h2:evsE e c1=some cs) (hq:WO C l ((d,(.func fn fs cs))::e) h Q):WO C (⟨some d,none,.mkFn fn f1 c1⟩::l) e h Q:=WO.ops (StepK.mkFn h1 h2) hq
theorem ofd {off:Nat} {n:Option Nat} {cs:List V} (hx:evE e x=some (.agg cs)) (hf:aggOf n cs off=some v) (hq:WO C l ((d,v)::e) h Q):WO C (⟨some d,none,.field off n x⟩::l) e h Q:=WO.ops (StepK.field hx hf) hq
theorem olt {s:List Nat} (hx:evE e x=some (.str s)) (hq:WO C l ((d,(.int .i64 s.length))::e) h Q):WO C (⟨some d,none,.lenStr x⟩::l) e h Q:=WO.ops (StepK.lenStr hx) hq
theorem onk {p:Nat × Nat} (hx:evE e x=some (.ptr (some p))) (hq:WO C l ((d,(.ptr (some p)))::e) h Q):WO C (⟨some d,none,.nilck x⟩::l) e h Q:=WO.ops (StepK.nilck hx) hq
theorem dnk {p:Nat × Nat} (hx:evE e x=some (.ptr (some p))) (hq:WD C (q+1) ld P ((d,(.ptr (some p)))::e) h Q):WD C q (⟨⟨some d,none,.nilck x⟩,idx,anc⟩::ld) P e h Q:=WD.pure (StepK.nilck hx) rfl hq
theorem dmn {k k':IntKind} {m n:Int} (hx:evE e x=some (.int k m)) (hy:evE e y=some (.int k' n)) (hq:WD C (q+1) ld P ((d,(.int k (if n<m then n else m)))::e) h Q):WD C q (⟨⟨some d,none,.min2 x y⟩,idx,anc⟩::ld) P e h Q:=WD.pure (StepK.min2 hx hy) rfl hq
end
end
end Abs
end Go.Proofs.YthgcjbniipfnbaaGreatDoor
namespace Go.Proofs.YthgcjbniipfnbaaGreatDoor
namespace Abs
noncomputable section
set_option linter.unusedVariables false
set_option linter.unusedSimpArgs false
open Go.RowKit Go.Maps Go.MapKept
open Go.WideElems (rd rg)
section
variable {P:Program} {B:Nat} {w0 w:World} {ρ:Rho} {h:Heap}
theorem Rel.layAt (r:Rel P B w0 ρ h w) {b:Nat} {o:Obj} (hb:ρ b=none) (hlt:b<h.size) (hg:h.get b=some o) (e:Emb) (hw:e.blk<w.heap.size)
  (hfree:∀ b' e' o',ρ b'=some e'→h.get b'=some o'→o'.alive=true→e'.blk≠e.blk) (hrel:ORel P B (Rho.with_ ρ b e) w e o):Rel P B w0 (Rho.with_ ρ b e) h w:=by
 have hle:RLe ρ (Rho.with_ ρ b e):=with_le hb
 have old:∀ {x:Nat} {e':Emb},Rho.with_ ρ b e x=some e'→x≠b→ρ x=some e':=by
  intro x e' hx hne
  unfold Rho.with_ at hx
  rwa [if_neg hne] at hx
 have new:∀ {e':Emb},Rho.with_ ρ b e b=some e'→e'=e:=by
  intro e' hx
  rw [with_same] at hx
  cases hx;rfl
 refine ⟨fun x e' hx=>?_,fun x e' hx=>?_,?_,fun x e' o' h1 h2 h3=>?_,r.fresh,r.below,r.base,r.glob.mono hle⟩
 ·by_cases hne:x=b
  ·subst hne;exact hlt
  ·exact r.dom x e' (old hx hne)
 ·by_cases hne:x=b
  ·subst hne
   rw [new hx]
   exact ⟨o,hg,hrel⟩
  ·obtain ⟨o',h1,h2⟩:=r.obj x e' (old hx hne)
   exact ⟨o',h1,h2.mono hle⟩
 ·intro x x' e1 e2 o1 o2 S h1 h2 h3 h4 h5 h6 h7 h8
  by_cases hx:x=b
  ·subst hx
   have hx':x'≠x:=Ne.symm h3
   rw [new h1] at h8
   exact absurd h8 (hfree x' e2 o2 (old h2 hx') h6 h7)
  ·by_cases hx':x'=b
   ·subst hx'
    rw [new h2] at h8
    have ha:o1.alive=true:=by cases o1 <;> first | rfl | (cases h5;done)
    exact absurd h8.symm (hfree x e1 o1 (old h1 hx) h4 ha)
   ·exact r.sep x x' e1 e2 o1 o2 S (old h1 hx) (old h2 hx') h3 h4 h5 h6 h7 h8
 ·by_cases hx:x=b
  ·subst hx
   rw [new h1];exact hw
  ·exact r.live x e' o' (old h1 hx) h2 h3
theorem snd_calls {f:Nat} {us:Array Value} {v:V} {h':Heap} (he:(callFunc f us).run P w=.ok (.enter f us) w) (hc:Calls P f us w fun e w'=>RetE P B w0 ρ h.size v h' e w'):CallSnd P B w0 ρ f us w h v h' :=
 .inl ⟨he,fun n=>callsIn_wide.2 hc⟩
theorem ret_row (r:Rel P B w0 ρ h w) {w':World} {el:TypeId} {v:Value} {xs:List Value} {cs:List V} (hb:Below w.heap.size w w') (ho:w'.ownsRow w.heap.size el 1 v xs.length xs) (hx:VRs ρ cs xs) :
  (cs=[]→v=.slice none 0 0→Ret P B w0 ρ h.size (.slice none 0 0) h v w')∧(v≠.slice none 0 0→Ret P B w0 ρ h.size (.oslice h.size 0 cs.length cs.length 1) (h.push (.cells cs (.tip [] 0 none))) v w'):=by
 refine ⟨fun _ hv=>⟨ρ,by rw [hv];exact .sliceNil,r.below_keep hb,New.refl _ _⟩,fun hv=>?_⟩
 obtain ⟨_,⟨rfl,_⟩ | ⟨g,cap,cur,rfl,hg,hgb,hn,hcm,hcap,htake⟩⟩:=ho
 ·exact absurd rfl hv
 have r1:=(r.below_keep hb).push (.cells cs (.tip [] 0 none))
 have hnone:ρ h.size=none:=r.none_at
 have hgl:g<w'.heap.size:=(Array.getElem?_eq_some_iff.1 hgb).1
 have hlen:=hx.length
 have r2:=r1.layAt (b:=h.size) (o:=.cells cs (.tip [] 0 none)) hnone (by rw [Heap.size_push];omega) (by rw [Heap.get_push,if_pos rfl]) ⟨g,0,cap⟩ hgl
  (fun b' e' o' h1 h2 h3 he=>by
   have hlt:=r.dom b' e' h1
   rw [Heap.get_push,if_neg (by omega)] at h2
   have:=r.live b' e' o' h1 h2 h3
   simp only at he
   omega)
  ⟨Nat.le_trans r.base hg,fun i v hi=>by
   obtain ⟨u,q1,q2⟩:=hx.get i v hi
   refine ⟨u,?_,q2.mono (with_le hnone)⟩
   have hin:i<xs.length:=(List.getElem?_eq_some_iff.1 q1).1
   have:cur.toList[i]? = some u:=by
    rw [Nat.mul_one] at htake
    rw [←htake,List.getElem?_take,if_pos hin] at q1
    exact q1
   unfold at_ World.cell?
   simp only [hgb,Nat.zero_add]
   simpa using this,⟨⟨cur,el,(0,0),hgb,by rw [hcap,Nat.mul_one],.inl rfl,fun t ht=>by cases ht⟩,by simp only [Nat.zero_add];omega⟩⟩
 refine ⟨_,?_,r2,New.with_ hnone (Nat.le_refl _)⟩
 rw [←hlen]
 exact VR.oslice h.size 0 cs.length cs.length 1 cap ⟨g,0,cap⟩ ⟨g,0,none⟩ with_same (fun _=>⟨rfl,.inr ⟨by simp,by unfold maxLen at hcm;omega⟩⟩) (Nat.le_refl _) (by omega)
end
/-! ### Keys -/
def insI (x:Int):List Int→List Int
 | []=>[x]
 | y::r=>if x≤y then x::y::r else y::insI x r
def srtI:List Int→List Int
 | []=>[]
 | x::r=>insI x (srtI r)
def insS (x:List Nat):List (List Nat)→List (List Nat)
 | []=>[x]
 | y::r=>if lessL x y then x::y::r else y::insS x r
def srtS:List (List Nat)→List (List Nat)
 | []=>[]
 | x::r=>insS x (srtS r)
def incI:List Int→Bool
 | a::b::r=>decide (a<b) && incI (b::r)
 | _=>true
def incS:List (List Nat)→Bool
 | a::b::r=>lessL a b && incS (b::r)
 | _=>true
def incN (cl:Nat):List Nat→Bool
 | a::b::r=>decide (a<b) && incN cl (b::r)
 | [a]=>decide (a<cl)
 | []=>true
def intsOf:List (V × V)→Option (List Int)
 | []=>some []
 | (.int .i64 n,_)::r=>match intsOf r with
  | some l=>some (n::l)
  | none=>none
 | _::_=>none
def strsOf:List (V × V)→Option (List (List Nat))
 | []=>some []
 | (.str n,_)::r=>match strsOf r with
  | some l=>some (n::l)
  | none=>none
 | _::_=>none
def i64Ok (n:Int):Bool:=decide (-9223372036854775808≤n) && decide (n≤9223372036854775807)
def keysSum (fI mt:Nat) (args:List V) (h:Heap):Option (V × Heap) :=
 match args with
 | [.map m]=>some (.func (.func fI) [] [.ptr (some (h.size,0))],h.push (.cells [.map m] (.tip [] 0 (some mt))))
 | _=>none
def rowOf (h:Heap) (l:List V):V × Heap:=match l with
 | []=>(.slice none 0 0,h)
 | l=>(.oslice h.size 0 l.length l.length 1,h.push (.cells l (.tip [] 0 none)))
def boxedMap (fI mt:Nat) (args:List V) (h:Heap):Option (Option Nat) :=
 match args with
 | [.func (.func f) [] [.ptr (some (b,0))]]=>if f=fI then match h.get b with
   | some (.cells [.map m] (.tip [] _ (some t)))=>if t=mt then some m else none
   | _=>none
  else none
 | _=>none
def sortedISum (fI mt:Nat) (args:List V) (h:Heap):Option (V × Heap) :=
 match boxedMap fI mt args h with
 | some none=>some (.slice none 0 0,h)
 | some (some mb)=>match h.get mb with
  | some (.map es bs cl)=>match intsOf es with
   | some l=>if (incN cl bs && incI (srtI l) && l.all i64Ok && decide (l.length≤1000000))=true then some (rowOf h ((srtI l).map fun n=>.int .i64 n)) else none
   | none=>none
  | _=>none
 | none=>none
def sortedSSum (fI mt:Nat) (args:List V) (h:Heap):Option (V × Heap) :=
 match boxedMap fI mt args h with
 | some none=>some (.slice none 0 0,h)
 | some (some mb)=>match h.get mb with
  | some (.map es bs cl)=>match strsOf es with
   | some l=>if (incN cl bs && incS (srtS l) && l.all (fun s=>decide (s.length≤1000000)) && decide (l.length≤1000000))=true then some (rowOf h ((srtS l).map .str)) else none
   | none=>none
  | _=>none
 | none=>none
theorem insS_perm (x:List Nat):∀ l,(insS x l).Perm (x::l)
 | []=>.refl _
 | y::r=>by
  unfold insS
  split
  ·exact .refl _
  ·exact ((insS_perm x r).cons y).trans (.swap x y r)
theorem srtS_perm:∀ l,(srtS l).Perm l
 | []=>.refl _
 | x::r=>(insS_perm x _).trans ((srtS_perm r).cons x)
theorem incN_pw (cl:Nat):∀ l,incN cl l=true→l.Pairwise (·<·)∧∀ x∈l,x<cl
 | [],_=>⟨.nil,by simp⟩
 | [a],h=>⟨by simp,by simpa [incN] using h⟩
 | a::b::r,h=>by
  simp only [incN,Bool.and_eq_true,decide_eq_true_eq] at h
  obtain ⟨ih,ih2⟩:=incN_pw cl (b::r) h.2
  refine ⟨List.pairwise_cons.2 ⟨fun x hx=>?_,ih⟩,fun x hx=>?_⟩
  ·rcases List.mem_cons.1 hx with rfl | hx
   ·exact h.1
   ·exact Nat.lt_trans h.1 ((List.pairwise_cons.1 ih).1 x hx)
  ·rcases List.mem_cons.1 hx with rfl | hx
   ·exact Nat.lt_trans h.1 (ih2 b List.mem_cons_self)
   ·exact ih2 x hx
theorem lessL_trans:∀ {a b c:List Nat},lessL a b=true→lessL b c=true→lessL a c=true
 | _,[],_,h,_=>by cases ‹List Nat› <;> simp [lessL] at h
 | _,_::_,[],_,h=>by simp [lessL] at h
 | [],_::_,_::_,_,_=>by simp [lessL]
 | x::a,y::b,z::c,h1,h2=>by
  simp only [lessL,Bool.or_eq_true,decide_eq_true_eq,Bool.and_eq_true,beq_iff_eq] at h1 h2 ⊢
  rcases h1 with h1 | ⟨h1,h1'⟩ <;> rcases h2 with h2 | ⟨h2,h2'⟩
  ·exact .inl (by omega)
  ·exact .inl (by omega)
  ·exact .inl (by omega)
  ·exact .inr ⟨by omega,lessL_trans h1' h2'⟩
theorem lessL_irrefl:∀ a:List Nat,lessL a a=false
 | []=>rfl
 | x::a=>by simp [lessL,lessL_irrefl a]
theorem incS_pw:∀ l,incS l=true→l.Pairwise (fun a b=>lessL a b=true)
 | [],_=>.nil
 | [a],_=>by simp
 | a::b::r,h=>by
  simp only [incS,Bool.and_eq_true] at h
  have ih:=incS_pw (b::r) h.2
  refine List.pairwise_cons.2 ⟨fun x hx=>?_,ih⟩
  rcases List.mem_cons.1 hx with rfl | hx
  ·exact h.1
  ·exact lessL_trans h.1 ((List.pairwise_cons.1 ih).1 x hx)
theorem less_u8:∀ {x y:List UInt8},lessL (x.map UInt8.toNat) (y.map UInt8.toNat)=true→x<y
 | _,[],h=>by cases ‹List UInt8› <;> simp [lessL] at h
 | [],_::_,_=>by simp
 | a::x,b::y,h=>by
  simp only [List.map_cons,lessL,Bool.or_eq_true,decide_eq_true_eq,Bool.and_eq_true,beq_iff_eq] at h
  rw [List.cons_lt_cons_iff]
  rcases h with h | ⟨h,h'⟩
  ·exact .inl (UInt8.lt_iff_toNat_lt.2 h)
  ·exact .inr ⟨UInt8.toNat_inj.1 h,less_u8 h'⟩
theorem sort_only_s {ss:List (List UInt8)} {r:List (List UInt8)} (hp:ss.Perm r) (hr:r.Pairwise (fun a b=>lessL (a.map UInt8.toNat) (b.map UInt8.toNat)=true)):ss.mergeSort (fun x y=>decide (x≤y))=r:=by
 have hpw:r.Pairwise (fun a b=>(fun x y:List UInt8=>decide (x≤y)) a b=true):=hr.imp fun {a b} h=>by simp only [decide_eq_true_eq];exact List.le_of_lt (less_u8 h)
 have:ss.mergeSort (fun x y=>decide (x≤y))=r.mergeSort (fun x y=>decide (x≤y)):=mergeSort_of_perm hp
 rw [this]
 exact List.mergeSort_of_pairwise hpw
theorem perm_map_back0 {α β:Type} {f:α→β} {m l':List β} (h:m.Perm l'):∀ l:List α,l'=l.map f→∃ ys:List α,m=ys.map f∧ys.Perm l:=by
 induction h with
 | nil=>intro l hl;exact ⟨[],rfl,by cases l with | nil=>exact .refl _ | cons=>simp at hl⟩
 | cons x h ih =>
  intro l hl
  cases l with
  | nil=>simp at hl
  | cons a l =>
   simp only [List.map_cons,List.cons.injEq] at hl
   obtain ⟨ys,h1,h2⟩:=ih l hl.2
   exact ⟨a::ys,by simp [hl.1,h1],h2.cons a⟩
 | swap x y l0 =>
  intro l hl
  cases l with
  | nil=>simp at hl
  | cons a l=>cases l with
   | nil=>simp at hl
   | cons b l =>
    simp only [List.map_cons,List.cons.injEq] at hl
    exact ⟨b::a::l,by simp [hl.1,hl.2.1,hl.2.2],.swap a b l⟩
 | trans h1 h2 ih1 ih2 =>
  intro l hl
  obtain ⟨ys,k1,k2⟩:=ih2 l hl
  obtain ⟨zs,k3,k4⟩:=ih1 ys k1
  exact ⟨zs,k3,k4.trans k2⟩
theorem perm_map_back {α β:Type} {f:α→β} {l:List α} {m:List β} (h:m.Perm (l.map f)):∃ ys:List α,m=ys.map f∧ys.Perm l:=perm_map_back0 h l rfl
theorem insert_perm {H:Type} (x:Lit × DataW H):∀ l,(DataW.insert x l).Perm (x::l)
 | []=>.refl _
 | y::r=>by
  unfold DataW.insert
  split
  ·exact .refl _
  ·exact ((insert_perm x r).cons y).trans (.swap x y r)
theorem foldr_insert_perm {H:Type}:∀ l:List (Lit × DataW H),(l.foldr DataW.insert []).Perm l
 | []=>.refl _
 | x::r=>(insert_perm x _).trans ((foldr_insert_perm r).cons x)
structure KeysI (P:Program) (fK fI fS mt kt:Nat):Prop where
 ty:P.underlying kt=some (.int .i64)
 enK:∀ args w,(callFunc fK args).run P w=.ok (.enter fK args) w
 enS:∀ args w,(callFunc fS args).run P w=.ok (.enter fS args) w
 keys:∀ mb W,Calls P fK #[.map mb] W fun e w'=>e=.returned (.func (.func fI) #[] #[.pointer (some ⟨W.heap.size,0,none⟩)])∧w'=W.alloc (.cells #[.map mb] mt)
 sorted:∀ (Bm b nn:Nat) (D0:DataW Unit) (R:Value→Option (DataW Unit × List MemPlace)) (w:World),Bm<w.heap.size→w.cell? ⟨Bm,0,none⟩=some (.map (some b))→w.ownsMap P kt R b nn D0→Maps.size D0≤maxLen→Maps.size D0*8≤140737488355328 →
  Calls P fS #[.func (.func fI) #[] #[.pointer (some ⟨Bm,0,none⟩)]] w fun e w'=>∃ (v:Value) (ss:List Int),e=.returned v∧ss.Perm (intKeys D0)∧w'.ownsRow w.heap.size kt 1 v ss.length ((ss.mergeSort (fun x y=>decide (x≤y))).map encZ)∧(v=.slice none 0 0↔ss=[])∧Below w.heap.size w w'
 sortedNil:∀ (Bm:Nat) (w:World),Bm<w.heap.size→w.cell? ⟨Bm,0,none⟩=some (.map none) →
  Calls P fS #[.func (.func fI) #[] #[.pointer (some ⟨Bm,0,none⟩)]] w fun e w'=>e=.returned (.slice none 0 0)∧Below w.heap.size w w'
structure KeysS (P:Program) (fK fI fS mt kt:Nat):Prop where
 ty:P.underlying kt=some .string
 enK:∀ args w,(callFunc fK args).run P w=.ok (.enter fK args) w
 enS:∀ args w,(callFunc fS args).run P w=.ok (.enter fS args) w
 keys:∀ mb W,Calls P fK #[.map mb] W fun e w'=>e=.returned (.func (.func fI) #[] #[.pointer (some ⟨W.heap.size,0,none⟩)])∧w'=W.alloc (.cells #[.map mb] mt)
 sorted:∀ (Bm b nn:Nat) (D0:DataW Unit) (R:Value→Option (DataW Unit × List MemPlace)) (w:World),Bm<w.heap.size→w.cell? ⟨Bm,0,none⟩=some (.map (some b))→w.ownsMap P kt R b nn D0→Maps.size D0≤maxLen→Maps.size D0*16≤140737488355328 →
  Calls P fS #[.func (.func fI) #[] #[.pointer (some ⟨Bm,0,none⟩)]] w fun e w'=>∃ (v:Value) (ss:List (List UInt8)),e=.returned v∧ss.Perm (strKeys D0)∧w'.ownsRow w.heap.size kt 1 v ss.length ((ss.mergeSort (fun x y=>decide (x≤y))).map encStr)∧(v=.slice none 0 0↔ss=[])∧Below w.heap.size w w'
 sortedNil:∀ (Bm:Nat) (w:World),Bm<w.heap.size→w.cell? ⟨Bm,0,none⟩=some (.map none) →
  Calls P fS #[.func (.func fI) #[] #[.pointer (some ⟨Bm,0,none⟩)]] w fun e w'=>e=.returned (.slice none 0 0)∧Below w.heap.size w w'
section
variable {P:Program} {B:Nat} {w0 w:World} {ρ:Rho} {h:Heap}
theorem keys_snd {fK fI mt:Nat} (enK:∀ args w,(callFunc fK args).run P w=.ok (.enter fK args) w) (keys:∀ mb W,Calls P fK #[.map mb] W fun e w'=>e=.returned (.func (.func fI) #[] #[.pointer (some ⟨W.heap.size,0,none⟩)])∧w'=W.alloc (.cells #[.map mb] mt))
  {args:List V} {v:V} {h':Heap} (hx:keysSum fI mt args h=some (v,h')):HM h h'∧∀ (ρ:Rho) (w:World) (us:Array Value),Rel P B w0 ρ h w→VRs ρ args us.toList→CallSnd P B w0 ρ fK us w h v h':=by
 unfold keysSum at hx
 split at hx
 ·rename_i m
  cases hx
  refine ⟨HM.push _ _,fun ρ w us r hv=>?_⟩
  obtain ⟨us⟩:=us
  cases hv with
  | cons _ u _ us hu ht =>
  cases ht
  have hum:∃ mb,u=.map mb:=by cases hu <;> exact ⟨_,rfl⟩
  obtain ⟨mb,rfl⟩:=hum
  refine snd_calls (enK _ _) ((keys mb w).mono fun e w'=>?_)
  rintro ⟨rfl,rfl⟩
  have hnone:ρ h.size=none:=r.none_at
  have hle:=with_le (e:=⟨w.heap.size,0,1⟩) hnone
  have r2:=(r.push (.cells [.map m] (.tip [] 0 (some mt)))).lay (o:=.cells [.map m] (.tip [] 0 (some mt))) hnone (by rw [Heap.size_push];omega) (by rw [Heap.get_push,if_pos rfl]) (.cells #[.map mb] mt) 1
   ⟨r.base,fun i v hi=>?_,⟨⟨#[.map mb],mt,(0,0),alloc_at w _,rfl,.inl rfl,fun t ht=>by cases ht;exact ⟨rfl,rfl⟩⟩,by simp⟩⟩
  ·refine ⟨_,.func _ _ _ _ _ .nil (.cons _ _ _ _ (.ptr _ _ _ _ with_same rfl) .nil),r2,New.with_ hnone (Nat.le_refl _)⟩
  ·have hi0:i=0:=by
    have:=(List.getElem?_eq_some_iff.1 hi).1
    simpa using this
   subst hi0
   simp at hi
   subst hi
   refine ⟨.map mb,?_,hu.mono hle⟩
   show (w.alloc (.cells #[.map mb] mt)).cell? ⟨w.heap.size,0+0,none⟩=_
   rw [World.cell?_alloc_new];rfl
 ·cases hx
theorem boxed_facts {fI mt:Nat} {args:List V} {m:Option Nat} (hx:boxedMap fI mt args h=some m) (r:Rel P B w0 ρ h w) {us:Array Value} (hv:VRs ρ args us.toList) :
  ∃ Bm mb,us=#[.func (.func fI) #[] #[.pointer (some ⟨Bm,0,none⟩)]]∧Bm<w.heap.size∧w.cell? ⟨Bm,0,none⟩=some (.map mb)∧VR ρ (.map m) (.map mb):=by
 unfold boxedMap at hx
 split at hx
 ·rename_i f b
  split at hx
  ·rename_i hf
   subst hf
   split at hx
   ·rename_i m' fz t hg
    split at hx
    ·rename_i ht
     subst ht
     cases hx
     obtain ⟨us⟩:=us
     cases hv with
     | cons _ u _ us hu hvt =>
     cases hvt
     cases hu with
     | func _ _ _ fi cp h1 h2 =>
     obtain ⟨fi⟩:=fi
     obtain ⟨cp⟩:=cp
     cases h1
     cases h2 with
     | cons _ u2 _ us2 hp hpt =>
     cases hpt
     cases hp with
     | ptr _ _ e a he ha =>
     obtain ⟨o,q1,q2⟩:=r.obj _ _ he
     rw [hg] at q1
     cases q1
     obtain ⟨hB,hcf,⟨c,el,fr,hc,hs,hfr,hty⟩,hroom⟩:=q2
     obtain ⟨u3,k1,k2⟩:=hcf 0 (.map m) rfl
     have hoff:=(hty _ rfl).2
     have hat:at_ e 0=⟨e.blk,0,none⟩:=by unfold at_;rw [hoff]
     rw [hat] at k1 ha
     subst ha
     have hum:∃ mb,u3=.map mb:=by cases k2 <;> exact ⟨_,rfl⟩
     obtain ⟨mb,rfl⟩:=hum
     exact ⟨e.blk,mb,rfl,(Array.getElem?_eq_some_iff.1 hc).1,k1,k2⟩
    ·cases hx
   ·cases hx
  ·cases hx
 ·cases hx
theorem MR_strs:∀ {es:List (V × V)} {ces:List MapEntry} {l:List (List Nat)},MR ρ es ces→strsOf es=some l→∃ xs:List (List UInt8),ces.map MapEntry.key=xs.map encStr∧l=xs.map fun x=>x.map UInt8.toNat
 | [],[],l,_,hl=>by cases hl;exact ⟨[],rfl,rfl⟩
 | (a,v)::es,m::ces,l,hm,hl=>by
  unfold strsOf at hl
  split at hl
  ·rename_i h1;cases h1
  ·rename_i n v' r h1
   cases h1
   split at hl
   ·rename_i l' hl'
    cases hl
    have:=hm.1
    obtain ⟨xs,h1,h2⟩:=MR_strs hm.2.2 hl'
    generalize hmk:m.key=mk at this
    cases this with
    | str s _ hs =>
    refine ⟨s.data.toList::xs,?_,?_⟩
    ·simp only [List.map_cons,h1,hmk]
    ·rw [hs,h2];rfl
   ·cases hl
  ·cases hl
 | [],_::_,_,hm,_=>hm.elim
 | _::_,[],_,hm,_=>hm.elim
def nilR:Value→Option (DataW Unit × List MemPlace):=fun _=>some (.nil,[])
theorem Own_map {kt:TypeId} {ces:Array MapEntry} {cl:Nat} (hlen:ces.size≤1000000) (hb:incN cl (ces.toList.map MapEntry.born)=true) (hk:(ces.toList.map MapEntry.key).Nodup) (hr:∀ x∈ces.toList,∃ kl,keyOf P kt x.key=some kl) :
  Go.WideElems.Fit P kt nilR ces cl where
 size:=by unfold maxLen;omega
 stamped:=by
  obtain ⟨h1,h2⟩:=incN_pw cl _ hb
  exact ⟨fun x hx=>h2 _ (List.mem_map_of_mem hx),h1.imp (fun {a b} h=>Nat.ne_of_lt h),hk⟩
 reads:=fun x hx=>by
  obtain ⟨kl,hkl⟩:=hr x hx
  exact ⟨(kl,.nil),by simp [rd,hkl,nilR]⟩
theorem row_of (r:Rel P B w0 ρ h w) {w':World} {el:TypeId} {v:Value} {n:Nat} {xs:List Value} {cs:List V} (hb:Below w.heap.size w w') (hn:n=xs.length) (ho:w'.ownsRow w.heap.size el 1 v n xs) (hx:VRs ρ cs xs) (hnil:v=.slice none 0 0↔xs=[]) :
  Ret P B w0 ρ h.size (rowOf h cs).1 (rowOf h cs).2 v w':=by
 subst hn
 obtain ⟨h1,h2⟩:=ret_row r hb ho hx
 cases hx with
 | nil=>exact h1 rfl (hnil.2 rfl)
 | cons a u x as hv ht=>exact h2 (fun e=>by have:=hnil.1 e;cases this)
theorem sortedS_snd {fK fI fS mt kt:Nat} (K:KeysS P fK fI fS mt kt) {args:List V} {v:V} {h':Heap} (hx:sortedSSum fI mt args h=some (v,h')):HM h h'∧∀ (ρ:Rho) (w:World) (us:Array Value),Rel P B w0 ρ h w→VRs ρ args us.toList→CallSnd P B w0 ρ fS us w h v h':=by
 unfold sortedSSum at hx
 split at hx
 ·rename_i hbx
  cases hx
  refine ⟨HM.refl _,fun ρ w us r hv=>?_⟩
  obtain ⟨Bm,mb,rfl,q1,q2,q3⟩:=boxed_facts hbx r hv
  cases q3
  refine snd_calls (K.enS _ _) ((K.sortedNil Bm w q1 q2).mono fun e w'=>?_)
  rintro ⟨rfl,hb⟩
  exact ⟨ρ,.sliceNil,r.below_keep hb,New.refl _ _⟩
 ·rename_i m hbx
  split at hx
  ·rename_i es bs cl hg
   split at hx
   ·rename_i l hl
    split at hx
    ·rename_i hc
     have hvh:v=(rowOf h ((srtS l).map V.str)).1∧h'=(rowOf h ((srtS l).map V.str)).2:=by have:=Option.some.inj hx;rw [this];exact ⟨rfl,rfl⟩
     obtain ⟨rfl,rfl⟩:=hvh
     simp only [Bool.and_eq_true,decide_eq_true_eq] at hc
     obtain ⟨⟨⟨c1,c2⟩,c3⟩,c4⟩:=hc
     refine ⟨by unfold rowOf;split <;> first | exact HM.refl _ | exact HM.push _ _,fun ρ w us r hv=>?_⟩
     obtain ⟨Bm,mb,rfl,q1,q2,q3⟩:=boxed_facts hbx r hv
     cases q3 with
     | map _ e rr he hr =>
     subst hr
     obtain ⟨ces,g1,g2,g3⟩:=map_of r he hg
     obtain ⟨xs,hkeys,rfl⟩:=MR_strs g2 hl
     have hlen:xs.length=ces.size:=by
      have:=congrArg List.length hkeys
      simpa using this.symm
     have hpw:=incS_pw _ c2
     rw [List.length_map] at c4
     -- the sorted list,as bytes
     have hpm:=srtS_perm (xs.map fun x=>x.map UInt8.toNat)
     obtain ⟨ys,hys,hyp⟩:∃ ys:List (List UInt8),srtS (xs.map fun x=>x.map UInt8.toNat)=ys.map (fun x=>x.map UInt8.toNat)∧ys.Perm xs:=perm_map_back hpm
     rw [hys,List.pairwise_map] at hpw
     have hnd:xs.Nodup:=hyp.nodup_iff.1 (hpw.imp fun {a b} h e=>by subst e;rw [lessL_irrefl] at h;cases h)
     have hkn:(ces.toList.map MapEntry.key).Nodup:=by
      rw [hkeys]
      exact hnd.map _ (fun a b hne e=>hne (encStr_inj e))
     have hkey:∀ x∈ces.toList,∃ n∈xs,x.key=encStr n∧keyOf P kt x.key=some (.string n):=by
      intro x hx
      have:x.key∈ces.toList.map MapEntry.key:=List.mem_map_of_mem hx
      rw [hkeys] at this
      obtain ⟨n,hn,hn2⟩:=List.mem_map.1 this
      refine ⟨n,hn,hn2.symm,?_⟩
      have hw:=List.all_eq_true.1 c3 (n.map UInt8.toNat) (List.mem_map_of_mem hn)
      simp only [List.length_map,decide_eq_true_eq] at hw
      have hsz:(⟨n.toArray⟩:ByteArray).size≤maxLen:=by
       show n.toArray.size≤maxLen
       unfold maxLen
       simp;omega
      rw [←hn2]
      simp [keyOf,K.ty,mapKey,hsz]
     have F:=Own_map (P:=P) (kt:=kt) (by omega) (g3 ▸ c1) hkn (fun x hx=>let ⟨n,_,_,q⟩:=hkey x hx;⟨_,q⟩)
     have hown:w.ownsMap P kt nilR e.blk ces.size (.map ((ces.toList.map (rg P kt nilR)).foldr DataW.insert [])):=⟨ces,cl,g1,F,Nat.le_refl _,rfl⟩
     have hperm:=foldr_insert_perm (ces.toList.map (rg P kt nilR))
     have hsz:Maps.size (.map ((ces.toList.map (rg P kt nilR)).foldr DataW.insert []):DataW Unit)=ces.size:=by
      show ((ces.toList.map (rg P kt nilR)).foldr DataW.insert []).length=ces.size
      rw [hperm.length_eq];simp
     have hik:(strKeys (.map ((ces.toList.map (rg P kt nilR)).foldr DataW.insert []):DataW Unit)).Perm xs:=by
      refine (hperm.map _).trans ?_
      have:∀ (l:List MapEntry) (xs:List (List UInt8)),l.map MapEntry.key=xs.map encStr→(∀ x∈l,∃ n,x.key=encStr n∧keyOf P kt x.key=some (.string n))→strKeys (.map (l.map (rg P kt nilR)):DataW Unit)=xs:=by
       intro l
       induction l with
       | nil=>intro xs h1 _;cases xs with | nil=>rfl | cons=>simp at h1
       | cons x l ih =>
        intro xs h1 h2
        cases xs with
        | nil=>simp at h1
        | cons y ys =>
         simp only [List.map_cons,List.cons.injEq] at h1
         obtain ⟨n,k1,k2⟩:=h2 x List.mem_cons_self
         have hny:n=y:=encStr_inj (k1.symm.trans h1.1)
         subst hny
         have:=ih ys h1.2 (fun x hx=>h2 x (List.mem_cons_of_mem _ hx))
         simp only [strKeys,List.map_cons,List.cons.injEq] at this ⊢
         exact ⟨by simp [rg,rd,k2,nilR,Go.strOf],this⟩
      have:=this ces.toList xs hkeys (fun x hx=>let ⟨n,_,q1,q2⟩:=hkey x hx;⟨n,q1,q2⟩)
      simp only [strKeys] at this
      rw [this]
     refine snd_calls (K.enS _ _) ((K.sorted Bm e.blk ces.size _ nilR w q1 q2 hown (by rw [hsz];unfold maxLen;omega) (by rw [hsz];omega)).mono fun ee w'=>?_)
     rintro ⟨vv,ss,rfl,s1,s2,s3,s4⟩
     have hsort:ss.mergeSort (fun x y=>decide (x≤y))=ys:=sort_only_s ((s1.trans hik).trans hyp.symm) hpw
     rw [hsort] at s2
     have hsl:ss.length=ys.length:=by rw [←hsort,List.length_mergeSort]
     rw [hys,List.map_map]
     refine row_of r s4 (by rw [hsl,List.length_map]) s2 ?_ ?_
     ·refine VRs.of_get (by simp) fun i v hi=>?_
      rw [List.getElem?_map] at hi ⊢
      cases hq:ys[i]? with
      | none=>rw [hq] at hi;cases hi
      | some n=>rw [hq] at hi;cases hi;exact ⟨_,rfl,.str _ _ rfl⟩
     ·rw [s3]
      constructor
      ·intro e;subst e;have:ys=[]:=List.eq_nil_of_length_eq_zero (by rw [←hsl];rfl);rw [this];rfl
      ·intro e;have:ys.length=0:=by have:=congrArg List.length e;simpa using this
       exact List.eq_nil_of_length_eq_zero (by omega)
    ·cases hx
   ·cases hx
  ·cases hx
 ·cases hx
end
end
end Abs
end Go.Proofs.YthgcjbniipfnbaaGreatDoor
