/- Shell: bytes as a word, numbers, whether two items are the same. Shell: whether two items are the same. Shell: an op's words. Shell's reference: an op's line. Shell: an item's words. Shell: an answer as text. Shell: own, Print. -/
import Derived.Test.YthgcjbniipfnbaaGreatDoorH27
namespace Go.Proofs.YthgcjbniipfnbaaGreatDoor
namespace Abs
set_option linter.unusedVariables false
set_option linter.unusedSimpArgs false
open Go.RowKit
attribute [local irreducible] WO WC WD StepK Ans Does Runs DoesD
theorem itoaF_neg (m:Nat) (h:0<m):itoaF (-(m:Int))=45::digF m:=by
 unfold itoaF digF Lib.itoa
 rw [if_pos (by omega)]
 simp [ofU]
theorem itoa_len {n:Int} (h1:-9223372036854775808≤n) (h2:n≤9223372036854775807):(itoaF n).length≤20:=by
 have key:∀ (k n:Nat),n<10 ^ (k+1)→(digF n).length≤k+1:=by
  intro k
  induction k with
  | zero=>intro n hn;rw [digF_small (by simpa using hn)];simp
  | succ k ih =>
   intro n hn
   by_cases h:n<10
   ·rw [digF_small h];simp
   ·rw [digF_big h]
    have:=ih (n / 10) (by rw [Nat.pow_succ] at hn;omega)
    simp;omega
 by_cases h:0≤n
 ·obtain ⟨m,rfl⟩:∃ m:Nat,n=m:=⟨n.toNat,by omega⟩
  rw [itoaF_nat]
  have:=key 18 m (by omega)
  omega
 ·obtain ⟨m,rfl⟩:∃ m:Nat,n=-(m:Int):=⟨n.natAbs,by omega⟩
  rw [itoaF_neg m (by omega)]
  have:=key 18 m (by omega)
  simp;omega
theorem itoa_byt (n:Int):Byt (itoaF n):=by
 intro b hb
 unfold itoaF ofU at hb
 obtain ⟨x,_,rfl⟩:=List.mem_map.1 hb
 exact x.toNat_lt
theorem bytF_byt {t:List Nat} (h:Byt t):Byt (bytF t):=by
 unfold bytF
 split
 ·intro b hb;simp at hb;omega
 ·intro b hb
  unfold hexF at hb
  obtain ⟨c,hc,hb⟩:=List.mem_flatMap.1 hb
  have:∀ d,hx d<256:=by
   intro d
   unfold hx
   rw [List.getD_eq_getElem?_getD]
   cases hq:[48,49,50,51,52,53,54,55,56,57,97,98,99,100,101,102][d]? with
   | none=>simp
   | some z =>
    have:=List.mem_of_getElem? hq
    simp at this ⊢;omega
  simp at hb
  rcases hb with rfl | rfl <;> exact this _
theorem bytF_len (t:List Nat):(bytF t).length≤2*t.length+1:=by
 unfold bytF
 split
 ·simp
 ·rw [hexF_len];omega
section
variable {C:Cfg} (S:StdL C)
include S
theorem hbytesW_ans (h:Heap) (hw:Wf h) (s:List Nat) (hs:s.length≤1000000) (hb:Byt s):Ans C 34 [.str s] h fun v h'=>v=.str (bytF s)∧Grow h h':=by
 have hF:C.F 34=some a34:=S.f rfl
 unfold a34 at hF
 refine Ans.val (fun _ _=>S.s _ _ _ rfl) hF rfl rfl hw fun h2 g=>?_
 clear hF
 refine WC.seqO<|omv rfl<|WO.nil<|WC.seq<|WC.seqO<|omv rfl ?_
 by_cases he:s=[]
 ·refine obn rfl rfl (seT he)<|WO.nil<|WC.cond rfl (fun hc=>WC.seqO<|omv rfl<|WO.nil<|WC.ret ⟨trivial,g,?_⟩) (fun hc=>by cases hc)
  unfold bytF;rw [if_pos he];rfl
 ·refine obn rfl rfl (seF he)<|WO.nil<|WC.cond rfl (fun hc=>by cases hc) (fun hc=>WC.skip<|WC.seqO<|omv rfl ?_)
  refine WO.call rfl rfl (hex_ans S h2 g.wf s hs hb) ?_
  rintro _ h3 ⟨rfl,g3⟩
  refine omv rfl<|WO.nil<|WC.ret ⟨trivial,g.trans g3,?_⟩
  unfold bytF;rw [if_neg he];rfl
end
end Abs
end Go.Proofs.YthgcjbniipfnbaaGreatDoor
namespace Go.Proofs.YthgcjbniipfnbaaGreatDoor
namespace Abs
set_option linter.unusedVariables false
set_option linter.unusedSimpArgs false
open Go.RowKit
attribute [local irreducible] WO WC WD StepK Ans Does Runs DoesD
def ItV.ck (x:ItV) (u:V):List V:=[jv x.op,jv x.o.op,.str x.o.path,.str x.o.to,jv x.o.off,jv x.o.len,.str x.o.data,.str x.name,jv x.now,jv x.n,jv x.dev,jv x.at',.str x.data,u]
theorem fe_int (a b:Int):flatEq .int (jv a) (jv b)=some (decide (a=b)):=by
 by_cases h:a=b
 ·subst h;simp [flatEq,jv]
 ·simp [flatEq,jv,h]
theorem fe_str (a b:List Nat):flatEq .str (.str a) (.str b)=some (decide (a=b)):=by
 show some (beqL a b)=_
 by_cases h:a=b
 ·rw [decide_eq_true h,(beqL_iff a b).2 h]
 ·rw [decide_eq_false h]
  cases hq:beqL a b with
  | false=>rfl
  | true=>exact absurd ((beqL_iff a b).1 hq) h
abbrev EqOp:EqD:=.struct [(0,none,(.flat .int)),(1,none,(.flat .str)),(2,none,(.flat .str)),(3,none,(.flat .int)),(4,none,(.flat .int)),(5,none,(.flat .str))]
abbrev EqLoc:EqD:=.struct [(0,none,(.flat .int)),(1,none,(.flat .int))]
theorem eq_opG (a b:OpV):∃ t,eqA EqOp (.agg a.cs) (.agg b.cs)=some t∧(t=true↔a=b):=by
 obtain ⟨a1,a2,a3,a4,a5,a6⟩:=a
 obtain ⟨b1,b2,b3,b4,b5,b6⟩:=b
 simp only [EqOp,eqA,eqAs,OpV.cs,aggOf,List.getElem?_cons_zero,List.getElem?_cons_succ,fe_int,fe_str,OpV.mk.injEq]
 by_cases h1:a1=b1 <;> by_cases h2:a2=b2 <;> by_cases h3:a3=b3 <;> by_cases h4:a4=b4 <;> by_cases h5:a5=b5 <;> by_cases h6:a6=b6 <;> simp [h1,h2,h3,h4,h5,h6]
theorem eq_locG (a b c d:Int):∃ t,eqA EqLoc (.agg [jv a,jv b]) (.agg [jv c,jv d])=some t∧(t=true↔a=c∧b=d):=by
 simp only [EqLoc,eqA,eqAs,aggOf,List.getElem?_cons_zero,List.getElem?_cons_succ,fe_int]
 by_cases h1:a=c <;> by_cases h2:b=d <;> simp [h1,h2]
open Classical in
noncomputable def sameG (x y:ItV) (k:Nat):Bool:=decide (x=y∧k=0)
open Classical in
theorem sameG_F {x y:ItV} {k:Nat} (h:¬ (x=y∧k=0)):V.bool (sameG x y k)=.bool false:=by unfold sameG;rw [decide_eq_false h]
open Classical in
theorem sameG_T {x y:ItV} {k:Nat} (h:x=y∧k=0):V.bool (sameG x y k)=.bool true:=by unfold sameG;rw [decide_eq_true h]
section
variable {C:Cfg} (S:StdL C)
include S
theorem hsame_ans (h:Heap) (hw:Wf h) (x y:ItV) (u v:V) (m n:Nat) (hu:slLen u=some m) (hv:slLen v=some n) (hmn:m+n≤9223372036854775807):Ans C 29 [.agg (x.ck u),.agg (y.ck v)] h fun v h'=>v=.bool (sameG x y (m+n))∧Grow h h':=by
 have hF:C.F 29=some a29:=S.f rfl
 unfold a29 at hF
 refine Ans.val (fun _ _=>S.s _ _ _ rfl) hF rfl rfl hw fun h2 g=>?_
 clear hF
 refine WC.seqO<|WO.ops (StepK.box rfl) ?_
 have c1:=Cl.new h2 (x.ck u) none
 have g3:=g.push (.cells (x.ck u) (.tip [] 0 none))
 change WO C _ _ (h2.push (.cells (x.ck u) (.tip [] 0 none))) _
 generalize h2.push (.cells (x.ck u) (.tip [] 0 none))=h3 at *
 refine WO.ops (StepK.box rfl) ?_
 have c2:=Cl.new h3 (y.ck v) none
 have gp:=(Grow.refl g3.wf).push (.cells (y.ck v) (.tip [] 0 none))
 have g4:=g3.trans gp
 change WO C _ _ (h3.push (.cells (y.ck v) (.tip [] 0 none))) _
 replace c1:=c1.grow gp
 generalize h3.push (.cells (y.ck v) (.tip [] 0 none))=h4 at *
 generalize h3.size=p2 at *
 generalize h2.size=p1 at *
 have ro:∀ (p:Nat) (x:ItV) (u:V),Cl h4 p (x.ck u)→h4.rds p (0+1) 6=some x.o.cs:=fun p x u c=>by have:=c.rdsAt (o:=1) (n:=6) (by simp [ItV.ck]);rw [this];rfl
 have rl:∀ (p:Nat) (x:ItV) (u:V),Cl h4 p (x.ck u)→h4.rds p (0+10) 2=some [jv x.dev,jv x.at']:=fun p x u c=>by have:=c.rdsAt (o:=10) (n:=2) (by simp [ItV.ck]);rw [this];rfl
 refine omv rfl<|WO.nil<|WC.seqO<|ofa rfl<|old rfl (c1.rd (i:=0) rfl)<|ofa rfl<|old rfl (c2.rd (i:=0) rfl) ?_
 by_cases e0:x.op=y.op
 rotate_left
 ·refine obn rfl rfl (eqF e0)<|omv rfl ?_
  (repeat (first | refine WO.skip rfl rfl ?_ | refine opf rfl rfl ?_ | refine omv rfl ?_));exact WO.nil<|WC.ret ⟨trivial,g4,by rw [sameG_F (k:=m+n) (by rintro ⟨rfl,hk⟩;exact e0 rfl)];rfl⟩
 refine obn rfl rfl (eqT e0)<|omv rfl ?_
 obtain ⟨t1,q1,i1⟩:=eq_opG x.o y.o
 refine WO.run rfl<|ofa rfl<|WO.run rfl<|WO.ops (StepK.loadN rfl (ro _ _ _ c1))<|WO.run rfl<|ofa rfl<|WO.run rfl<|WO.ops (StepK.loadN rfl (ro _ _ _ c2))<|WO.run rfl<|oeq rfl rfl q1<|opt rfl rfl<|omv rfl ?_
 by_cases e1:x.o=y.o
 rotate_left
 ·have:t1=false:=by cases t1 with
   | false=>rfl
   | true=>exact absurd (i1.1 rfl) e1
  subst this
  (repeat (first | refine WO.skip rfl rfl ?_ | refine opf rfl rfl ?_ | refine omv rfl ?_));exact WO.nil<|WC.ret ⟨trivial,g4,by rw [sameG_F (k:=m+n) (by rintro ⟨rfl,hk⟩;exact e1 rfl)];rfl⟩
 obtain rfl:=i1.2 e1
 refine WO.run rfl<|ofa rfl<|WO.run rfl<|old rfl (c1.rd (i:=7) rfl)<|WO.run rfl<|ofa rfl<|WO.run rfl<|old rfl (c2.rd (i:=7) rfl)<|WO.run rfl ?_
 by_cases ename:x.name=y.name
 rotate_left
 ·refine obn rfl rfl (seF ename)<|opt rfl rfl<|omv rfl ?_
  (repeat (first | refine WO.skip rfl rfl ?_ | refine opf rfl rfl ?_ | refine omv rfl ?_));exact WO.nil<|WC.ret ⟨trivial,g4,by rw [sameG_F (k:=m+n) (by rintro ⟨rfl,hk⟩;exact ename rfl)];rfl⟩
 refine obn rfl rfl (seT ename)<|opt rfl rfl<|omv rfl ?_
 refine WO.run rfl<|ofa rfl<|WO.run rfl<|old rfl (c1.rd (i:=8) rfl)<|WO.run rfl<|ofa rfl<|WO.run rfl<|old rfl (c2.rd (i:=8) rfl)<|WO.run rfl ?_
 by_cases enow:x.now=y.now
 rotate_left
 ·refine obn rfl rfl (eqF enow)<|opt rfl rfl<|omv rfl ?_
  (repeat (first | refine WO.skip rfl rfl ?_ | refine opf rfl rfl ?_ | refine omv rfl ?_));exact WO.nil<|WC.ret ⟨trivial,g4,by rw [sameG_F (k:=m+n) (by rintro ⟨rfl,hk⟩;exact enow rfl)];rfl⟩
 refine obn rfl rfl (eqT enow)<|opt rfl rfl<|omv rfl ?_
 refine WO.run rfl<|ofa rfl<|WO.run rfl<|old rfl (c1.rd (i:=9) rfl)<|WO.run rfl<|ofa rfl<|WO.run rfl<|old rfl (c2.rd (i:=9) rfl)<|WO.run rfl ?_
 by_cases en:x.n=y.n
 rotate_left
 ·refine obn rfl rfl (eqF en)<|opt rfl rfl<|omv rfl ?_
  (repeat (first | refine WO.skip rfl rfl ?_ | refine opf rfl rfl ?_ | refine omv rfl ?_));exact WO.nil<|WC.ret ⟨trivial,g4,by rw [sameG_F (k:=m+n) (by rintro ⟨rfl,hk⟩;exact en rfl)];rfl⟩
 refine obn rfl rfl (eqT en)<|opt rfl rfl<|omv rfl ?_
 obtain ⟨t2,q2,i2⟩:=eq_locG x.dev x.at' y.dev y.at'
 refine WO.run rfl<|ofa rfl<|WO.run rfl<|WO.ops (StepK.loadN rfl (rl _ _ _ c1))<|WO.run rfl<|ofa rfl<|WO.run rfl<|WO.ops (StepK.loadN rfl (rl _ _ _ c2))<|WO.run rfl<|oeq rfl rfl q2<|opt rfl rfl<|omv rfl ?_
 by_cases e2:x.dev=y.dev∧x.at'=y.at'
 rotate_left
 ·have:t2=false:=by cases t2 with
   | false=>rfl
   | true=>exact absurd (i2.1 rfl) e2
  subst this
  (repeat (first | refine WO.skip rfl rfl ?_ | refine opf rfl rfl ?_ | refine omv rfl ?_));exact WO.nil<|WC.ret ⟨trivial,g4,by rw [sameG_F (k:=m+n) (by rintro ⟨rfl,hk⟩;exact e2 ⟨rfl,rfl⟩)];rfl⟩
 obtain rfl:=i2.2 e2
 refine WO.run rfl<|ofa rfl<|WO.run rfl<|old rfl (c1.rd (i:=12) rfl)<|WO.run rfl<|ofa rfl<|WO.run rfl<|old rfl (c2.rd (i:=12) rfl)<|WO.run rfl ?_
 by_cases edata:x.data=y.data
 rotate_left
 ·refine obn rfl rfl (seF edata)<|opt rfl rfl<|omv rfl ?_
  (repeat (first | refine WO.skip rfl rfl ?_ | refine opf rfl rfl ?_ | refine omv rfl ?_));exact WO.nil<|WC.ret ⟨trivial,g4,by rw [sameG_F (k:=m+n) (by rintro ⟨rfl,hk⟩;exact edata rfl)];rfl⟩
 refine obn rfl rfl (seT edata)<|opt rfl rfl<|omv rfl ?_
 have hxy:x=y:=by
  obtain ⟨a1,a2,a3,a4,a5,a6,a7,a8⟩:=x
  obtain ⟨b1,b2,b3,b4,b5,b6,b7,b8⟩:=y
  simp only at e0 e1 ename enow en e2 edata
  rw [e0,e1,ename,enow,en,e2.1,e2.2,edata]
 refine WO.run rfl<|ofa rfl<|WO.run rfl<|old rfl (c1.rd (i:=13) rfl)<|WO.run rfl<|ols rfl hu<|WO.run rfl<|ofa rfl<|WO.run rfl<|old rfl (c2.rd (i:=13) rfl)<|WO.run rfl<|ols rfl hv<|WO.run rfl<|oad rfl rfl (by omega)<|WO.run rfl ?_
 by_cases e3:m+n=0
 rotate_left
 ·refine obn rfl rfl (eqF (by omega))<|opt rfl rfl<|omv rfl ?_
  exact WO.nil<|WC.ret ⟨trivial,g4,by rw [sameG_F (k:=m+n) (fun q=>e3 q.2)];rfl⟩
 refine obn rfl rfl (eqT (by omega))<|opt rfl rfl<|omv rfl ?_
 exact WO.nil<|WC.ret ⟨trivial,g4,by rw [sameG_T (k:=m+n) ⟨hxy,e3⟩];rfl⟩
theorem rSame_ans (h:Heap) (hw:Wf h) (x y:ItV) (u v:V) (m n:Nat) (hu:slLen u=some m) (hv:slLen v=some n):Ans C 10 [.agg (x.ck u),.agg (y.ck v)] h fun v h'=>v=.bool (sameG x y (m+n))∧Grow h h':=by
 have hF:C.F 10=some a10:=S.f rfl
 unfold a10 at hF
 refine Ans.val (fun _ _=>S.s _ _ _ rfl) hF rfl rfl hw fun h2 g=>?_
 clear hF
 refine WC.seqO<|WO.ops (StepK.box rfl) ?_
 have c1:=Cl.new h2 (x.ck u) none
 have g3:=g.push (.cells (x.ck u) (.tip [] 0 none))
 change WO C _ _ (h2.push (.cells (x.ck u) (.tip [] 0 none))) _
 generalize h2.push (.cells (x.ck u) (.tip [] 0 none))=h3 at *
 refine WO.ops (StepK.box rfl) ?_
 have c2:=Cl.new h3 (y.ck v) none
 have gp:=(Grow.refl g3.wf).push (.cells (y.ck v) (.tip [] 0 none))
 have g4:=g3.trans gp
 change WO C _ _ (h3.push (.cells (y.ck v) (.tip [] 0 none))) _
 replace c1:=c1.grow gp
 generalize h3.push (.cells (y.ck v) (.tip [] 0 none))=h4 at *
 generalize h3.size=p2 at *
 generalize h2.size=p1 at *
 have ro:∀ (p:Nat) (x:ItV) (u:V),Cl h4 p (x.ck u)→h4.rds p (0+1) 6=some x.o.cs:=fun p x u c=>by have:=c.rdsAt (o:=1) (n:=6) (by simp [ItV.ck]);rw [this];rfl
 have rl:∀ (p:Nat) (x:ItV) (u:V),Cl h4 p (x.ck u)→h4.rds p (0+10) 2=some [jv x.dev,jv x.at']:=fun p x u c=>by have:=c.rdsAt (o:=10) (n:=2) (by simp [ItV.ck]);rw [this];rfl
 refine omv rfl<|WO.nil<|WC.seqO<|ofa rfl<|old rfl (c1.rd (i:=0) rfl)<|ofa rfl<|old rfl (c2.rd (i:=0) rfl) ?_
 by_cases e0:x.op=y.op
 rotate_left
 ·refine obn rfl rfl (eqF e0)<|omv rfl ?_
  (repeat (first | refine WO.skip rfl rfl ?_ | refine opf rfl rfl ?_ | refine omv rfl ?_));exact WO.nil<|WC.ret ⟨trivial,g4,by rw [sameG_F (k:=m+n) (by rintro ⟨rfl,hk⟩;exact e0 rfl)];rfl⟩
 refine obn rfl rfl (eqT e0)<|omv rfl ?_
 obtain ⟨t1,q1,i1⟩:=eq_opG x.o y.o
 refine WO.run rfl<|ofa rfl<|WO.run rfl<|WO.ops (StepK.loadN rfl (ro _ _ _ c1))<|WO.run rfl<|ofa rfl<|WO.run rfl<|WO.ops (StepK.loadN rfl (ro _ _ _ c2))<|WO.run rfl<|oeq rfl rfl q1<|opt rfl rfl<|omv rfl ?_
 by_cases e1:x.o=y.o
 rotate_left
 ·have:t1=false:=by cases t1 with
   | false=>rfl
   | true=>exact absurd (i1.1 rfl) e1
  subst this
  (repeat (first | refine WO.skip rfl rfl ?_ | refine opf rfl rfl ?_ | refine omv rfl ?_));exact WO.nil<|WC.ret ⟨trivial,g4,by rw [sameG_F (k:=m+n) (by rintro ⟨rfl,hk⟩;exact e1 rfl)];rfl⟩
 obtain rfl:=i1.2 e1
 refine WO.run rfl<|ofa rfl<|WO.run rfl<|old rfl (c1.rd (i:=7) rfl)<|WO.run rfl<|ofa rfl<|WO.run rfl<|old rfl (c2.rd (i:=7) rfl)<|WO.run rfl ?_
 by_cases ename:x.name=y.name
 rotate_left
 ·refine obn rfl rfl (seF ename)<|opt rfl rfl<|omv rfl ?_
  (repeat (first | refine WO.skip rfl rfl ?_ | refine opf rfl rfl ?_ | refine omv rfl ?_));exact WO.nil<|WC.ret ⟨trivial,g4,by rw [sameG_F (k:=m+n) (by rintro ⟨rfl,hk⟩;exact ename rfl)];rfl⟩
 refine obn rfl rfl (seT ename)<|opt rfl rfl<|omv rfl ?_
 refine WO.run rfl<|ofa rfl<|WO.run rfl<|old rfl (c1.rd (i:=8) rfl)<|WO.run rfl<|ofa rfl<|WO.run rfl<|old rfl (c2.rd (i:=8) rfl)<|WO.run rfl ?_
 by_cases enow:x.now=y.now
 rotate_left
 ·refine obn rfl rfl (eqF enow)<|opt rfl rfl<|omv rfl ?_
  (repeat (first | refine WO.skip rfl rfl ?_ | refine opf rfl rfl ?_ | refine omv rfl ?_));exact WO.nil<|WC.ret ⟨trivial,g4,by rw [sameG_F (k:=m+n) (by rintro ⟨rfl,hk⟩;exact enow rfl)];rfl⟩
 refine obn rfl rfl (eqT enow)<|opt rfl rfl<|omv rfl ?_
 refine WO.run rfl<|ofa rfl<|WO.run rfl<|old rfl (c1.rd (i:=9) rfl)<|WO.run rfl<|ofa rfl<|WO.run rfl<|old rfl (c2.rd (i:=9) rfl)<|WO.run rfl ?_
 by_cases en:x.n=y.n
 rotate_left
 ·refine obn rfl rfl (eqF en)<|opt rfl rfl<|omv rfl ?_
  (repeat (first | refine WO.skip rfl rfl ?_ | refine opf rfl rfl ?_ | refine omv rfl ?_));exact WO.nil<|WC.ret ⟨trivial,g4,by rw [sameG_F (k:=m+n) (by rintro ⟨rfl,hk⟩;exact en rfl)];rfl⟩
 refine obn rfl rfl (eqT en)<|opt rfl rfl<|omv rfl ?_
 obtain ⟨t2,q2,i2⟩:=eq_locG x.dev x.at' y.dev y.at'
 refine WO.run rfl<|ofa rfl<|WO.run rfl<|WO.ops (StepK.loadN rfl (rl _ _ _ c1))<|WO.run rfl<|ofa rfl<|WO.run rfl<|WO.ops (StepK.loadN rfl (rl _ _ _ c2))<|WO.run rfl<|oeq rfl rfl q2<|opt rfl rfl<|omv rfl ?_
 by_cases e2:x.dev=y.dev∧x.at'=y.at'
 rotate_left
 ·have:t2=false:=by cases t2 with
   | false=>rfl
   | true=>exact absurd (i2.1 rfl) e2
  subst this
  (repeat (first | refine WO.skip rfl rfl ?_ | refine opf rfl rfl ?_ | refine omv rfl ?_));exact WO.nil<|WC.ret ⟨trivial,g4,by rw [sameG_F (k:=m+n) (by rintro ⟨rfl,hk⟩;exact e2 ⟨rfl,rfl⟩)];rfl⟩
 obtain rfl:=i2.2 e2
 refine WO.run rfl<|ofa rfl<|WO.run rfl<|old rfl (c1.rd (i:=12) rfl)<|WO.run rfl<|ofa rfl<|WO.run rfl<|old rfl (c2.rd (i:=12) rfl)<|WO.run rfl ?_
 by_cases edata:x.data=y.data
 rotate_left
 ·refine obn rfl rfl (seF edata)<|opt rfl rfl<|omv rfl ?_
  (repeat (first | refine WO.skip rfl rfl ?_ | refine opf rfl rfl ?_ | refine omv rfl ?_));exact WO.nil<|WC.ret ⟨trivial,g4,by rw [sameG_F (k:=m+n) (by rintro ⟨rfl,hk⟩;exact edata rfl)];rfl⟩
 refine obn rfl rfl (seT edata)<|opt rfl rfl<|omv rfl ?_
 have hxy:x=y:=by
  obtain ⟨a1,a2,a3,a4,a5,a6,a7,a8⟩:=x
  obtain ⟨b1,b2,b3,b4,b5,b6,b7,b8⟩:=y
  simp only at e0 e1 ename enow en e2 edata
  rw [e0,e1,ename,enow,en,e2.1,e2.2,edata]
 refine WO.run rfl<|ofa rfl<|WO.run rfl<|old rfl (c1.rd (i:=13) rfl)<|WO.run rfl<|ols rfl hu<|WO.run rfl ?_
 by_cases e3:m=0
 rotate_left
 ·refine obn rfl rfl (eqF (by omega))<|opt rfl rfl<|omv rfl ?_
  (repeat (first | refine WO.skip rfl rfl ?_ | refine opf rfl rfl ?_ | refine omv rfl ?_));exact WO.nil<|WC.ret ⟨trivial,g4,by rw [sameG_F (k:=m+n) (fun q=>by have:=q.2;omega)];rfl⟩
 refine obn rfl rfl (eqT (by omega))<|opt rfl rfl<|omv rfl ?_
 refine WO.run rfl<|ofa rfl<|WO.run rfl<|old rfl (c2.rd (i:=13) rfl)<|WO.run rfl<|ols rfl hv<|WO.run rfl ?_
 by_cases e4:n=0
 rotate_left
 ·refine obn rfl rfl (eqF (by omega))<|opt rfl rfl<|omv rfl ?_
  exact WO.nil<|WC.ret ⟨trivial,g4,by rw [sameG_F (k:=m+n) (fun q=>by have:=q.2;omega)];rfl⟩
 refine obn rfl rfl (eqT (by omega))<|opt rfl rfl<|omv rfl ?_
 exact WO.nil<|WC.ret ⟨trivial,g4,by rw [sameG_T (k:=m+n) ⟨hxy,by omega⟩];rfl⟩
end
end Abs
end Go.Proofs.YthgcjbniipfnbaaGreatDoor
namespace Go.Proofs.YthgcjbniipfnbaaGreatDoor
namespace Abs
set_option linter.unusedVariables false
set_option linter.unusedSimpArgs false
open Go.RowKit
attribute [local irreducible] WO WC WD StepK Ans Does Runs DoesD
def Own1 (h0 h:Heap) (x:V) (ts:List (List Nat)):Prop:=(∃ p n,x=.slice (some (p,0)) n n∧h0.size≤p∧Fit h 1 x (strs ts))∨Grown h h0.size 1 x (strs ts)
theorem Own1.grow {h0 h h':Heap} {x:V} {ts:List (List Nat)} (s:Own1 h0 h x ts) (g:Grow h h'):Own1 h0 h' x ts:=by
 rcases s with ⟨p,n,q1,q2,q3⟩ | q
 ·exact .inl ⟨p,n,q1,q2,q3.1.grow g,q3.2⟩
 ·exact .inr (q.grow g)
theorem Own1.sl {h0 h:Heap} {x:V} {ts:List (List Nat)} (s:Own1 h0 h x ts):Sl h 1 x (strs ts):=by
 rcases s with ⟨p,n,q1,q2,q3⟩ | q
 ·exact q3.1
 ·exact q.sl
theorem own_new {h0 h:Heap} (hw:Wf h) (g:Grow h0 h) (ts:List (List Nat)) (ty:Option Nat) (n:Nat) (hn:ts.length=n):Own1 h0 (h.push (.cells (ts.map V.str) (.tip [] 0 ty))) (.slice (some (h.size,0)) n n) ts:=by
 subst hn
 exact .inl ⟨_,_,rfl,g.size,sl_arr (Cl.new _ _ _) rfl,some (h.size,0),by simp⟩
theorem Own1.app {h0 h:Heap} {x y:V} {ts us:List (List Nat)} (hw0:Wf h0) (g:Grow h0 h) (s:Own1 h0 h x ts) (t:Sl h 1 y (strs us)) (hr:ts.length+us.length≤100000) :
  ∃ v h',appendA h 1 16 (some 9) x y=some (v,h')∧Own1 h0 h' v (ts++us)∧Grow h0 h':=by
 have hro:roomy ((strs ts).length+(strs us).length) 16=true:=decide_eq_true (by simp;omega)
 have hone:∀ c∈strs us,∀ v∈c,V.one v=true:=by simp [V.one]
 have hst:strs (ts++us)=strs ts++strs us:=by simp [strs]
 rcases s with ⟨p,n,q1,q2,q3⟩ | q
 ·obtain ⟨v,h',a1,a2,a3⟩:=q3.append (bytes:=16) (tyK:=some 9) g t (by decide) (by decide) hro hone
  refine ⟨v,h',a1,?_,a2⟩
  rcases a3 with ⟨e1,rfl,rfl⟩ | a3
  ·have:us=[]:=by simpa using e1
   subst this
   exact .inl ⟨p,n,q1,q2,by rw [List.append_nil];exact q3⟩
  ·exact .inr (by rw [hst];exact a3)
 ·obtain ⟨v,h',a1,a2,a3⟩:=Grown.append (bytes:=16) (tyK:=some 9) hw0 g q t (by decide) (by decide) hro hone
  exact ⟨v,h',a1,.inr (by rw [hst];exact a2),a3⟩
theorem Grown.lower {h:Heap} {l l' sz:Nat} {x:V} {es:List (List V)} (g:Grown h l sz x es) (hl:l'≤l):Grown h l' sz x es:=by
 obtain ⟨g1,q | ⟨b,S,ty,q1,q2,q3,q4⟩⟩:=g
 ·exact ⟨g1,.inl q⟩
 ·exact ⟨g1,.inr ⟨b,S,ty,q1,q2,⟨Nat.le_trans hl q3.1,fun s hs=>Nat.le_trans hl (q3.2 s hs)⟩,q4⟩⟩
theorem Own1.lower {h0 h1 h:Heap} {x:V} {ts:List (List Nat)} (s:Own1 h1 h x ts) (hl:h0.size≤h1.size):Own1 h0 h x ts:=by
 rcases s with ⟨p,n,q1,q2,q3⟩ | q
 ·exact .inl ⟨p,n,q1,Nat.le_trans hl q2,q3⟩
 ·exact .inr (q.lower hl)
theorem Own1.nil (h0 h:Heap):Own1 h0 h (.slice none 0 0) []:=.inr (Grown.nil _ _ _)
def SlR (h:Heap) (ts:List (List Nat)) (v:V) (h':Heap):Prop:=Own1 h h' v ts∧Grow h h'
def SlFin (h:Heap) (ts:List (List Nat)) (e':List (Nat × V)) (h3:Heap):Prop :=
 Fin .ret∧Wf h3∧∃ v,retE e' h3 [.tmp 2]=some v∧(∀ h4,Grow h3 h4→SlR h ts v h4)∧(v.scopd h.size=true→SlR h ts v h)
theorem Own1.fin {h h3:Heap} {ts:List (List Nat)} {e':List (Nat × V)} {x:V} (hw:Wf h) (g:Grow h h3) (e2:Env.get e' 2=some x) (s:Own1 h h3 x ts):SlFin h ts e' h3:=by
 refine ⟨trivial,g.wf,_,by simp only [retE,ressE,resE,e2,oneOf],fun h4 g4=>⟨s.grow g4,g.trans g4⟩,fun hq=>⟨?_,Grow.refl hw⟩⟩
 rcases s with ⟨p,n,rfl,q2,q3⟩ | q
 ·simp [V.scopd] at hq;omega
 ·exact .inr (q.scopd hq h)
theorem slfin_nil {h h3:Heap} {e':List (Nat × V)} (hw:Wf h) (g:Grow h h3) (e2:Env.get e' 2=some (.slice none 0 0)):SlFin h [] e' h3 :=
 (Own1.nil h h3).fin hw g e2
structure OpOk (o:OpV):Prop where
 b1:Byt o.path
 b2:Byt o.to
 b3:Byt o.data
 l1:o.path.length+o.to.length+o.data.length≤3000
 n1:-9223372036854775808≤o.off∧o.off≤9223372036854775807
 n2:-9223372036854775808≤o.len∧o.len≤9223372036854775807
section
variable {C:Cfg} (S:StdL C)
include S
theorem hopW_ans (h:Heap) (hw:Wf h) (o:OpV) (ok:OpOk o):Ans C 58 [.agg o.cs] h (SlR h (opWF o)):=by
 have hF:C.F 58=some a58:=S.f rfl
 unfold a58 at hF
 refine Ans.fn (fun _ _=>S.s _ _ _ rfl) hF rfl rfl hw fun h2 g=>?_
 clear hF
 have hs2:=g.size
 refine WC.seqO<|WO.ops (StepK.box rfl) ?_
 have c1:=Cl.new h2 o.cs none
 have g3:=g.push (.cells o.cs (.tip [] 0 none))
 have z3:(h2.push (.cells o.cs (.tip [] 0 none))).size=h2.size+1:=rfl
 change WO C _ _ (h2.push (.cells o.cs (.tip [] 0 none))) _
 generalize h2.push (.cells o.cs (.tip [] 0 none))=h3 at *
 generalize h2.size=p1 at *
 refine omv rfl<|WO.nil<|WC.seqO ?_
 refine WO.call rfl rfl (names_ans S h3 g3.wf) ?_
 rintro _ h4 ⟨rfl,g4⟩
 replace c1:=c1.grow g4
 have hs34:=g4.size
 replace g4:=g3.trans g4
 refine WO.ops StepK.alloc ?_
 have c3:=Cl.new h4 (List.replicate 11 (.str [])) none
 have gp:=(Grow.refl g4.wf).push (.cells (List.replicate 11 (.str [])) (.tip [] 0 none))
 have z5:(h4.push (.cells (List.replicate 11 (.str [])) (.tip [] 0 none))).size=h4.size+1:=rfl
 change WO C _ _ (h4.push (.cells (List.replicate 11 (.str [])) (.tip [] 0 none))) _
 replace c1:=c1.grow gp
 have hp1:p1<h4.size:=by have:=g4.size;omega
 have hs4:=g4.size
 have g5:=g4.trans gp
 generalize h4.push (.cells (List.replicate 11 (.str [])) (.tip [] 0 none))=h5 at *
 generalize h4.size=p3 at *
 obtain ⟨h6,w6,c6,ch6,z6⟩:=c3.sets g5.wf (i:=0) (us:=nmL.map V.str) (by decide) (by decide)
 have c6':Cl h6 p3 (nmL.map V.str):=c6
 have g6:Grow h h6:=ch6.newGrow g5 hw (by simp;omega)
 replace c1:=c1.chg ch6 (by simp;omega)
 clear c3 c6 ch6
 refine WO.op (StepK.store (v:=.agg (nmL.map V.str)) rfl rfl rfl w6)<|WO.nil ?_
 clear w6 z6
 have r0:∀ h',Grow h6 h'→h'.rd p1 (0+0)=some (jv o.op):=fun h' q=>(c1.grow q).rd (i:=0) rfl
 have r1:∀ h',Grow h6 h'→h'.rd p1 (0+1)=some (.str o.path):=fun h' q=>(c1.grow q).rd (i:=1) rfl
 have r2:∀ h',Grow h6 h'→h'.rd p1 (0+2)=some (.str o.to):=fun h' q=>(c1.grow q).rd (i:=2) rfl
 have r3:∀ h',Grow h6 h'→h'.rd p1 (0+3)=some (jv o.off):=fun h' q=>(c1.grow q).rd (i:=3) rfl
 have r4:∀ h',Grow h6 h'→h'.rd p1 (0+4)=some (jv o.len):=fun h' q=>(c1.grow q).rd (i:=4) rfl
 have r5:∀ h',Grow h6 h'→h'.rd p1 (0+5)=some (.str o.data):=fun h' q=>(c1.grow q).rd (i:=5) rfl
 have R6:=Grow.refl g6.wf
 refine WC.seq<|WC.seqO<|ofa rfl<|old rfl (r0 _ R6) ?_
 by_cases hneg:o.op<0
 ·have hR:opWF o=[]:=by unfold opWF;rw [if_pos (.inl hneg)]
  rw [hR]
  exact obn rfl rfl (ltT hneg)<|omv rfl<|WO.skip rfl rfl<|WO.skip rfl rfl<|WO.skip rfl rfl<|opt rfl rfl<|WO.nil<|WC.cond rfl (fun hc=>WC.seqO<|omv rfl<|WO.nil<|WC.ret<|slfin_nil hw g6 rfl) (fun hc=>by cases hc)
 refine obn rfl rfl (ltF hneg)<|omv rfl<|WO.run rfl<|ofa rfl<|WO.run rfl<|old rfl (r0 _ R6)<|WO.run rfl ?_
 by_cases hbig:11≤o.op
 ·have hR:opWF o=[]:=by unfold opWF;rw [if_pos (.inr hbig)]
  rw [hR]
  exact obn rfl rfl (geT hbig)<|opf rfl rfl<|WO.nil<|WC.cond rfl (fun hc=>WC.seqO<|omv rfl<|WO.nil<|WC.ret<|slfin_nil hw g6 rfl) (fun hc=>by cases hc)
 refine obn rfl rfl (geF hbig)<|opf rfl rfl<|WO.nil<|WC.cond rfl (fun hc=>by cases hc) (fun hc=>WC.skip ?_)
 have ia:idxArrA 11 1 (.ptr (some (p3,0))) (jv o.op)=some (.ptr (some (p3,0+o.op.toNat*1))):=idxArr_at (by omega) (by omega)
 have hnm:h6.rd p3 (0+o.op.toNat*1)=some (.str (nmL.getD o.op.toNat [])):=by
  have hlt:o.op.toNat<nmL.length:=by show _<11;omega
  have:=c6'.rd (i:=o.op.toNat) (v:=.str (nmL.getD o.op.toNat [])) (by rw [List.getElem?_map,List.getD_eq_getElem?_getD,List.getElem?_eq_getElem hlt];rfl)
  rw [Nat.mul_one,Nat.zero_add];exact this
 have R0:=r0 _ R6
 have R1:=r1 _ R6
 refine WC.seqD<|dfa rfl<|WD.load1 rfl R0<|WD.pure (StepK.idxArr rfl rfl ia) rfl<|WD.load1 rfl hnm<|dfa rfl<|WD.load1 rfl R1<|WD.alloc rfl (StepK.buildSl rfl rfl) ?_
 have gn:=R6.push (.cells [.str (nmL.getD o.op.toNat []),.str o.path] (.tip [] 0 (some 9)))
 have hnew:(h6.push (.cells [.str (nmL.getD o.op.toNat []),.str o.path] (.tip [] 0 (some 9)))).get h6.size=some (.cells [.str (nmL.getD o.op.toNat []),.str o.path] (.tip [] 0 (some 9))):=get_push_self _ _
 have sn:Own1 h (h6.push (.cells [.str (nmL.getD o.op.toNat []),.str o.path] (.tip [] 0 (some 9)))) (.slice (some (h6.size,0)) 2 2) [nmL.getD o.op.toNat [],o.path]:=own_new g6.wf g6 [nmL.getD o.op.toNat [],o.path] (some 9) 2 rfl
 change WD C _ _ _ _ (h6.push (.cells [.str (nmL.getD o.op.toNat []),.str o.path] (.tip [] 0 (some 9)))) _
 have R0':=gn.rd R0
 have R1':=gn.rd R1
 have hnm':=gn.rd hnm
 have g7:=g6.trans gn
 generalize h6.push (.cells [.str (nmL.getD o.op.toNat []),.str o.path] (.tip [] 0 (some 9)))=h7 at *
 generalize h6.size=pn at *
 refine dmv rfl<|WD.nil ⟨hnew,R1',hnm',R0',trivial⟩ ?_
 refine WC.seqV (M:=fun e' h'=>∃ x,Cov [(4,x)] e'∧Own1 h h' x (opWF o)∧Grow h h') ?_ ?_
 rotate_left
 ·rintro e' h' ⟨x,k,s,g'⟩
  exact WC.cov k<|WC.seqO<|omv rfl<|omv rfl<|WO.nil<|WC.ret<|s.fin hw g' rfl
 have base:∀ ts,(if o.op=2∨o.op=5 then [o.to] else if o.op=6 then [itoaF o.off,itoaF o.len] else if o.op=7 then [itoaF o.off,bytF o.data] else if o.op=8 then [itoaF o.len] else [])=ts→opWF o=[nmL.getD o.op.toNat [],o.path]++ts:=by
  intro ts e;unfold opWF;rw [if_neg (by omega),e];rfl
 have I1:=ok.n1
 have I2:=ok.n2
 have L1:=ok.l1
 -- one more word
 have one:∀ (h':Heap) (w:List Nat),Grow h7 h'→∃ (h8:Heap) (v:V) (h9:Heap),h8=h'.push (.cells [.str w] (.tip [] 0 (some 9)))∧appendA h8 1 16 (some 9) (.slice (some (pn,0)) 2 2) (.slice (some (h'.size,0)) 1 1)=some (v,h9)∧Own1 h h9 v ([nmL.getD o.op.toNat [],o.path]++[w])∧Grow h h9:=by
  intro h' w q
  have gp:=(Grow.refl (g7.trans q).wf).push (.cells [.str w] (.tip [] 0 (some 9)))
  have sy:Sl (h'.push (.cells [.str w] (.tip [] 0 (some 9)))) 1 (.slice (some (h'.size,0)) 1 1) (strs [w]):=sl_one (get_push_self _ _) rfl
  obtain ⟨v,h9,a1,a2,a3⟩:=(sn.grow (q.trans gp)).app hw (g7.trans (q.trans gp)) sy (by simp)
  exact ⟨_,v,h9,rfl,a1,a2,a3⟩
 have two:∀ (h':Heap) (w u:List Nat),Grow h7 h'→∃ (h8:Heap) (v:V) (h9:Heap),h8=h'.push (.cells [.str w,.str u] (.tip [] 0 (some 9)))∧appendA h8 1 16 (some 9) (.slice (some (pn,0)) 2 2) (.slice (some (h'.size,0)) 2 2)=some (v,h9)∧Own1 h h9 v ([nmL.getD o.op.toNat [],o.path]++[w,u])∧Grow h h9∧Grow h' h8:=by
  intro h' w u q
  have gp:=(Grow.refl (g7.trans q).wf).push (.cells [.str w,.str u] (.tip [] 0 (some 9)))
  have sy:Sl (h'.push (.cells [.str w,.str u] (.tip [] 0 (some 9)))) 1 (.slice (some (h'.size,0)) 2 2) (strs [w,u]):=sl_arr (Cl.new _ _ _) rfl
  obtain ⟨v,h9,a1,a2,a3⟩:=(sn.grow (q.trans gp)).app hw (g7.trans (q.trans gp)) sy (by simp)
  exact ⟨_,v,h9,rfl,a1,a2,a3,gp⟩
 have R7:=Grow.refl g7.wf
 refine WC.seq<|WC.ops<|ofa rfl<|old rfl (r0 _ gn)<|WO.nil<|WC.block ?_
 refine WC.seqV (M:=fun e' h'=>Cov [(1,.ptr (some (p1,0))),(4,.slice (some (pn,0)) 2 2),(22,jv o.op),(23,.bool (decide (o.op=2∨o.op=5)))] e'∧h'=h7) ?_ ?_
 ·by_cases h2:o.op=2
  ·rw [decide_eq_true (show o.op=2∨o.op=5 from .inl h2)]
   exact WC.seqO<|obn rfl rfl (eqT h2)<|omv rfl<|WO.nil<|WC.cond rfl (fun hc=>WC.skip ⟨Cov.cons rfl (Cov.cons rfl (Cov.cons rfl (Cov.cons rfl (Cov.nil _)))),rfl⟩) (fun hc=>by cases hc)
  ·refine WC.seqO<|obn rfl rfl (eqF h2)<|omv rfl<|WO.nil<|WC.cond rfl (fun hc=>by cases hc) (fun hc=>?_)
   by_cases h5:o.op=5
   ·rw [decide_eq_true (show o.op=2∨o.op=5 from .inr h5)]
    exact WC.ops<|obn rfl rfl (eqT h5)<|omv rfl<|WO.nil ⟨Cov.cons rfl (Cov.cons rfl (Cov.cons rfl (Cov.cons rfl (Cov.nil _)))),rfl⟩
   ·rw [decide_eq_false (show ¬ (o.op=2∨o.op=5) from fun q=>by omega)]
    exact WC.ops<|obn rfl rfl (eqF h5)<|omv rfl<|WO.nil ⟨Cov.cons rfl (Cov.cons rfl (Cov.cons rfl (Cov.cons rfl (Cov.nil _)))),rfl⟩
 rintro e7 hh ⟨k7,rfl⟩
 refine WC.cov k7 ?_
 refine WC.cond rfl (fun hc=>?_) (fun hc=>?_)
 ·have h25:=of_decide_eq_true hc
  obtain ⟨h8,v,h9,e8,a1,a2,a3⟩:=one _ o.to R7
  refine WC.ops<|omv rfl<|ofa rfl<|old rfl (r2 _ gn)<|WO.ops (StepK.buildSl rfl rfl) ?_
  change WO C _ _ (Heap.push _ (.cells [.str o.to] (.tip [] 0 (some 9)))) _
  rw [←e8]
  exact WO.ops (StepK.append rfl rfl a1)<|omv rfl<|WO.nil ⟨v,Cov.cons rfl (Cov.nil _),by rw [base [o.to] (if_pos h25)];exact a2,a3⟩
 have h25:=of_decide_eq_false hc
 refine WC.seqO ?_
 by_cases h6':o.op=6
 ·refine obn rfl rfl (eqT h6')<|omv rfl<|WO.nil<|WC.cond rfl (fun hc=>?_) (fun hc=>by cases hc)
  have q3:=r3 _ gn
  have q4:=r4 _ gn
  refine WC.draw<|dmv rfl<|dfa rfl<|WD.load1 rfl q3<|dfa rfl<|WD.load1 rfl q4 ?_
  refine WD.call (by repeat (first | exact trivial | refine ⟨by with_reducible assumption,?_⟩)) rfl rfl (Ans.sum (R:=fun v h'=>v=.str (itoaF o.off)∧hh=h') (S.itoa _ _ I1.1 I1.2) ⟨rfl,rfl⟩) ?_
  rintro _ _ ⟨rfl,rfl⟩
  refine WD.call (by repeat (first | exact trivial | refine ⟨by with_reducible assumption,?_⟩)) rfl rfl (Ans.sum (R:=fun v h'=>v=.str (itoaF o.len)∧hh=h') (S.itoa _ _ I2.1 I2.2) ⟨rfl,rfl⟩) ?_
  rintro _ _ ⟨rfl,rfl⟩
  obtain ⟨h8,v,h9,e8,a1,a2,a3,gp⟩:=two _ (itoaF o.off) (itoaF o.len) R7
  refine WD.alloc rfl (StepK.buildSl rfl rfl) ?_
  change WD C _ _ _ _ (Heap.push _ (.cells [.str (itoaF o.off),.str (itoaF o.len)] (.tip [] 0 (some 9)))) _
  rw [←e8]
  refine WD.opC ⟨by rw [e8];exact get_push_self _ _,trivial⟩ rfl (StepK.append rfl rfl a1) ?_
  exact dmv rfl<|WD.nil (by repeat (first | exact trivial | refine ⟨by with_reducible assumption,?_⟩)) ⟨v,Cov.cons rfl (Cov.nil _),by rw [base [itoaF o.off,itoaF o.len] (by rw [if_neg h25,if_pos h6'])];exact a2,a3⟩
 refine obn rfl rfl (eqF h6')<|omv rfl<|WO.nil<|WC.cond rfl (fun hc=>by cases hc) (fun hc=>WC.seqO ?_)
 by_cases h7':o.op=7
 ·refine obn rfl rfl (eqT h7')<|omv rfl<|WO.nil<|WC.cond rfl (fun hc=>?_) (fun hc=>by cases hc)
  have q3:=r3 _ gn
  have q5:=r5 _ gn
  refine WC.draw<|dmv rfl<|dfa rfl<|WD.load1 rfl q3<|dfa rfl<|WD.load1 rfl q5 ?_
  refine WD.call (by repeat (first | exact trivial | refine ⟨by with_reducible assumption,?_⟩)) rfl rfl (Ans.sum (R:=fun v h'=>v=.str (itoaF o.off)∧hh=h') (S.itoa _ _ I1.1 I1.2) ⟨rfl,rfl⟩) ?_
  rintro _ _ ⟨rfl,rfl⟩
  refine WD.call (by repeat (first | exact trivial | refine ⟨by with_reducible assumption,?_⟩)) rfl rfl (hbytesW_ans S _ g7.wf o.data (by omega) ok.b3) ?_
  rintro _ h10 ⟨rfl,g10⟩
  obtain ⟨h8,v,h9,e8,a1,a2,a3,gp⟩:=two h10 (itoaF o.off) (bytF o.data) g10
  refine WD.alloc rfl (StepK.buildSl rfl rfl) ?_
  change WD C _ _ _ _ (Heap.push _ (.cells [.str (itoaF o.off),.str (bytF o.data)] (.tip [] 0 (some 9)))) _
  rw [←e8]
  refine WD.opC ⟨by rw [e8];exact get_push_self _ _,trivial⟩ rfl (StepK.append rfl rfl a1) ?_
  exact dmv rfl<|WD.nil (by repeat (first | exact trivial | refine ⟨by with_reducible assumption,?_⟩)) ⟨v,Cov.cons rfl (Cov.nil _),by rw [base [itoaF o.off,bytF o.data] (by rw [if_neg h25,if_neg h6',if_pos h7'])];exact a2,a3⟩
 refine obn rfl rfl (eqF h7')<|omv rfl<|WO.nil<|WC.cond rfl (fun hc=>by cases hc) (fun hc=>WC.seqO ?_)
 by_cases h8':o.op=8
 ·refine obn rfl rfl (eqT h8')<|omv rfl<|WO.nil<|WC.cond rfl (fun hc=>WC.ops ?_) (fun hc=>by cases hc)
  refine omv rfl<|ofa rfl<|old rfl (r4 _ gn) ?_
  refine WO.call rfl rfl (Ans.sum (R:=fun v h'=>v=.str (itoaF o.len)∧hh=h') (S.itoa _ _ I2.1 I2.2) ⟨rfl,rfl⟩) ?_
  rintro _ _ ⟨rfl,rfl⟩
  obtain ⟨h8,v,h9,e8,a1,a2,a3⟩:=one _ (itoaF o.len) R7
  refine WO.ops (StepK.buildSl rfl rfl) ?_
  change WO C _ _ (Heap.push _ (.cells [.str (itoaF o.len)] (.tip [] 0 (some 9)))) _
  rw [←e8]
  exact WO.ops (StepK.append rfl rfl a1)<|omv rfl<|WO.nil ⟨v,Cov.cons rfl (Cov.nil _),by rw [base [itoaF o.len] (by rw [if_neg h25,if_neg h6',if_neg h7',if_pos h8'])];exact a2,a3⟩
 ·exact obn rfl rfl (eqF h8')<|omv rfl<|WO.nil<|WC.cond rfl (fun hc=>by cases hc) (fun hc=>WC.skip ⟨_,Cov.cons rfl (Cov.nil _),by rw [base [] (by rw [if_neg h25,if_neg h6',if_neg h7',if_neg h8'])];exact sn,g7⟩)
end
end Abs
end Go.Proofs.YthgcjbniipfnbaaGreatDoor
namespace Go.Proofs.YthgcjbniipfnbaaGreatDoor
namespace Abs
set_option linter.unusedVariables false
set_option linter.unusedSimpArgs false
open Go.RowKit
attribute [local irreducible] WO WC WD StepK Ans Does Runs DoesD
theorem nm_len (d:Int) (h0:0≤d) (h1:d<11):(nmL.getD d.toNat []).length≤8∧Byt (nmL.getD d.toNat []):=by
 have hdc:d=0∨d=1∨d=2∨d=3∨d=4∨d=5∨d=6∨d=7∨d=8∨d=9∨d=10:=by omega
 rcases hdc with q | q | q | q | q | q | q | q | q | q | q <;> subst q <;> exact ⟨by decide,by unfold Byt;decide⟩
section
variable {C:Cfg} (S:StdL C)
include S
end
end Abs
end Go.Proofs.YthgcjbniipfnbaaGreatDoor
namespace Go.Proofs.YthgcjbniipfnbaaGreatDoor
namespace Abs
set_option linter.unusedVariables false
set_option linter.unusedSimpArgs false
open Go.RowKit
attribute [local irreducible] WO WC WD StepK Ans Does Runs DoesD
structure ItOk (x:ItV):Prop where
 o:OpOk x.o
 b1:Byt x.name
 b2:Byt x.data
 l1:x.name.length+x.data.length≤3000
 n1:-9223372036854775808≤x.now∧x.now≤9223372036854775807
 n2:-9223372036854775808≤x.n∧x.n≤9223372036854775807
 n3:-9223372036854775808≤x.dev∧x.dev≤9223372036854775807
 n4:-9223372036854775808≤x.at'∧x.at'≤9223372036854775807
theorem opW_len (o:OpV):(opWF o).length≤4:=by
 unfold opWF
 split
 ·simp
 ·repeat' split
  all_goals simp
section
variable {C:Cfg} (S:StdL C)
include S
theorem hitemW_ans (h:Heap) (hw:Wf h) (x:ItV) (u:V) (ok:ItOk x):Ans C 28 [.agg (x.ck u)] h (SlR h (itemWF x)):=by
 have hF:C.F 28=some a28:=S.f rfl
 unfold a28 at hF
 refine Ans.fn (fun _ _=>S.s _ _ _ rfl) hF rfl rfl hw fun h2 g=>?_
 clear hF
 have hs2:=g.size
 refine WC.seqO<|WO.ops (StepK.box rfl) ?_
 have c1:=Cl.new h2 (x.ck u) none
 have g3:=g.push (.cells (x.ck u) (.tip [] 0 none))
 have z3:(h2.push (.cells (x.ck u) (.tip [] 0 none))).size=h2.size+1:=rfl
 change WO C _ _ (h2.push (.cells (x.ck u) (.tip [] 0 none))) _
 generalize h2.push (.cells (x.ck u) (.tip [] 0 none))=h3 at *
 generalize h2.size=p1 at *
 refine omv rfl<|WO.nil<|WC.seqO ?_
 refine WO.call rfl rfl (things_ans S h3 g3.wf) ?_
 rintro _ h4 ⟨rfl,g4⟩
 replace c1:=c1.grow g4
 have hs34:=g4.size
 replace g4:=g3.trans g4
 refine WO.ops StepK.alloc ?_
 have c3:=Cl.new h4 (List.replicate 14 (.str [])) none
 have gp:=(Grow.refl g4.wf).push (.cells (List.replicate 14 (.str [])) (.tip [] 0 none))
 have z5:(h4.push (.cells (List.replicate 14 (.str [])) (.tip [] 0 none))).size=h4.size+1:=rfl
 change WO C _ _ (h4.push (.cells (List.replicate 14 (.str [])) (.tip [] 0 none))) _
 replace c1:=c1.grow gp
 have hp1:p1<h4.size:=by omega
 have hs4:=g4.size
 have g5:=g4.trans gp
 generalize h4.push (.cells (List.replicate 14 (.str [])) (.tip [] 0 none))=h5 at *
 generalize h4.size=p3 at *
 obtain ⟨h6,w6,c6,ch6,z6⟩:=c3.sets g5.wf (i:=0) (us:=thL.map V.str) (by decide) (by decide)
 have c6':Cl h6 p3 (thL.map V.str):=c6
 have g6:Grow h h6:=ch6.newGrow g5 hw (by simp;omega)
 replace c1:=c1.chg ch6 (by simp;omega)
 clear c3 c6 ch6
 refine WO.op (StepK.store (v:=.agg (thL.map V.str)) rfl rfl rfl w6)<|WO.nil ?_
 clear w6 z6
 have r0:∀ h',Grow h6 h'→h'.rd p1 (0+0)=some (jv x.op):=fun h' q=>(c1.grow q).rd (i:=0) rfl
 have rO:∀ h',Grow h6 h'→h'.rds p1 (0+1) 6=some x.o.cs:=fun h' q=>by have:=(c1.grow q).rdsAt (o:=1) (n:=6) (by simp [ItV.ck]);rw [this];rfl
 have rN:∀ h',Grow h6 h'→h'.rd p1 (0+7)=some (.str x.name):=fun h' q=>(c1.grow q).rd (i:=7) rfl
 have r8:∀ h',Grow h6 h'→h'.rd p1 (0+8)=some (jv x.now):=fun h' q=>(c1.grow q).rd (i:=8) rfl
 have r9:∀ h',Grow h6 h'→h'.rd p1 (0+9)=some (jv x.n):=fun h' q=>(c1.grow q).rd (i:=9) rfl
 have rA:∀ h',Grow h6 h'→h'.rd p1 (0+10+0)=some (jv x.dev):=fun h' q=>(c1.grow q).rd (i:=10) rfl
 have rB:∀ h',Grow h6 h'→h'.rd p1 (0+10+1)=some (jv x.at'):=fun h' q=>(c1.grow q).rd (i:=11) rfl
 have rD:∀ h',Grow h6 h'→h'.rd p1 (0+12)=some (.str x.data):=fun h' q=>(c1.grow q).rd (i:=12) rfl
 have R6:=Grow.refl g6.wf
 refine WC.seq<|WC.seqO<|ofa rfl<|old rfl (r0 _ R6) ?_
 by_cases hneg:x.op<0
 ·have hR:itemWF x=[]:=by unfold itemWF;rw [if_pos (.inl hneg)]
  rw [hR]
  exact obn rfl rfl (ltT hneg)<|omv rfl<|WO.skip rfl rfl<|WO.skip rfl rfl<|WO.skip rfl rfl<|opt rfl rfl<|WO.nil<|WC.cond rfl (fun hc=>WC.seqO<|omv rfl<|WO.nil<|WC.ret<|slfin_nil hw g6 rfl) (fun hc=>by cases hc)
 refine obn rfl rfl (ltF hneg)<|omv rfl<|WO.run rfl<|ofa rfl<|WO.run rfl<|old rfl (r0 _ R6)<|WO.run rfl ?_
 by_cases hbig:14≤x.op
 ·have hR:itemWF x=[]:=by unfold itemWF;rw [if_pos (.inr hbig)]
  rw [hR]
  exact obn rfl rfl (geT hbig)<|opf rfl rfl<|WO.nil<|WC.cond rfl (fun hc=>WC.seqO<|omv rfl<|WO.nil<|WC.ret<|slfin_nil hw g6 rfl) (fun hc=>by cases hc)
 refine obn rfl rfl (geF hbig)<|opf rfl rfl<|WO.nil<|WC.cond rfl (fun hc=>by cases hc) (fun hc=>WC.skip ?_)
 have ia:idxArrA 14 1 (.ptr (some (p3,0))) (jv x.op)=some (.ptr (some (p3,0+x.op.toNat*1))):=idxArr_at (by omega) (by omega)
 have hnm:h6.rd p3 (0+x.op.toNat*1)=some (.str (thL.getD x.op.toNat [])):=by
  have hlt:x.op.toNat<thL.length:=by show _<14;omega
  have:=c6'.rd (i:=x.op.toNat) (v:=.str (thL.getD x.op.toNat [])) (by rw [List.getElem?_map,List.getD_eq_getElem?_getD,List.getElem?_eq_getElem hlt];rfl)
  rw [Nat.mul_one,Nat.zero_add];exact this
 refine WC.seqO<|ofa rfl<|old rfl (r0 _ R6)<|WO.ops (StepK.idxArr rfl rfl ia)<|old rfl hnm<|WO.ops (StepK.buildSl rfl rfl) ?_
 have gn:=R6.push (.cells [.str (thL.getD x.op.toNat [])] (.tip [] 0 (some 9)))
 have sn:Own1 h6 (h6.push (.cells [.str (thL.getD x.op.toNat [])] (.tip [] 0 (some 9)))) (.slice (some (h6.size,0)) 1 1) [thL.getD x.op.toNat []]:=own_new g6.wf R6 [thL.getD x.op.toNat []] (some 9) 1 rfl
 change WO C _ _ (h6.push (.cells [.str (thL.getD x.op.toNat [])] (.tip [] 0 (some 9)))) _
 have g7:=g6.trans gn
 generalize h6.push (.cells [.str (thL.getD x.op.toNat [])] (.tip [] 0 (some 9)))=h7 at *
 generalize h6.size=pn at *
 have R7:=Grow.refl g7.wf
 refine omv rfl<|WO.nil<|WC.seq<|WC.seq<|WC.ops<|ofa rfl<|old rfl (r0 _ gn)<|WO.nil<|WC.block<|WC.seqO ?_
 have base:∀ ts,x.op≠0→(if x.op=2∨x.op=3∨x.op=4 then [x.name] else if x.op=5 then x.name::opWF x.o else if x.op=7 then [itoaF x.now,itoaF x.n] else if x.op=9 then [itoaF x.dev,itoaF x.at',bytF x.data] else if x.op=10 then [itoaF x.n] else [])=ts→itemWF x=[thL.getD x.op.toNat []]++ts:=by
  intro ts e0 e;unfold itemWF;rw [if_neg (by omega),if_neg e0,e];rfl
 -- more words
 have more:∀ (h8:Heap) (y:V) (us:List (List Nat)),Grow h7 h8→Sl h8 1 y (strs us)→us.length≤10→∃ (v:V) (h9:Heap),appendA h8 1 16 (some 9) (.slice (some (pn,0)) 1 1) y=some (v,h9)∧Own1 h6 h9 v ([thL.getD x.op.toNat []]++us)∧Grow h6 h9:=by
  intro h8 y us q sy hl
  exact (sn.grow q).app g6.wf (gn.trans q) sy (by simp;omega)
 have lit:∀ (h':Heap) (us:List (List Nat)) (n:Nat),us.length=n→Grow h7 h'→Grow h' (h'.push (.cells (us.map V.str) (.tip [] 0 (some 9))))∧Sl (h'.push (.cells (us.map V.str) (.tip [] 0 (some 9)))) 1 (.slice (some (h'.size,0)) n n) (strs us):=by
  intro h' us n hn q
  exact ⟨(Grow.refl (g7.trans q).wf).push _,sl_arr (Cl.new _ _ _) hn⟩
 have I1:=ok.n1
 have I2:=ok.n2
 have I3:=ok.n3
 have I4:=ok.n4
 have L1:=ok.l1
 by_cases e0:x.op=0
 ·have hB:itemWF x=opWF x.o:=by unfold itemWF;rw [if_neg (by omega),if_pos e0]
  refine obn rfl rfl (eqT e0)<|omv rfl<|WO.nil<|WC.cond rfl (fun hc=>WC.seqO<|ofa rfl<|WO.ops (StepK.loadN rfl (rO _ gn)) ?_) (fun hc=>by cases hc)
  refine WO.call rfl rfl (hopW_ans S h7 g7.wf x.o ok.o) ?_
  rintro v h8 ⟨s8,g8⟩
  rw [hB]
  exact omv rfl<|WO.nil<|WC.ret<|(s8.lower g7.size).fin hw (g7.trans g8) rfl
 refine obn rfl rfl (eqF e0)<|omv rfl<|WO.nil<|WC.cond rfl (fun hc=>by cases hc) (fun hc=>?_)
 refine WC.seqV (M:=fun e' h'=>Cov [(1,.ptr (some (p1,0))),(4,.slice (some (pn,0)) 1 1),(20,jv x.op),(26,.bool (decide (x.op=2∨x.op=3∨x.op=4)))] e'∧h7=h') ?_ ?_
 ·by_cases e2:x.op=2
  ·rw [decide_eq_true (show x.op=2∨x.op=3∨x.op=4 from .inl e2)]
   exact WC.seqO<|obn rfl rfl (eqT e2)<|omv rfl<|WO.nil<|WC.cond rfl (fun hc=>WC.skip ⟨Cov.cons rfl (Cov.cons rfl (Cov.cons rfl (Cov.cons rfl (Cov.nil _)))),rfl⟩) (fun hc=>by cases hc)
  refine WC.seqO<|obn rfl rfl (eqF e2)<|omv rfl<|WO.nil<|WC.cond rfl (fun hc=>by cases hc) (fun hc=>?_)
  by_cases e3:x.op=3
  ·rw [decide_eq_true (show x.op=2∨x.op=3∨x.op=4 from .inr (.inl e3))]
   exact WC.seqO<|obn rfl rfl (eqT e3)<|omv rfl<|WO.nil<|WC.cond rfl (fun hc=>WC.skip ⟨Cov.cons rfl (Cov.cons rfl (Cov.cons rfl (Cov.cons rfl (Cov.nil _)))),rfl⟩) (fun hc=>by cases hc)
  refine WC.seqO<|obn rfl rfl (eqF e3)<|omv rfl<|WO.nil<|WC.cond rfl (fun hc=>by cases hc) (fun hc=>?_)
  by_cases e4:x.op=4
  ·rw [decide_eq_true (show x.op=2∨x.op=3∨x.op=4 from .inr (.inr e4))]
   exact WC.ops<|obn rfl rfl (eqT e4)<|omv rfl<|WO.nil ⟨Cov.cons rfl (Cov.cons rfl (Cov.cons rfl (Cov.cons rfl (Cov.nil _)))),rfl⟩
  ·rw [decide_eq_false (show ¬ (x.op=2∨x.op=3∨x.op=4) from fun q=>by omega)]
   exact WC.ops<|obn rfl rfl (eqF e4)<|omv rfl<|WO.nil ⟨Cov.cons rfl (Cov.cons rfl (Cov.cons rfl (Cov.cons rfl (Cov.nil _)))),rfl⟩
 rintro e7 _ ⟨k7,rfl⟩
 refine WC.cov k7 ?_
 refine WC.cond rfl (fun hc=>?_) (fun hc=>?_)
 ·have h234:=of_decide_eq_true hc
  obtain ⟨gl,sl⟩:=lit h7 [x.name] 1 rfl R7
  obtain ⟨v,h9,a1,a2,a3⟩:=more _ _ [x.name] gl sl (by simp)
  rw [base _ e0 (if_pos h234)]
  exact WC.seqO<|omv rfl<|ofa rfl<|old rfl (rN _ gn)<|WO.ops (StepK.buildSl rfl rfl)<|WO.ops (StepK.append rfl rfl a1)<|omv rfl<|WO.nil<|WC.ret<|(a2.lower g6.size).fin hw (g6.trans a3) rfl
 have h234:=of_decide_eq_false hc
 refine WC.seqO ?_
 by_cases e5:x.op=5
 ·refine obn rfl rfl (eqT e5)<|omv rfl<|WO.nil<|WC.cond rfl (fun hc=>?_) (fun hc=>by cases hc)
  have q1:=rN _ gn
  obtain ⟨gl,sl⟩:=lit h7 [x.name] 1 rfl R7
  have hnew:(h7.push (.cells ([x.name].map V.str) (.tip [] 0 (some 9)))).get h7.size=some (.cells ([x.name].map V.str) (.tip [] 0 (some 9))):=get_push_self _ _
  obtain ⟨v,h9,a1,a2,a3⟩:=more _ _ [x.name] gl sl (by simp)
  refine WC.seqD<|dmv rfl<|dfa rfl<|WD.load1 rfl q1<|WD.alloc rfl (StepK.buildSl rfl rfl) ?_
  have q2:=rO _ (gn.trans gl)
  have q1':=rN _ (gn.trans gl)
  refine dfa rfl<|WD.loadN rfl q2<|WD.opC ⟨q2,hnew,q1',trivial⟩ rfl (StepK.append rfl rfl a1) ?_
  refine WD.call ⟨rO _ a3,trivial⟩ rfl rfl (hopW_ans S h9 a3.wf x.o ok.o) ?_
  rintro y h10 ⟨s10,g10⟩
  obtain ⟨v2,h11,b1,b2,b3⟩:=(a2.grow g10).app g6.wf (a3.trans g10) s10.sl (by have:=opW_len x.o;simp;omega)
  rw [base _ e0 ((if_neg h234).trans (if_pos e5))]
  exact WD.opC trivial rfl (StepK.append rfl rfl b1)<|dmv rfl<|WD.nil (by repeat (first | exact trivial | refine ⟨by with_reducible assumption,?_⟩))<|WC.ret<|(b2.lower g6.size).fin hw (g6.trans b3) rfl
 refine obn rfl rfl (eqF e5)<|omv rfl<|WO.nil<|WC.cond rfl (fun hc=>by cases hc) (fun hc=>WC.seqO ?_)
 by_cases e7':x.op=7
 ·refine obn rfl rfl (eqT e7')<|omv rfl<|WO.nil<|WC.cond rfl (fun hc=>?_) (fun hc=>by cases hc)
  have q1:=r8 _ gn
  have q2:=r9 _ gn
  refine WC.seqD<|dmv rfl<|dfa rfl<|WD.load1 rfl q1<|dfa rfl<|WD.load1 rfl q2 ?_
  refine WD.call (by repeat (first | exact trivial | refine ⟨by with_reducible assumption,?_⟩)) rfl rfl (Ans.sum (R:=fun v h'=>v=.str (itoaF x.now)∧h7=h') (S.itoa _ _ I1.1 I1.2) ⟨rfl,rfl⟩) ?_
  rintro _ _ ⟨rfl,rfl⟩
  refine WD.call (by repeat (first | exact trivial | refine ⟨by with_reducible assumption,?_⟩)) rfl rfl (Ans.sum (R:=fun v h'=>v=.str (itoaF x.n)∧h7=h') (S.itoa _ _ I2.1 I2.2) ⟨rfl,rfl⟩) ?_
  rintro _ _ ⟨rfl,rfl⟩
  obtain ⟨gl,sl⟩:=lit h7 [itoaF x.now,itoaF x.n] 2 rfl R7
  obtain ⟨v,h9,a1,a2,a3⟩:=more _ _ [itoaF x.now,itoaF x.n] gl sl (by simp)
  rw [base _ e0 ((if_neg h234).trans ((if_neg e5).trans (if_pos e7')))]
  exact WD.alloc rfl (StepK.buildSl rfl rfl)<|WD.opC ⟨get_push_self _ _,trivial⟩ rfl (StepK.append rfl rfl a1)<|dmv rfl<|WD.nil (by repeat (first | exact trivial | refine ⟨by with_reducible assumption,?_⟩))<|WC.ret<|(a2.lower g6.size).fin hw (g6.trans a3) rfl
 refine obn rfl rfl (eqF e7')<|omv rfl<|WO.nil<|WC.cond rfl (fun hc=>by cases hc) (fun hc=>WC.seqO ?_)
 by_cases e9:x.op=9
 ·refine obn rfl rfl (eqT e9)<|omv rfl<|WO.nil<|WC.cond rfl (fun hc=>?_) (fun hc=>by cases hc)
  have q1:=rA _ gn
  have q2:=rB _ gn
  have q3:=rD _ gn
  refine WC.seqD<|dmv rfl<|dfa rfl<|dfa rfl<|WD.load1 rfl q1<|dfa rfl<|dfa rfl<|WD.load1 rfl q2<|dfa rfl<|WD.load1 rfl q3 ?_
  refine WD.call (by repeat (first | exact trivial | refine ⟨by with_reducible assumption,?_⟩)) rfl rfl (Ans.sum (R:=fun v h'=>v=.str (itoaF x.dev)∧h7=h') (S.itoa _ _ I3.1 I3.2) ⟨rfl,rfl⟩) ?_
  rintro _ _ ⟨rfl,rfl⟩
  refine WD.call (by repeat (first | exact trivial | refine ⟨by with_reducible assumption,?_⟩)) rfl rfl (Ans.sum (R:=fun v h'=>v=.str (itoaF x.at')∧h7=h') (S.itoa _ _ I4.1 I4.2) ⟨rfl,rfl⟩) ?_
  rintro _ _ ⟨rfl,rfl⟩
  refine WD.call (by repeat (first | exact trivial | refine ⟨by with_reducible assumption,?_⟩)) rfl rfl (hbytesW_ans S h7 g7.wf x.data (by omega) ok.b2) ?_
  rintro _ h8 ⟨rfl,g8⟩
  obtain ⟨gl,sl⟩:=lit h8 [itoaF x.dev,itoaF x.at',bytF x.data] 3 rfl g8
  obtain ⟨v,h9,a1,a2,a3⟩:=more _ _ [itoaF x.dev,itoaF x.at',bytF x.data] (g8.trans gl) sl (by simp)
  rw [base _ e0 ((if_neg h234).trans ((if_neg e5).trans ((if_neg e7').trans (if_pos e9))))]
  exact WD.alloc rfl (StepK.buildSl rfl rfl)<|WD.opC ⟨get_push_self _ _,trivial⟩ rfl (StepK.append rfl rfl a1)<|dmv rfl<|WD.nil (by repeat (first | exact trivial | refine ⟨by with_reducible assumption,?_⟩))<|WC.ret<|(a2.lower g6.size).fin hw (g6.trans a3) rfl
 refine obn rfl rfl (eqF e9)<|omv rfl<|WO.nil<|WC.cond rfl (fun hc=>by cases hc) (fun hc=>WC.seqO ?_)
 by_cases e10:x.op=10
 ·refine obn rfl rfl (eqT e10)<|omv rfl<|WO.nil<|WC.cond rfl (fun hc=>WC.seqO ?_) (fun hc=>by cases hc)
  refine omv rfl<|ofa rfl<|old rfl (r9 _ gn) ?_
  refine WO.call rfl rfl (Ans.sum (R:=fun v h'=>v=.str (itoaF x.n)∧h7=h') (S.itoa _ _ I2.1 I2.2) ⟨rfl,rfl⟩) ?_
  rintro _ _ ⟨rfl,rfl⟩
  obtain ⟨gl,sl⟩:=lit h7 [itoaF x.n] 1 rfl R7
  obtain ⟨v,h9,a1,a2,a3⟩:=more _ _ [itoaF x.n] gl sl (by simp)
  rw [base _ e0 ((if_neg h234).trans ((if_neg e5).trans ((if_neg e7').trans ((if_neg e9).trans (if_pos e10)))))]
  exact WO.ops (StepK.buildSl rfl rfl)<|WO.ops (StepK.append rfl rfl a1)<|omv rfl<|WO.nil<|WC.ret<|(a2.lower g6.size).fin hw (g6.trans a3) rfl
 ·rw [base _ e0 ((if_neg h234).trans ((if_neg e5).trans ((if_neg e7').trans ((if_neg e9).trans (if_neg e10)))))]
  exact obn rfl rfl (eqF e10)<|omv rfl<|WO.nil<|WC.cond rfl (fun hc=>by cases hc) (fun hc=>WC.skip<|WC.seqO<|omv rfl<|omv rfl<|WO.nil<|WC.ret<|(sn.lower g6.size).fin hw g7 rfl)
end
end Abs
end Go.Proofs.YthgcjbniipfnbaaGreatDoor
namespace Go.Proofs.YthgcjbniipfnbaaGreatDoor
namespace Abs
set_option linter.unusedVariables false
set_option linter.unusedSimpArgs false
open Go.RowKit
attribute [local irreducible] WO WC WD StepK Ans Does Runs DoesD
structure AnV where
 code:Int
 n:Int
 data:List Nat
 names:List (List Nat)
def AnV.cs (a:AnV) (u:V):List V:=[jv a.code,jv a.n,.str a.data,u]
structure AnOk (a:AnV):Prop where
 n0:-9223372036854775808≤a.code∧a.code≤9223372036854775807
 n1:-9223372036854775808≤a.n∧a.n≤9223372036854775807
 b1:Byt a.data
 b2:∀ w∈a.names,Byt w∧w.length≤300
 l1:a.data.length≤300∧a.names.length≤20
theorem join_len {m:Nat}:∀ (ts:List (List Nat)),(∀ t∈ts,t.length≤m)→(joinF ts).length≤ts.length*(m+1)
 | [],_=>by simp [joinF]
 | [a],h=>by have:=h a (by simp);simp [joinF];omega
 | a::b::r,h=>by
  have h1:=h a (by simp)
  have:=join_len (b::r) (fun t ht=>h t (List.mem_cons_of_mem _ ht))
  show (a++32::joinF (b::r)).length≤_
  have e:(a::b::r).length*(m+1)=(b::r).length*(m+1)+(m+1):=by rw [List.length_cons,Nat.succ_mul]
  rw [e,List.length_append,List.length_cons];omega
section
variable {C:Cfg} (S:StdL C)
include S
end
end Abs
end Go.Proofs.YthgcjbniipfnbaaGreatDoor
namespace Go.Proofs.YthgcjbniipfnbaaGreatDoor
namespace Abs
set_option linter.unusedVariables false
set_option linter.unusedSimpArgs false
open Go.RowKit
attribute [local irreducible] WO WC WD StepK Ans Does Runs DoesD
theorem join_byt:∀ (ts:List (List Nat)),(∀ t∈ts,Byt t)→Byt (joinF ts)
 | [],_=>Byt.nil
 | [a],h=>h a (by simp)
 | a::b::r,h=>by
  have:=join_byt (b::r) (fun t ht=>h t (List.mem_cons_of_mem _ ht))
  show Byt (a++32::joinF (b::r))
  refine (h a (by simp)).app fun c hc=>?_
  rcases List.mem_cons.1 hc with rfl | hc
  ·decide
  ·exact this c hc
theorem th_len (d:Int) (h0:0≤d) (h1:d<14):(thL.getD d.toNat []).length≤8∧Byt (thL.getD d.toNat []):=by
 have hdc:d=0∨d=1∨d=2∨d=3∨d=4∨d=5∨d=6∨d=7∨d=8∨d=9∨d=10∨d=11∨d=12∨d=13:=by omega
 rcases hdc with q | q | q | q | q | q | q | q | q | q | q | q | q | q <;> subst q <;> exact ⟨by decide,by unfold Byt;decide⟩
theorem opW_ok {o:OpV} (ok:OpOk o):∀ t∈opWF o,Byt t∧t.length≤7000:=by
 have I1:=itoa_len ok.n1.1 ok.n1.2
 have I2:=itoa_len ok.n2.1 ok.n2.2
 have I3:=bytF_len o.data
 have L:=ok.l1
 have a1:Byt (itoaF o.off)∧(itoaF o.off).length≤7000:=⟨itoa_byt _,by omega⟩
 have a2:Byt (itoaF o.len)∧(itoaF o.len).length≤7000:=⟨itoa_byt _,by omega⟩
 have a3:Byt (bytF o.data)∧(bytF o.data).length≤7000:=⟨bytF_byt ok.b3,by omega⟩
 have a4:Byt o.path∧o.path.length≤7000:=⟨ok.b1,by omega⟩
 have a5:Byt o.to∧o.to.length≤7000:=⟨ok.b2,by omega⟩
 intro t ht
 unfold opWF at ht
 split at ht
 ·cases ht
 ·rename_i hc
  have a0:=nm_len o.op (by omega) (by omega)
  rcases List.mem_cons.1 ht with rfl | ht
  ·exact ⟨a0.2,by omega⟩
  rcases List.mem_cons.1 ht with rfl | ht
  ·exact a4
  repeat' split at ht
  all_goals simp only [List.mem_cons,List.not_mem_nil,or_false] at ht
  ·subst ht;exact a5
  ·rcases ht with rfl | rfl <;> assumption
  ·rcases ht with rfl | rfl <;> assumption
  ·subst ht;exact a2
theorem itW_ok {x:ItV} (ok:ItOk x):∀ t∈itemWF x,Byt t∧t.length≤7000:=by
 have I1:=itoa_len ok.n1.1 ok.n1.2
 have I2:=itoa_len ok.n2.1 ok.n2.2
 have I3:=itoa_len ok.n3.1 ok.n3.2
 have I4:=itoa_len ok.n4.1 ok.n4.2
 have I5:=bytF_len x.data
 have L:=ok.l1
 have a1:Byt (itoaF x.now)∧(itoaF x.now).length≤7000:=⟨itoa_byt _,by omega⟩
 have a2:Byt (itoaF x.n)∧(itoaF x.n).length≤7000:=⟨itoa_byt _,by omega⟩
 have a3:Byt (itoaF x.dev)∧(itoaF x.dev).length≤7000:=⟨itoa_byt _,by omega⟩
 have a4:Byt (itoaF x.at')∧(itoaF x.at').length≤7000:=⟨itoa_byt _,by omega⟩
 have a5:Byt (bytF x.data)∧(bytF x.data).length≤7000:=⟨bytF_byt ok.b2,by omega⟩
 have a6:Byt x.name∧x.name.length≤7000:=⟨ok.b1,by omega⟩
 intro t ht
 unfold itemWF at ht
 split at ht
 ·cases ht
 rename_i hc
 have a0:=th_len x.op (by omega) (by omega)
 split at ht
 ·exact opW_ok ok.o t ht
 rcases List.mem_cons.1 ht with rfl | ht
 ·exact ⟨a0.2,by omega⟩
 split at ht
 ·simp only [List.mem_cons,List.not_mem_nil,or_false] at ht;subst ht;exact a6
 split at ht
 ·rcases List.mem_cons.1 ht with rfl | ht
  ·exact a6
  ·exact opW_ok ok.o t ht
 split at ht
 ·simp only [List.mem_cons,List.not_mem_nil,or_false] at ht;rcases ht with rfl | rfl <;> assumption
 split at ht
 ·simp only [List.mem_cons,List.not_mem_nil,or_false] at ht;rcases ht with rfl | rfl | rfl <;> assumption
 split at ht
 ·simp only [List.mem_cons,List.not_mem_nil,or_false] at ht;subst ht;exact a2
 ·cases ht
theorem itW_len (x:ItV):(itemWF x).length≤6:=by
 have:=opW_len x.o
 unfold itemWF
 split
 ·simp
 split
 ·omega
 repeat' split
 all_goals simp
 omega
noncomputable def lineF (x:ItV):List Nat:=joinF (itemWF x)
theorem line_ok {x:ItV} (ok:ItOk x):Byt (lineF x)∧(lineF x).length≤60000:=by
 refine ⟨join_byt _ fun t ht=>(itW_ok ok t ht).1,?_⟩
 have h1:=join_len (itemWF x) fun t ht=>(itW_ok ok t ht).2
 have h2:=itW_len x
 have:(itemWF x).length*(7000+1)≤6*7001:=Nat.mul_le_mul_right _ h2
 unfold lineF
 omega
open Classical in
noncomputable def printF (x:ItV) (k:Nat):List Nat:=if parseS (lineF x)=(x,0)∧k=0 then lineF x else []
open Classical in
theorem printF_T {x:ItV} {k:Nat} (h:parseS (lineF x)=(x,0)∧k=0):printF x k=lineF x:=by unfold printF;rw [if_pos h]
open Classical in
theorem printF_F {x:ItV} {k:Nat} (h:¬ (parseS (lineF x)=(x,0)∧k=0)):printF x k=[]:=by unfold printF;rw [if_neg h]
theorem sl_form {u:V} {k:Nat} (hu:slLen u=some k):(∃ a n c,u=.slice a n c)∨∃ a b c d e,u=.oslice a b c d e:=by
 cases u <;> first | exact .inl ⟨_,_,_,rfl⟩ | exact .inr ⟨_,_,_,_,_,rfl⟩ | (simp [slLen] at hu)
section
variable {C:Cfg} (S:StdL C)
include S
set_option maxHeartbeats 6000000 in
theorem l24own_ans (h:Heap) (hw:Wf h) (x:ItV) (u:V) (k:Nat) (hu:slLen u=some k):Ans C 13 [.agg (x.ck u)] h fun v h'=>v=.agg (x.ck u)∧Grow h h':=by
 have hF:C.F 13=some a13:=S.f rfl
 unfold a13 at hF
 refine Ans.val (fun _ _=>S.s _ _ _ rfl) hF rfl rfl hw fun h2 g=>?_
 clear hF
 have hform:=sl_form hu
 have hone:V.one u=true:=by rcases hform with ⟨_,_,_,rfl⟩ | ⟨_,_,_,_,_,rfl⟩ <;> rfl
 have hs2:=g.size
 refine WC.seqO<|WO.ops (StepK.box rfl) ?_
 have c1:=Cl.new h2 (x.ck u) none
 have g3:=g.push (.cells (x.ck u) (.tip [] 0 none))
 have z3:(h2.push (.cells (x.ck u) (.tip [] 0 none))).size=h2.size+1:=rfl
 change WO C _ _ (h2.push (.cells (x.ck u) (.tip [] 0 none))) _
 generalize h2.push (.cells (x.ck u) (.tip [] 0 none))=h3 at *
 refine WO.ops StepK.alloc ?_
 have c2:=Cl.new h3 ItV.z.cs none
 have gp:=(Grow.refl g3.wf).push (.cells ItV.z.cs (.tip [] 0 none))
 have g4:=g3.trans gp
 change WO C _ _ (h3.push (.cells ItV.z.cs (.tip [] 0 none))) _
 replace c1:=c1.grow gp
 generalize h3.push (.cells ItV.z.cs (.tip [] 0 none))=h4 at *
 obtain ⟨h5,w5,r5,c5,z5⟩:=c2.sets g4.wf (i:=0) (us:=x.ck u) (by simp [ItV.cs,ItV.ck]) (by rw [List.all_eq_true];intro v hv;simp only [ItV.ck,List.mem_cons,List.not_mem_nil,or_false] at hv;rcases hv with rfl | rfl | rfl | rfl | rfl | rfl | rfl | rfl | rfl | rfl | rfl | rfl | rfl | rfl <;> first | rfl | exact hone)
 have r5':Cl h5 h3.size (x.ck u):=r5
 have ro:h4.rds h2.size (0+1) 6=some x.o.cs:=by have:=c1.rdsAt (o:=1) (n:=6) (by simp [ItV.ck]);rw [this];rfl
 have rl:h4.rds h2.size (0+10) 2=some [jv x.dev,jv x.at']:=by have:=c1.rdsAt (o:=10) (n:=2) (by simp [ItV.ck]);rw [this];rfl
 refine WO.nil<|WC.seqO<|ofa rfl<|old rfl (c1.rd (i:=0) rfl)<|ofa rfl<|WO.ops (StepK.loadN rfl ro)<|ofa rfl<|old rfl (c1.rd (i:=7) rfl)<|ofa rfl<|old rfl (c1.rd (i:=8) rfl)<|ofa rfl<|old rfl (c1.rd (i:=9) rfl)<|ofa rfl<|WO.ops (StepK.loadN rfl rl)<|ofa rfl<|old rfl (c1.rd (i:=12) rfl)<|ofa rfl<|old rfl (c1.rd (i:=13) rfl) ?_
 have gf:Grow h h5:=c5.newGrow g4 hw (by simp;omega)
 clear hu
 rcases hform with ⟨_,_,_,rfl⟩ | ⟨_,_,_,_,_,rfl⟩
 ·exact obu rfl rfl<|WO.op (StepK.store (v:=.agg (x.ck _)) rfl rfl rfl w5)<|WO.nil<|WC.ret ⟨trivial,gf,retE_cells rfl (r5'.rds rfl)⟩
 ·exact obu rfl rfl<|WO.op (StepK.store (v:=.agg (x.ck _)) rfl rfl rfl w5)<|WO.nil<|WC.ret ⟨trivial,gf,retE_cells rfl (r5'.rds rfl)⟩
theorem hPrint_ans (h:Heap) (hw:Wf h) (x:ItV) (u:V) (k:Nat) (hu:slLen u=some k) (hk:k≤9223372036854775807) (ok:ItOk x):Ans C 12 [.agg (x.ck u)] h fun v h'=>v=.str (printF x k)∧Grow h h':=by
 have hF:C.F 12=some a12:=S.f rfl
 unfold a12 at hF
 refine Ans.val (fun _ _=>S.s _ _ _ rfl) hF rfl rfl hw fun h2 g=>?_
 clear hF
 have hs2:=g.size
 refine WC.seqO<|WO.ops (StepK.box rfl) ?_
 have c1:=Cl.new h2 (x.ck u) none
 have g3:=g.push (.cells (x.ck u) (.tip [] 0 none))
 change WO C _ _ (h2.push (.cells (x.ck u) (.tip [] 0 none))) _
 generalize h2.push (.cells (x.ck u) (.tip [] 0 none))=h3 at *
 generalize h2.size=p1 at *
 refine omv rfl<|WO.nil<|WC.seqO<|WO.ops (StepK.loadN rfl (c1.rds rfl)) ?_
 refine WO.call rfl rfl (hitemW_ans S h3 g3.wf x u ok) ?_
 rintro y h4 ⟨s4,g4⟩
 have L:=line_ok ok
 refine WO.call rfl rfl (Ans.sum (R:=fun v h'=>v=.str (lineF x)∧h4=h') (S.join h4 y _ s4.sl (by have:=L.2;unfold lineF at this;omega)) ⟨rfl,rfl⟩) ?_
 rintro _ _ ⟨rfl,rfl⟩
 replace c1:=c1.grow g4
 have g14:=g3.trans g4
 refine omv rfl<|WO.nil<|WC.seq<|WC.seqO<|omv rfl ?_
 refine WO.call rfl rfl (parse_ans S h4 g14.wf (lineF x) L.1 (by have:=L.2;omega)) ?_
 rintro _ h5 ⟨rfl,g5⟩
 replace c1:=c1.grow g5
 have g15:=g14.trans g5
 refine omv rfl<|oex rfl rfl<|oex rfl rfl<|WO.ops StepK.alloc ?_
 have c2:=Cl.new h5 ItV.z.cs none
 have gp:=(Grow.refl g15.wf).push (.cells ItV.z.cs (.tip [] 0 none))
 have z6:(h5.push (.cells ItV.z.cs (.tip [] 0 none))).size=h5.size+1:=rfl
 have hp1:p1<h5.size:=c1.lt g15.wf
 change WO C _ _ (h5.push (.cells ItV.z.cs (.tip [] 0 none))) _
 replace c1:=c1.grow gp
 have g6:=g15.trans gp
 have hs5:=g15.size
 generalize h5.push (.cells ItV.z.cs (.tip [] 0 none))=h6 at *
 generalize h5.size=p4 at *
 obtain ⟨h7,w7,r7,c7,z7⟩:=c2.sets g6.wf (i:=0) (us:=(parseS (lineF x)).1.cs) (by simp [ItV.cs]) (by simp [ItV.cs,V.one])
 have r7':Cl h7 p4 ((parseS (lineF x)).1.ck (.slice none 0 0)):=r7
 have g7:Grow h h7:=c7.newGrow g6 hw (by simp;omega)
 replace c1:=c1.chg c7 (by simp;omega)
 refine WO.op (StepK.store (v:=.agg (parseS (lineF x)).1.cs) rfl rfl rfl w7)<|omv rfl<|WO.nil<|WC.seqO<|omv rfl ?_
 by_cases he:(parseS (lineF x)).2≠0
 ·rw [printF_F (fun q=>he (by rw [q.1]))]
  exact obn rfl rfl (neT he)<|omv rfl<|WO.skip rfl rfl<|WO.skip rfl rfl<|WO.skip rfl rfl<|WO.skip rfl rfl<|opt rfl rfl<|WO.nil<|WC.cond rfl (fun hc=>WC.seqO<|omv rfl<|WO.nil<|WC.ret ⟨trivial,g7,rfl⟩) (fun hc=>by cases hc)
 have he':=Decidable.not_not.1 he
 refine obn rfl rfl (neF he')<|omv rfl<|WO.run rfl<|WO.ops (StepK.loadN rfl (c1.rds rfl))<|WO.run rfl<|WO.ops (StepK.loadN rfl (r7'.rds rfl))<|WO.run rfl ?_
 refine WO.call rfl rfl (hsame_ans S h7 g7.wf x (parseS (lineF x)).1 u (.slice none 0 0) k 0 hu rfl (by omega)) ?_
 rintro _ h8 ⟨rfl,g8⟩
 have g18:=g7.trans g8
 by_cases hq:x=(parseS (lineF x)).1∧k+0=0
 ·rw [sameG_T hq,printF_T ⟨by rw [←he'];exact Prod.ext hq.1.symm rfl,by have:=hq.2;omega⟩]
  exact WO.run rfl<|ont rfl<|opf rfl rfl<|WO.nil<|WC.cond rfl (fun hc=>by cases hc) (fun hc=>WC.skip<|WC.seqO<|omv rfl<|omv rfl<|WO.nil<|WC.ret ⟨trivial,g18,rfl⟩)
 ·rw [sameG_F hq,printF_F (fun q=>hq ⟨by rw [q.1],by have:=q.2;omega⟩)]
  exact WO.run rfl<|ont rfl<|opf rfl rfl<|WO.nil<|WC.cond rfl (fun hc=>WC.seqO<|omv rfl<|WO.nil<|WC.ret ⟨trivial,g18,rfl⟩) (fun hc=>by cases hc)
end
end Abs
end Go.Proofs.YthgcjbniipfnbaaGreatDoor
