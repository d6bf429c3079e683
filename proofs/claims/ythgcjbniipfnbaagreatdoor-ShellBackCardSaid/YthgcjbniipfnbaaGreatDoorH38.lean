/- Shell's reference: Print. Shell, plainly: what is parsed is no longer than its line. Shell: ShellPrints walked. Shell: ShellBack walked. -/
import Derived.Test.YthgcjbniipfnbaaGreatDoorH34
import Derived.Test.YthgcjbniipfnbaaGreatDoorH27
namespace Go.Proofs.YthgcjbniipfnbaaGreatDoor
namespace Abs
set_option linter.unusedVariables false
set_option linter.unusedSimpArgs false
open Go.RowKit
attribute [local irreducible] WO WC WD StepK Ans Does Runs DoesD
section
variable {C:Cfg} (S:StdL C)
include S
end
end Abs
end Go.Proofs.YthgcjbniipfnbaaGreatDoor
namespace Go.Proofs.YthgcjbniipfnbaaGreatDoor
namespace Abs
set_option linter.unusedVariables false
set_option linter.unusedSimpArgs false
theorem dig_lt:∀ (k n:Nat),(digF n).length≤k→n<10 ^ k:=by
 intro k
 induction k with
 | zero=>intro n h;have:=digF_ne n;cases hq:digF n with
  | nil=>exact absurd hq this
  | cons a r=>rw [hq] at h;simp at h
 | succ k ih =>
  intro n h
  by_cases h10:n<10
  ·have:10≤10 ^ (k+1):=by rw [Nat.pow_succ];have:=Nat.one_le_two_pow (n:=0);have:1≤10 ^ k:=Nat.one_le_pow _ _ (by decide);omega
   omega
  ·rw [digF_big h10] at h
   have:=ih (n / 10) (by simp at h;omega)
   rw [Nat.pow_succ];omega
theorem rnum_rng (w:List Nat):-9223372036854775808≤rnumG w∧(0≤rnumG w→rnumG w≤9223372036854775807):=by
 have hr:∀ h:0≤rnumG w,rnumG w≤9223372036854775807:=by
  intro h
  obtain ⟨m,e,hw,hl⟩:=(rnumG_iff w _).1 ⟨rfl,h⟩
  have:=dig_lt 9 m (by rw [←hw];exact hl)
  rw [e];omega
 refine ⟨?_,hr⟩
 by_cases h:0≤rnumG w
 ·omega
 ·unfold rnumG at h ⊢
  split
  ·rename_i hc
   rw [if_pos hc] at h
   split
   ·rename_i hd
    rw [if_pos hd] at h
    omega
   ·omega
  ·omega
theorem byt_rng {w:List Nat} {n:Nat} (hl:w.length≤n):Byt ((bytG w).getD [])∧((bytG w).getD []).length≤n:=by
 cases hq:bytG w with
 | none=>exact ⟨Byt.nil,by simp⟩
 | some t =>
  rcases bytG_some hq with ⟨_,rfl⟩ | ⟨_,_,h3,h4⟩
  ·exact ⟨Byt.nil,by simp⟩
  ·refine ⟨h3,?_⟩
   rw [←h4,hexF_len] at hl
   show t.length≤n
   omega
def WsOk (ws:List (List Nat)):Prop:=∀ w∈ws,Byt w∧w.length≤600
theorem WsOk.d {ws:List (List Nat)} (h:WsOk ws) (i:Nat):Byt (ws.getD i [])∧(ws.getD i []).length≤600:=by
 rw [List.getD_eq_getElem?_getD]
 cases hq:ws[i]? with
 | none=>exact ⟨Byt.nil,by simp⟩
 | some t=>exact h t (List.mem_of_getElem? hq)
theorem rop_okk {ws:List (List Nat)} (hw:WsOk ws) {o:OpV} (h:ropG ws=some o):OpOk o:=by
 have d1:=hw.d 1
 have d2:=hw.d 2
 have d3:=byt_rng (hw.d 3).2
 have r2:=rnum_rng (ws.getD 2 [])
 have r3:=rnum_rng (ws.getD 3 [])
 have z:(-9223372036854775808:Int)≤0∧(0:Int)≤9223372036854775807:=by decide
 unfold ropG at h
 simp only at h
 split at h
 ·cases h
 split at h
 ·cases h
 split at h
 ·obtain rfl:=Option.some.inj h
  exact ⟨d1.1,d2.1,Byt.nil,by simp at d1 d2 ⊢;omega,z,z⟩
 split at h
 ·split at h
  ·rename_i hc
   obtain rfl:=Option.some.inj h
   exact ⟨d1.1,Byt.nil,Byt.nil,by simp at d1 ⊢;omega,⟨r2.1,r2.2 hc.1⟩,⟨r3.1,r3.2 hc.2⟩⟩
  ·cases h
 split at h
 ·split at h
  ·rename_i hc
   obtain rfl:=Option.some.inj h
   exact ⟨d1.1,Byt.nil,d3.1,by have:=d3.2;have:=d1.2;show (ws.getD 1 []).length+0+((bytG (ws.getD 3 [])).getD []).length≤3000;omega,⟨r2.1,r2.2 hc.2⟩,z⟩
  ·cases h
 split at h
 ·split at h
  ·rename_i hc
   obtain rfl:=Option.some.inj h
   exact ⟨d1.1,Byt.nil,Byt.nil,by simp at d1 ⊢;omega,z,⟨r2.1,r2.2 hc⟩⟩
  ·cases h
 ·obtain rfl:=Option.some.inj h
  exact ⟨d1.1,Byt.nil,Byt.nil,by simp at d1 ⊢;omega,z,z⟩
theorem zr:(-9223372036854775808:Int)≤0∧(0:Int)≤9223372036854775807:=by decide
theorem z3k:0+0≤3000:=by decide
theorem opz_ok:OpOk OpV.z:=⟨Byt.nil,Byt.nil,Byt.nil,by decide,by decide,by decide⟩
theorem itz_ok (k:Int):ItOk { ItV.z with op:=k }:=⟨opz_ok,Byt.nil,Byt.nil,z3k,zr,zr,zr,zr⟩
theorem rnamed_okk {ws:List (List Nat)} (hw:WsOk ws) {x:ItV} (h:rnamedG ws=some x):ItOk x:=by
 have d1:=hw.d 1
 have dl:=hw.d (ws.length-1)
 have d3:=byt_rng (hw.d 3).2
 have r1:=rnum_rng (ws.getD 1 [])
 have r2:=rnum_rng (ws.getD 2 [])
 have z:(-9223372036854775808:Int)≤0∧(0:Int)≤9223372036854775807:=by decide
 unfold rnamedG at h
 simp only at h
 split at h
 ·split at h
  ·obtain rfl:=Option.some.inj h
   exact ⟨opz_ok,dl.1,Byt.nil,by have:=dl.2;show (ws.getD (ws.length-1) []).length+0≤3000;omega,z,z,z,z⟩
  ·cases h
 split at h
 ·split at h
  ·rename_i o ho
   split at h
   ·obtain rfl:=Option.some.inj h
    exact ⟨rop_okk (fun w q=>hw w (List.mem_of_mem_drop q)) ho,d1.1,Byt.nil,by have:=d1.2;show (ws.getD 1 []).length+0≤3000;omega,z,z,z,z⟩
   ·cases h
  ·cases h
 split at h
 ·split at h
  ·rename_i hc
   obtain rfl:=Option.some.inj h
   exact ⟨opz_ok,Byt.nil,Byt.nil,z3k,⟨r1.1,r1.2 hc.1⟩,⟨r2.1,r2.2 hc.2⟩,z,z⟩
  ·cases h
 split at h
 ·split at h
  ·rename_i hc
   obtain rfl:=Option.some.inj h
   exact ⟨opz_ok,Byt.nil,d3.1,by have:=d3.2;show 0+((bytG (ws.getD 3 [])).getD []).length≤3000;omega,z,z,⟨r1.1,r1.2 hc.2.1⟩,⟨r2.1,r2.2 hc.2.2⟩⟩
  ·cases h
 split at h
 ·split at h
  ·rename_i hc
   obtain rfl:=Option.some.inj h
   exact ⟨opz_ok,Byt.nil,Byt.nil,z3k,z,⟨r1.1,r1.2 hc⟩,z,z⟩
  ·cases h
 ·cases h
theorem parse_okk {s:List Nat} (hb:Byt s) (hl:s.length≤600):ItOk (parseS s).1:=by
 rw [parse_same,rparseG_eq]
 have hw:WsOk (wordsF s):=wordsF_ok hb hl
 generalize wordsF s=ws at *
 split
 ·exact itz_ok 0
 unfold rpG
 simp only
 split
 ·exact itz_ok _
 split
 ·rename_i o ho
  exact ⟨rop_okk hw ho,Byt.nil,Byt.nil,z3k,zr,zr,zr,zr⟩
 split
 ·rename_i x hx
  exact rnamed_okk hw hx
 ·exact itz_ok 0
end Abs
end Go.Proofs.YthgcjbniipfnbaaGreatDoor
namespace Go.Proofs.YthgcjbniipfnbaaGreatDoor
namespace Abs
set_option linter.unusedVariables false
set_option linter.unusedSimpArgs false
open Go.RowKit
attribute [local irreducible] WO WC WD StepK Ans Does Runs DoesD
structure ItIn (x:ItV):Prop where
 b:Byt x.name∧Byt x.data∧Byt x.o.path∧Byt x.o.to∧Byt x.o.data
 n1:-9223372036854775808≤x.now∧x.now≤9223372036854775807
 n2:-9223372036854775808≤x.n∧x.n≤9223372036854775807
 n3:-9223372036854775808≤x.dev∧x.dev≤9223372036854775807
 n4:-9223372036854775808≤x.at'∧x.at'≤9223372036854775807
 n5:-9223372036854775808≤x.o.off∧x.o.off≤9223372036854775807
 n6:-9223372036854775808≤x.o.len∧x.o.len≤9223372036854775807
theorem ItIn.ok {x:ItV} (i:ItIn x) (h:x.name.length+x.data.length+x.o.path.length+x.o.to.length+x.o.data.length≤600):ItOk x :=
 ⟨⟨i.b.2.2.1,i.b.2.2.2.1,i.b.2.2.2.2,by omega,i.n5,i.n6⟩,i.b.1,i.b.2.1,by omega,i.n1,i.n2,i.n3,i.n4⟩
structure AnIn (a:AnV):Prop where
 n0:-9223372036854775808≤a.code∧a.code≤9223372036854775807
 n1:-9223372036854775808≤a.n∧a.n≤9223372036854775807
 b1:Byt a.data
 b2:∀ w∈a.names,Byt w
end Abs
end Go.Proofs.YthgcjbniipfnbaaGreatDoor
namespace Go.Proofs.YthgcjbniipfnbaaGreatDoor
namespace Abs
set_option linter.unusedVariables false
set_option linter.unusedSimpArgs false
open Go.RowKit
attribute [local irreducible] WO WC WD StepK Ans Does Runs DoesD
theorem parse_err {s:List Nat} (h:(parseS s).2≠0):(parseS s).1=ItV.z:=by
 unfold parseS at h ⊢
 split
 ·rename_i hc;rw [if_pos hc] at h;exact absurd rfl h
 ·rfl
theorem shellBack_ans {C:Cfg} {P:Heap→Prop} (S:StdV C P) (h:Heap) (hw:Wf h) (hP:P h) (x:ItV) (u:V) (k:Nat) (hu:slLen u=some k) (hk:k≤9223372036854775807) (ii:ItIn x) (s:List Nat) (hb:Byt s)
  (hl:x.name.length≤1000000000000000000∧x.data.length≤1000000000000000000∧x.o.path.length≤1000000000000000000∧x.o.to.length≤1000000000000000000∧x.o.data.length≤1000000000000000000∧s.length≤1000000000000000000) :
  Ans C 5 [.agg (x.ck u),.str s] h fun v h'=>v=.bool true∧Grow h h':=by
 have hF:C.F 5=some a5:=S.f rfl
 unfold a5 at hF
 refine Ans.val (fun _ _=>S.s _ _ _ rfl) hF rfl rfl hw fun h2 g=>?_
 clear hF
 obtain ⟨l1,l2,l3,l4,l5,l6⟩:=hl
 have hs2:=g.size
 refine WC.seqO<|WO.ops (StepK.box rfl) ?_
 have c1:=Cl.new h2 (x.ck u) none
 have g4:=g.push (.cells (x.ck u) (.tip [] 0 none))
 have z4:(h2.push (.cells (x.ck u) (.tip [] 0 none))).size=h2.size+1:=rfl
 change WO C _ _ (h2.push (.cells (x.ck u) (.tip [] 0 none))) _
 generalize h2.push (.cells (x.ck u) (.tip [] 0 none))=h4 at *
 generalize h2.size=p1 at *
 have rI:∀ h',Grow h4 h'→h'.rds p1 0 14=some (x.ck u):=fun h' z=>(c1.grow z).rds rfl
 have R4:=Grow.refl g4.wf
 have live:∀ h',Grow h h'→Ans C 7 [] h' fun v h''=>v=.bool true∧h'=h'':=fun h' z=>Ans.sum (S.live h' (S.grow _ _ hP z)) ⟨rfl,rfl⟩
 refine omv rfl<|WO.nil<|WC.seq<|WC.seqO<|ofa rfl<|old rfl (c1.rd (i:=7) rfl)<|olt rfl<|ofa rfl<|old rfl (c1.rd (i:=12) rfl)<|olt rfl<|oad rfl rfl (by omega)<|ofa rfl<|ofa rfl<|old rfl (c1.rd (i:=2) rfl)<|olt rfl<|oad rfl rfl (by omega)<|ofa rfl<|ofa rfl<|old rfl (c1.rd (i:=3) rfl)<|olt rfl<|oad rfl rfl (by omega)<|ofa rfl<|ofa rfl<|old rfl (c1.rd (i:=6) rfl)<|olt rfl<|oad rfl rfl (by omega)<|omv rfl<|olt rfl<|oad rfl rfl (by omega) ?_
 by_cases hbig:600<x.name.length+x.data.length+x.o.path.length+x.o.to.length+x.o.data.length+s.length
 ·refine obn rfl rfl (gtT (by omega))<|WO.nil<|WC.cond rfl (fun hc=>WC.seqO ?_) (fun hc=>by cases hc)
  refine WO.call rfl rfl (live h4 g4) ?_
  rintro _ _ ⟨rfl,rfl⟩
  exact omv rfl<|WO.nil<|WC.ret ⟨trivial,g4,rfl⟩
 refine obn rfl rfl (gtF (by omega))<|WO.nil<|WC.cond rfl (fun hc=>by cases hc) (fun hc=>WC.skip ?_)
 have ok:ItOk x:=ii.ok (by omega)
 refine WC.seqO<|WO.ops (StepK.loadN rfl (rI _ R4)) ?_
 refine WO.call rfl rfl (l24own_ans S.toStdL h4 g4.wf x u k hu) ?_
 rintro _ h5 ⟨rfl,g5⟩
 refine WO.call rfl rfl (hPrint_ans S.toStdL h5 g5.wf x u k hu hk ok) ?_
 rintro _ h6 ⟨rfl,g6⟩
 have g46:=g5.trans g6
 refine omv rfl<|WO.nil ?_
 refine WC.seqV (M:=fun e' h'=>Cov [(1,.str s),(2,.ptr (some (p1,0)))] e'∧Grow h4 h') ?_ ?_
 ·refine WC.seqO<|omv rfl ?_
  by_cases hne:printF x k=[]
  ·rw [hne]
   exact obn rfl rfl (snF rfl)<|WO.nil<|WC.cond rfl (fun hc=>by cases hc) (fun hc=>WC.skip ⟨Cov.cons rfl (Cov.cons rfl (Cov.nil _)),g46⟩)
  have hpk:parseS (lineF x)=(x,0)∧k=0:=by
   by_cases q:parseS (lineF x)=(x,0)∧k=0
   ·exact q
   ·exact absurd (printF_F q) hne
  have hpl:=printF_T hpk
  have L:=line_ok ok
  refine obn rfl rfl (snT hne)<|WO.nil<|WC.cond rfl (fun hc=>WC.seqO<|omv rfl ?_) (fun hc=>by cases hc)
  rw [hpl]
  refine WO.call rfl rfl (parse_ans S.toStdL h6 g46.wf (lineF x) L.1 (by have:=L.2;omega)) ?_
  rw [hpk.1]
  rintro _ h7 ⟨rfl,g7⟩
  have g47:=g46.trans g7
  have g17:=g4.trans g47
  refine omv rfl<|oex rfl rfl<|oex rfl rfl<|WO.ops StepK.alloc ?_
  have c2:=Cl.new h7 ItV.z.cs none
  have gq:=(Grow.refl g47.wf).push (.cells ItV.z.cs (.tip [] 0 none))
  have z8:(h7.push (.cells ItV.z.cs (.tip [] 0 none))).size=h7.size+1:=rfl
  have hs7:=g47.size
  change WO C _ _ (h7.push (.cells ItV.z.cs (.tip [] 0 none))) _
  have g8:=g47.trans gq
  generalize h7.push (.cells ItV.z.cs (.tip [] 0 none))=h8 at *
  generalize h7.size=p6 at *
  obtain ⟨h9,w9,r9,c9,z9⟩:=c2.sets g8.wf (i:=0) (us:=x.cs) (by simp [ItV.cs]) (by simp [ItV.cs,V.one])
  have g9:Grow h4 h9:=c9.newGrow g8 g4.wf (by simp;omega)
  have r9':Cl h9 p6 x.cs:=r9
  have q6:=r9'.rds (k:=14) rfl
  refine WO.op (StepK.store (v:=.agg x.cs) rfl rfl rfl w9)<|omv rfl<|WO.nil ?_
  have qI:=rI _ g9
  refine WC.seqD<|WD.loadN rfl q6<|WD.loadN rfl qI ?_
  refine WD.call (by repeat (first | exact trivial | refine ⟨by with_reducible assumption,?_⟩)) rfl rfl (told_ans S.toStdL h9 g9.wf x) ?_
  rintro _ h10 ⟨rfl,g10⟩
  have q610:h10.rds p6 0 14=some x.cs:=(r9'.grow g10).rds rfl
  have qI10:=rI _ (g9.trans g10)
  refine WD.call (by repeat (first | exact trivial | refine ⟨by with_reducible assumption,?_⟩)) rfl rfl (rSame_ans S.toStdL h10 g10.wf x x (.slice none 0 0) u 0 k rfl hu) ?_
  rintro _ h11 ⟨rfl,g11⟩
  rw [sameG_T (show x=x∧0+k=0 from ⟨rfl,by have:=hpk.2;omega⟩)]
  have g411:=(g9.trans g10).trans g11
  exact dnt rfl<|dmv rfl<|WD.run rfl<|dmv rfl<|WD.run rfl<|dbn rfl rfl (neF rfl)<|dpf rfl rfl<|WD.nil (by repeat (first | exact trivial | refine ⟨by with_reducible assumption,?_⟩))<|WC.cond rfl (fun hc=>by cases hc) (fun hc=>WC.skip ⟨Cov.cons rfl (Cov.cons rfl (Cov.nil _)),g411⟩)
 rintro e7 h7 ⟨k7,g7⟩
 refine WC.cov k7 ?_
 have g17:=g4.trans g7
 refine WC.seqO<|omv rfl ?_
 refine WO.call rfl rfl (parse_ans S.toStdL h7 g7.wf s hb (by omega)) ?_
 rintro _ h8 ⟨rfl,g8⟩
 have g18:=g17.trans g8
 have hs8:=g18.size
 refine omv rfl<|oex rfl rfl<|oex rfl rfl<|WO.ops StepK.alloc ?_
 have c2:=Cl.new h8 ItV.z.cs none
 have gq:=(Grow.refl g18.wf).push (.cells ItV.z.cs (.tip [] 0 none))
 have z9:(h8.push (.cells ItV.z.cs (.tip [] 0 none))).size=h8.size+1:=rfl
 change WO C _ _ (h8.push (.cells ItV.z.cs (.tip [] 0 none))) _
 have g19:=g18.trans gq
 generalize h8.push (.cells ItV.z.cs (.tip [] 0 none))=h9 at *
 generalize h8.size=p8 at *
 obtain ⟨h10,w10,r10,c10,z10⟩:=c2.sets g19.wf (i:=0) (us:=(parseS s).1.cs) (by simp [ItV.cs]) (by simp [ItV.cs,V.one])
 have g10:Grow h h10:=c10.newGrow g19 hw (by simp;omega)
 have r10':Cl h10 p8 (parseS s).1.cs:=r10
 refine WO.op (StepK.store (v:=.agg (parseS s).1.cs) rfl rfl rfl w10)<|omv rfl<|WO.nil<|WC.seq<|WC.seqO<|omv rfl ?_
 by_cases he:(parseS s).2≠0
 ·refine obn rfl rfl (neT he)<|WO.nil<|WC.cond rfl (fun hc=>WC.seqO<|WO.ops (StepK.loadN rfl (r10'.rds rfl)) ?_) (fun hc=>by cases hc)
  rw [parse_err he]
  refine WO.call rfl rfl (told_ans S.toStdL h10 g10.wf ItV.z) ?_
  rintro _ h11 ⟨rfl,g11⟩
  have g111:=g10.trans g11
  refine obu rfl rfl ?_
  refine WO.call rfl rfl (rSame_ans S.toStdL h11 g111.wf ItV.z ItV.z (.slice none 0 0) (.slice none 0 0) 0 0 rfl rfl) ?_
  rintro _ h12 ⟨rfl,g12⟩
  have g112:=g111.trans g12
  rw [sameG_T (show ItV.z=ItV.z∧0+0=0 from ⟨rfl,rfl⟩)]
  refine omv rfl<|WO.run rfl ?_
  refine WO.call rfl rfl (live h12 g112) ?_
  rintro _ _ ⟨rfl,rfl⟩
  exact opt rfl rfl<|omv rfl<|WO.nil<|WC.ret ⟨trivial,g112,rfl⟩
 have he':=Decidable.not_not.1 he
 have hps:parseS s=((parseS s).1,0):=Prod.ext rfl he'
 have hli:lineF (parseS s).1=s:=(parse_inv hps).2.2.2
 have yok:=parse_okk hb (show s.length≤600 by omega)
 refine obn rfl rfl (neF he')<|WO.nil<|WC.cond rfl (fun hc=>by cases hc) (fun hc=>WC.skip<|WC.seqO<|WO.ops (StepK.loadN rfl (r10'.rds rfl)) ?_)
 refine WO.call rfl rfl (hPrint_ans S.toStdL h10 g10.wf (parseS s).1 (.slice none 0 0) 0 rfl (by decide) yok) ?_
 rintro _ h11 ⟨rfl,g11⟩
 have g111:=g10.trans g11
 have hpr:printF (parseS s).1 0=s:=by
  rw [printF_T ⟨by rw [hli];exact hps,rfl⟩,hli]
 rw [hpr]
 refine omv rfl<|obn rfl rfl (seT rfl)<|omv rfl<|WO.run rfl ?_
 refine WO.call rfl rfl (live h11 g111) ?_
 rintro _ _ ⟨rfl,rfl⟩
 exact opt rfl rfl<|omv rfl<|WO.nil<|WC.ret ⟨trivial,g111,rfl⟩
end Abs
end Go.Proofs.YthgcjbniipfnbaaGreatDoor
