/- Shell: items told and compared; the law ShellParses but for the plain part. Shell: ShellParses walked. Shell, plainly: a word's number, read in two ways. Shell, plainly: what is taken whole holds no empty word. Shell, plainly: lines without empty words. Shell, plainly: both readings of a line are one. Shell, plainly: what is parsed is printed as it was. -/
import Derived.Test.YthgcjbniipfnbaaGreatDoorH20
namespace Go.Proofs.YthgcjbniipfnbaaGreatDoor
namespace Abs
set_option linter.unusedVariables false
set_option linter.unusedSimpArgs false
open Go.RowKit
attribute [local irreducible] WO WC WD StepK Ans Does Runs DoesD
section
variable {C:Cfg} (S:StdL C)
include S
theorem told_ans (h:Heap) (hw:Wf h) (x:ItV):Ans C 11 [.agg x.cs] h fun v h'=>v=.agg x.cs∧Grow h h':=by
 have hF:C.F 11=some a11:=S.f rfl
 unfold a11 at hF
 refine Ans.val (fun _ _=>S.s _ _ _ rfl) hF rfl rfl hw fun h2 g=>?_
 clear hF
 have hs2:=g.size
 refine WC.seqO<|WO.ops (StepK.box rfl) ?_
 have c1:=Cl.new h2 x.cs none
 have g3:=g.push (.cells x.cs (.tip [] 0 none))
 have z3:(h2.push (.cells x.cs (.tip [] 0 none))).size=h2.size+1:=rfl
 change WO C _ _ (h2.push (.cells x.cs (.tip [] 0 none))) _
 generalize h2.push (.cells x.cs (.tip [] 0 none))=h3 at *
 refine WO.ops StepK.alloc ?_
 have c2:=Cl.new h3 ItV.z.cs none
 have gp:=(Grow.refl g3.wf).push (.cells ItV.z.cs (.tip [] 0 none))
 have g4:=g3.trans gp
 change WO C _ _ (h3.push (.cells ItV.z.cs (.tip [] 0 none))) _
 replace c1:=c1.grow gp
 generalize h3.push (.cells ItV.z.cs (.tip [] 0 none))=h4 at *
 obtain ⟨h5,w5,r5,c5,z5⟩:=c2.sets g4.wf (i:=0) (us:=x.cs) (by simp [ItV.cs]) (by simp [ItV.cs,V.one])
 have r5':Cl h5 h3.size x.cs:=r5
 have ro:h4.rds h2.size (0+1) 6=some x.o.cs:=by have:=c1.rdsAt (o:=1) (n:=6) (by simp [ItV.cs]);rw [this];rfl
 have rl:h4.rds h2.size (0+10) 2=some [jv x.dev,jv x.at']:=by have:=c1.rdsAt (o:=10) (n:=2) (by simp [ItV.cs]);rw [this];rfl
 refine WO.nil<|WC.seqO<|ofa rfl<|old rfl (c1.rd (i:=0) rfl)<|ofa rfl<|WO.ops (StepK.loadN rfl ro)<|ofa rfl<|old rfl (c1.rd (i:=7) rfl)<|ofa rfl<|old rfl (c1.rd (i:=8) rfl)<|ofa rfl<|old rfl (c1.rd (i:=9) rfl)<|ofa rfl<|WO.ops (StepK.loadN rfl rl)<|ofa rfl<|old rfl (c1.rd (i:=12) rfl)<|ofa rfl<|old rfl (c1.rd (i:=13) rfl)<|obu rfl rfl<|WO.op (StepK.store (v:=.agg x.cs) rfl rfl rfl w5)<|WO.nil<|WC.ret ⟨trivial,c5.newGrow g4 hw (by simp;omega),retE_cells rfl (r5'.rds rfl)⟩
end
end Abs
end Go.Proofs.YthgcjbniipfnbaaGreatDoor
namespace Go.Proofs.YthgcjbniipfnbaaGreatDoor
namespace Abs
set_option linter.unusedVariables false
set_option linter.unusedSimpArgs false
open Go.RowKit
attribute [local irreducible] WO WC WD StepK Ans Does Runs DoesD
structure StdV (C:Cfg) (P:Heap→Prop):Prop extends StdL C where
 live:∀ h,P h→C.S 7 [] h=some (some (.bool true,h))
 grow:∀ h h',P h→Grow h h'→P h'
end Abs
end Go.Proofs.YthgcjbniipfnbaaGreatDoor
namespace Go.Proofs.YthgcjbniipfnbaaGreatDoor
namespace Abs
set_option linter.unusedVariables false
set_option linter.unusedSimpArgs false
def valF (w:List Nat):Nat:=w.foldl (fun n c=>10*n+(c-48)) 0
theorem valF_snoc (w:List Nat) (c:Nat):valF (w++[c])=10*valF w+(c-48):=by unfold valF;rw [List.foldl_append];rfl
theorem digF_digits:∀ (n:Nat),∀ c∈digF n,48≤c∧c≤57:=by
 intro n
 induction n using Nat.strongRecOn with
 | _ n ih =>
  intro c hc
  by_cases h:n<10
  ·rw [digF_small h] at hc;simp at hc;omega
  ·rw [digF_big h] at hc
   rcases List.mem_append.1 hc with q | q
   ·exact ih (n / 10) (by omega) c q
   ·simp at q;omega
theorem valF_dig:∀ (n:Nat),valF (digF n)=n:=by
 intro n
 induction n using Nat.strongRecOn with
 | _ n ih =>
  by_cases h:n<10
  ·rw [digF_small h];simp [valF]
  ·rw [digF_big h,valF_snoc,ih (n / 10) (by omega)];omega
theorem digF_ne (n:Nat):digF n≠[]:=by
 by_cases h:n<10
 ·rw [digF_small h];simp
 ·rw [digF_big h];simp
theorem rnumG_iff (w:List Nat) (n:Int):(rnumG w=n∧0≤n)↔∃ m:Nat,n=m∧w=digF m∧w.length≤9:=by
 constructor
 ·rintro ⟨h1,h2⟩
  unfold rnumG at h1
  split at h1
  ·rename_i hc
   split at h1
   ·rename_i hd
    refine ⟨valF w,h1.symm,hd.symm,?_⟩
    rcases of_decide_eq_true (Bool.and_eq_true_iff.1 hc).2 with q | q
    ·exact q
    ·rw [q];simp
   ·omega
  ·omega
 ·rintro ⟨m,rfl,rfl,hl⟩
  refine ⟨?_,by omega⟩
  unfold rnumG
  have hv:(digF m).foldl (fun n c=>10*n+(c-48)) 0=m:=valF_dig m
  rw [if_pos,hv,if_pos rfl]
  rw [Bool.and_eq_true]
  refine ⟨List.all_eq_true.2 fun c hc=>?_,decide_eq_true (.inl hl)⟩
  have:=digF_digits m c hc
  rw [Bool.and_eq_true];exact ⟨decide_eq_true this.1,decide_eq_true this.2⟩
theorem fold_ge:∀ (w:List Nat) (a:Nat),a≤w.foldl (fun n c=>10*n+(c-48)) a
 | [],a=>Nat.le_refl a
 | c::r,a=>by
  have:=fold_ge r (10*a+(c-48))
  rw [List.foldl_cons];omega
theorem parse_fold:∀ (w:List Nat) (a:Nat),(∀ c∈w,48≤c∧c≤57)→w.foldl (fun n c=>10*n+(c-48)) a<1844674407370955162→Lib.parseUint10 a (u8 w)=.ok (w.foldl (fun n c=>10*n+(c-48)) a)
 | [],a,_,_=>rfl
 | c::r,a,hd,hb=>by
  have h1:=hd c (by simp)
  rw [List.foldl_cons] at hb ⊢
  have h2:=fold_ge r (10*a+(c-48))
  have ht:(UInt8.ofNat c).toNat=c:=by simp;omega
  show Lib.parseUint10 a (UInt8.ofNat c::u8 r)=_
  unfold Lib.parseUint10
  rw [ht,if_pos h1,if_neg (by omega),if_neg (by omega)]
  have e:a*10+(c-48)=10*a+(c-48):=by omega
  rw [e]
  exact parse_fold r _ (fun c hc=>hd c (List.mem_cons_of_mem _ hc)) hb
theorem itoaF_nat (m:Nat):itoaF (m:Int)=digF m:=by
 unfold itoaF digF Lib.itoa
 rw [if_neg (by omega)];simp
theorem fold_lt:∀ (w:List Nat),(∀ c∈w,48≤c∧c≤57)→∀ a,w.foldl (fun n c=>10*n+(c-48)) a<(a+1)*10 ^ w.length
 | [],_,a=>by simp
 | c::r,hd,a=>by
  have h1:=hd c (by simp)
  have:=fold_lt r (fun c hc=>hd c (List.mem_cons_of_mem _ hc)) (10*a+(c-48))
  rw [List.foldl_cons,List.length_cons,Nat.pow_succ]
  have h2:(10*a+(c-48)+1)*10 ^ r.length≤(10*(a+1))*10 ^ r.length:=Nat.mul_le_mul_right _ (by omega)
  have h3:(a+1)*(10 ^ r.length*10)=(10*(a+1))*10 ^ r.length:=by rw [Nat.mul_comm (10 ^ r.length) 10,←Nat.mul_assoc,Nat.mul_comm (a+1) 10]
  omega
theorem numG_iff (w:List Nat) (n:Int):numG w=some n↔∃ m:Nat,n=m∧w=digF m∧w.length≤9:=by
 constructor
 ·intro h
  unfold numG at h
  split at h
  ·split at h
   ·rename_i v hv hc
    have e:=Option.some.inj h
    subst e
    refine ⟨v.toNat,by omega,?_,hc.2.2⟩
    rw [←hc.2.1]
    obtain ⟨k,hk⟩:∃ k:Nat,v=(k:Int):=⟨v.toNat,by omega⟩
    rw [hk,itoaF_nat];simp
   ·cases h
  ·cases h
 ·rintro ⟨m,rfl,rfl,hl⟩
  have hd:=digF_digits m
  have hv:(digF m).foldl (fun n c=>10*n+(c-48)) 0=m:=valF_dig m
  have hlt:=fold_lt (digF m) hd 0
  rw [hv] at hlt
  have h9:(0+1)*10 ^ (digF m).length≤10 ^ 9:=by rw [Nat.zero_add,Nat.one_mul];exact Nat.pow_le_pow_right (by decide) hl
  have hp:=parse_fold (digF m) 0 hd (by rw [hv];omega)
  rw [hv] at hp
  have hat:Lib.atoiAll (u8 (digF m))=.ok (m:Int):=by
   cases hq:digF m with
   | nil=>exact absurd hq (digF_ne m)
   | cons c r =>
    rw [hq] at hp hd
    have h1:=hd c (by simp)
    have ht:(UInt8.ofNat c).toNat=c:=by simp;omega
    show Lib.atoiAll (UInt8.ofNat c::u8 r)=_
    unfold Lib.atoiAll
    simp only [ht]
    rw [if_neg (by omega)]
    unfold Lib.parseMag
    rw [if_neg (by simp)]
    have hp':Lib.parseUint10 0 (UInt8.ofNat c::u8 r)=.ok m:=hp
    rw [hp']
    simp only
    rw [if_neg (by omega),if_neg (by omega),if_neg (by omega)]
  unfold numG
  rw [hat]
  simp only
  rw [if_pos ⟨by omega,itoaF_nat m,hl⟩]
end Abs
end Go.Proofs.YthgcjbniipfnbaaGreatDoor
namespace Go.Proofs.YthgcjbniipfnbaaGreatDoor
namespace Abs
set_option linter.unusedVariables false
set_option linter.unusedSimpArgs false
def Good (all:List (List Nat)) (t:Nat × Bool):Prop:=t.2=false→t.1≤all.length∧∀ j,j<t.1→all.getD j []≠[]
theorem good_w (all:List (List Nat)) (t:Nat × Bool) (g:Good all t) (b:Bool):Good all (wdI all t.1,(t.2 || !wdOk all t.1) || b):=by
 intro h
 simp only [Bool.or_eq_false_iff,Bool.not_eq_false'] at h
 obtain ⟨⟨h1,h2⟩,h3⟩:=h
 obtain ⟨g1,g2⟩:=g h1
 have e:wdI all t.1=t.1+1:=by unfold wdI;rw [h2];rfl
 have hk:=h2
 unfold wdOk at hk
 rw [Bool.and_eq_true] at hk
 have k1:=of_decide_eq_true hk.1
 have k2:=of_decide_eq_true hk.2
 simp only [e]
 refine ⟨k1,fun j hj=>?_⟩
 by_cases hjt:j=t.1
 ·rw [hjt];exact k2
 ·exact g2 j (by omega)
theorem good_wS (all:List (List Nat)) (t:Nat × Bool) (g:Good all t):Good all (wS all t):=by
 have:=good_w all t g false
 rwa [Bool.or_false] at this
theorem good_nS (all:List (List Nat)) (t:Nat × Bool) (g:Good all t):Good all (nS all t):=good_w all t g _
theorem good_bS (all:List (List Nat)) (t:Nat × Bool) (g:Good all t):Good all (bS all t):=good_w all t g _
theorem good_opS (all:List (List Nat)) (d:Int) (t:Nat × Bool) (g:Good all t):Good all (opS all d t):=by
 have g1:=good_wS all t g
 unfold opS
 simp only
 split
 ·exact good_wS _ _ g1
 ·split
  ·exact good_nS _ _ (good_nS _ _ g1)
  ·split
   ·exact good_bS _ _ (good_nS _ _ g1)
   ·split
    ·exact good_nS _ _ g1
    ·exact g1
theorem good_step (all:List (List Nat)) (k:Int) (t:Nat × Bool) (x:ItV) (g:Good all t):Good all (stepOf all k t x).1:=by
 unfold stepOf
 split
 ·exact good_wS _ _ g
 ·split
  ·simp only [seeS]
   split
   ·exact good_opS _ _ _ (good_wS _ _ (good_wS _ _ g))
   ·intro h;cases h
  ·split
   ·exact good_nS _ _ (good_nS _ _ g)
   ·split
    ·exact good_bS _ _ (good_nS _ _ (good_nS _ _ g))
    ·split
     ·exact good_nS _ _ g
     ·exact g
theorem good_item (all:List (List Nat)) (t:Nat × Bool) (g:Good all t):Good all (itemS all t).1:=by
 unfold itemS
 simp only
 split
 ·exact good_opS _ _ _ (good_wS _ _ g)
 ·intro h
  simp only [Bool.or_eq_false_iff] at h
  exact good_step _ _ _ _ (good_wS _ _ g) h.1
theorem parse_empty {s:List Nat} (h:[]∈splitF s):parseOk s=false:=by
 cases hq:parseOk s with
 | false=>rfl
 | true =>
  unfold parseOk at hq
  simp only [Bool.and_eq_true,Bool.not_eq_true'] at hq
  have g0:Good (splitF s) (0,false):=fun _=>⟨Nat.zero_le _,fun j hj=>by simp at hj⟩
  obtain ⟨_,g2⟩:=good_item _ _ g0 hq.1
  have he:=of_decide_eq_true hq.2.1
  obtain ⟨j,hj,e⟩:=List.getElem_of_mem h
  have:=g2 j (by omega)
  rw [List.getD_eq_getElem?_getD,List.getElem?_eq_getElem hj] at this
  exact absurd e this
end Abs
end Go.Proofs.YthgcjbniipfnbaaGreatDoor
namespace Go.Proofs.YthgcjbniipfnbaaGreatDoor
namespace Abs
set_option linter.unusedVariables false
set_option linter.unusedSimpArgs false
theorem idxF_get:∀ (l:List (List Nat)) (k:Nat) (w:List Nat),0≤idxF w l k→k≤idxF w l k∧l[(idxF w l k).toNat-k]? = some w
 | [],k,w,h=>by simp [idxF] at h
 | t::r,k,w,h=>by
  rw [idxF_cons] at h ⊢
  by_cases he:w=t
  ·rw [if_pos he];simp [he]
  ·rw [if_neg he] at h ⊢
   have:=idxF_get r (k+1) w h
   refine ⟨by omega,?_⟩
   have e:(idxF w r (k+1)).toNat-k=((idxF w r (k+1)).toNat-(k+1))+1:=by omega
   rw [e,List.getElem?_cons_succ];exact this.2
theorem parse_nl {s:List Nat} (h:10∈s):parseS s=rparseG s:=by
 have h1:parseOk s=false:=by unfold parseOk;rw [decide_eq_true h];simp
 have h2:wordsF s=[]:=by unfold wordsF;rw [if_pos (.inl h)]
 unfold parseS rparseG
 rw [h1,h2];simp
theorem parse_em {s:List Nat} (h:[]∈splitF s):parseS s=rparseG s:=by
 have h1:=parse_empty h
 have h2:wordsF s=[]:=by unfold wordsF;rw [if_pos (.inr h)]
 unfold parseS rparseG
 rw [h1,h2];simp
theorem wdOk_ne {all:List (List Nat)} (hn:[]∉all) (i:Nat):wdOk all i=decide (i<all.length):=by
 unfold wdOk
 by_cases hi:i<all.length
 ·rw [decide_eq_true hi,Bool.true_and]
  refine decide_eq_true fun e=>hn ?_
  rw [List.getD_eq_getElem?_getD,List.getElem?_eq_getElem hi] at e
  have e2:all[i]=[]:=e
  rw [←e2];exact List.getElem_mem hi
 ·rw [decide_eq_false hi];rfl
theorem wdI_in {all:List (List Nat)} (hn:[]∉all) {i:Nat} (hi:i<all.length):wdI all i=i+1∧wdOk all i=true∧wdT all i=all.getD i []:=by
 have h:=wdOk_ne hn i
 rw [decide_eq_true hi] at h
 exact ⟨by unfold wdI;rw [h];rfl,h,by unfold wdT wdV;rw [h];rfl⟩
theorem wdI_out {all:List (List Nat)} (hn:[]∉all) {i:Nat} (hi:¬ i<all.length):wdI all i=i∧wdOk all i=false∧wdT all i=[]:=by
 have h:=wdOk_ne hn i
 rw [decide_eq_false hi] at h
 exact ⟨by unfold wdI;rw [h];rfl,h,by unfold wdT;rw [h];rfl⟩
theorem wS_in {all:List (List Nat)} (hn:[]∉all) {i:Nat} (hi:i<all.length) (b:Bool):wS all (i,b)=(i+1,b):=by
 obtain ⟨h1,h2,_⟩:=wdI_in hn hi
 unfold wS;simp [h1,h2]
theorem nS_in {all:List (List Nat)} (hn:[]∉all) {i:Nat} (hi:i<all.length) (b:Bool):nS all (i,b)=(i+1,b || (numG (all.getD i [])).isNone):=by
 obtain ⟨h1,h2,h3⟩:=wdI_in hn hi
 unfold nS;simp [h1,h2,h3]
theorem bS_in {all:List (List Nat)} (hn:[]∉all) {i:Nat} (hi:i<all.length) (b:Bool):bS all (i,b)=(i+1,b || (bytG (all.getD i [])).isNone):=by
 obtain ⟨h1,h2,h3⟩:=wdI_in hn hi
 unfold bS;simp [h1,h2,h3]
theorem S_out {all:List (List Nat)} (hn:[]∉all) {i:Nat} (hi:¬ i<all.length) (b:Bool):(wS all (i,b)).2=true∧(nS all (i,b)).2=true∧(bS all (i,b)).2=true:=by
 obtain ⟨h1,h2,h3⟩:=wdI_out hn hi
 refine ⟨?_,?_,?_⟩
 ·unfold wS;simp [h2]
 ·unfold nS;simp [h2]
 ·unfold bS;simp [h2]
theorem S_bad (all:List (List Nat)) (t:Nat × Bool) (h:t.2=true):(wS all t).2=true∧(nS all t).2=true∧(bS all t).2=true:=by
 refine ⟨?_,?_,?_⟩
 ·unfold wS;simp [h]
 ·unfold nS;simp [h]
 ·unfold bS;simp [h]
theorem num_same (w:List Nat):(numG w).isNone=decide (¬ 0≤rnumG w)∧(0≤rnumG w→(numG w).getD 0=rnumG w):=by
 by_cases h:0≤rnumG w
 ·have h2:=(numG_iff w (rnumG w)).2 ((rnumG_iff w (rnumG w)).1 ⟨rfl,h⟩)
  rw [h2];simp [h]
 ·cases hq:numG w with
  | none=>simp [h]
  | some n =>
   have h3:=(rnumG_iff w n).2 ((numG_iff w n).1 hq)
   rw [h3.1] at h;exact absurd h3.2 h
theorem getD_drop (all:List (List Nat)) (o i:Nat):(all.drop o).getD i []=all.getD (o+i) []:=by
 rw [List.getD_eq_getElem?_getD,List.getElem?_drop,List.getD_eq_getElem?_getD]
theorem nS_r {all:List (List Nat)} (hn:[]∉all) {i:Nat} (hi:i<all.length) (b:Bool):nS all (i,b)=(i+1,b || decide (¬ 0≤rnumG (all.getD i []))):=by
 rw [nS_in hn hi,(num_same _).1]
theorem nV_r {all:List (List Nat)} (hn:[]∉all) {i:Nat} (hi:i<all.length) (h:0≤rnumG (all.getD i [])):nV all i=rnumG (all.getD i []):=by
 unfold nV;rw [(wdI_in hn hi).2.2];exact (num_same _).2 h
theorem bV_r {all:List (List Nat)} (hn:[]∉all) {i:Nat} (hi:i<all.length):bV all i=(bytG (all.getD i [])).getD []:=by
 unfold bV;rw [(wdI_in hn hi).2.2]
theorem isNone_some {α:Type} (o:Option α):o.isNone=!o.isSome:=by cases o <;> rfl
theorem op_plain {all:List (List Nat)} (hn:[]∉all) (o:Nat) (ho:o<all.length) (d:Int) (hd:idxF (all.getD o []) nmL 0=d) (h0:0≤d) :
  ropG (all.drop o)=if (opS all d (o+1,false)).2=false∧(opS all d (o+1,false)).1=all.length then some (opG all d (o+1,false)) else none:=by
 have hdl:=idxF_lt (all.getD o []) nmL 0
 rw [hd] at hdl
 have hd11:d<11:=by have:=hdl.2;simp [nmL] at this;omega
 have hlen:(all.drop o).length=all.length-o:=by simp
 unfold ropG
 simp only [getD_drop,Nat.add_zero,hd,hlen,if_neg (show ¬ d<0 by omega)]
 have hdc:d=0∨d=1∨d=2∨d=3∨d=4∨d=5∨d=6∨d=7∨d=8∨d=9∨d=10:=by omega
 -- one word behind: the path alone
 have one:(d=0∨d=1∨d=3∨d=4∨d=9∨d=10)→opS all d (o+1,false)=wS all (o+1,false)∧opG all d (o+1,false)=⟨d,wdT all (o+1),[],0,0,[]⟩:=by
  intro q
  rcases q with q | q | q | q | q | q <;> subst q <;> exact ⟨rfl,rfl⟩
 have hsub:((all.length-o:Nat):Int)=(all.length:Int)-o:=by omega
 by_cases h1:o+1<all.length
 ·have w1:=wS_in hn h1 false
  have t1:=(wdI_in hn h1).2.2
  rcases hdc with q | q | q | q | q | q | q | q | q | q | q <;> subst q
  case inr.inr.inl =>
   have eS:opS all 2 (o+1,false)=wS all (wS all (o+1,false)):=rfl
   have eG:opG all 2 (o+1,false)=⟨2,wdT all (o+1),wdT all (wS all (o+1,false)).1,0,0,[]⟩:=rfl
   rw [eS,eG,w1,t1]
   by_cases h2:o+2<all.length
   ·rw [wS_in hn h2 false,(wdI_in hn h2).2.2]
    by_cases h3:o+3=all.length
    ·simp [manyL,h3];omega
    ·simp [manyL,h3];omega
   ·rw [(S_out hn h2 false).1];simp [manyL];omega
  case inr.inr.inr.inr.inr.inl =>
   have eS:opS all 5 (o+1,false)=wS all (wS all (o+1,false)):=rfl
   have eG:opG all 5 (o+1,false)=⟨5,wdT all (o+1),wdT all (wS all (o+1,false)).1,0,0,[]⟩:=rfl
   rw [eS,eG,w1,t1]
   by_cases h2:o+2<all.length
   ·rw [wS_in hn h2 false,(wdI_in hn h2).2.2]
    by_cases h3:o+3=all.length
    ·simp [manyL,h3];omega
    ·simp [manyL,h3];omega
   ·rw [(S_out hn h2 false).1];simp [manyL];omega
  case inr.inr.inr.inr.inr.inr.inl =>
   have eS:opS all 6 (o+1,false)=nS all (nS all (wS all (o+1,false))):=rfl
   have eG:opG all 6 (o+1,false)=⟨6,wdT all (o+1),[],nV all (wS all (o+1,false)).1,nV all (nS all (wS all (o+1,false))).1,[]⟩:=rfl
   rw [eS,eG,w1,t1]
   by_cases h2:o+2<all.length
   ·rw [nS_r hn h2 false]
    by_cases h3:o+3<all.length
    ·rw [nS_r hn h3]
     by_cases h4:o+4=all.length
     ·have em:((all.length-o:Nat):Int)=4:=by omega
      rw [em]
      by_cases ha:0≤rnumG (all.getD (o+2) [])
      ·by_cases hb:0≤rnumG (all.getD (o+3) [])
       ·have v2:nV all (o+1+1)=rnumG (all.getD (o+2) []):=nV_r hn h2 ha
        have v3:nV all (o+2+1)=rnumG (all.getD (o+3) []):=nV_r hn h3 hb
        have h5:o+3+1=all.length:=h4
        rw [if_neg (by decide),if_neg (by decide),if_pos rfl,if_pos ⟨ha,hb⟩,if_pos ⟨by simpa using ⟨ha,hb⟩,h5⟩,v2,v3]
       ·rw [if_neg (by decide),if_neg (by decide),if_pos rfl,if_neg (fun q=>hb q.2),if_neg (fun q=>by have q1:=q.1;simp at q1 hb;omega)]
      ·rw [if_neg (by decide),if_neg (by decide),if_pos rfl,if_neg (fun q=>ha q.1),if_neg (fun q=>by have q1:=q.1;simp at q1 ha;omega)]
     ·have em:((all.length-o:Nat):Int)≠4:=by omega
      rw [if_pos (by simpa [manyL] using em),if_neg (fun q=>h4 q.2)]
    ·rw [if_pos (by simp [manyL];omega),if_neg (fun q=>?_)]
     have:=(S_out hn h3 (false || decide (¬ 0≤rnumG (all.getD (o+2) [])))).2.1
     rw [this] at q;cases q.1
   ·rw [if_pos (by simp [manyL];omega),if_neg (fun q=>?_)]
    have:=(S_bad all _ (S_out hn h2 false).2.1).2.1
    rw [this] at q;cases q.1
  case inr.inr.inr.inr.inr.inr.inr.inl =>
   have eS:opS all 7 (o+1,false)=bS all (nS all (wS all (o+1,false))):=rfl
   have eG:opG all 7 (o+1,false)=⟨7,wdT all (o+1),[],nV all (wS all (o+1,false)).1,0,bV all (nS all (wS all (o+1,false))).1⟩:=rfl
   rw [eS,eG,w1,t1]
   by_cases h2:o+2<all.length
   ·rw [nS_r hn h2 false]
    by_cases h3:o+3<all.length
    ·rw [bS_in hn h3,isNone_some]
     by_cases h4:o+4=all.length
     ·have em:((all.length-o:Nat):Int)=4:=by omega
      rw [em]
      by_cases ha:0≤rnumG (all.getD (o+2) [])
      ·by_cases hb:(bytG (all.getD (o+3) [])).isSome=true
       ·have v2:nV all (o+1+1)=rnumG (all.getD (o+2) []):=nV_r hn h2 ha
        have v3:bV all (o+2+1)=(bytG (all.getD (o+3) [])).getD []:=bV_r hn h3
        have h5:o+3+1=all.length:=h4
        rw [if_neg (by decide),if_neg (by decide),if_neg (by decide),if_pos rfl,if_pos ⟨hb,ha⟩,if_pos ⟨by simpa using ⟨ha,hb⟩,h5⟩,v2,v3]
       ·rw [if_neg (by decide),if_neg (by decide),if_neg (by decide),if_pos rfl,if_neg (fun q=>hb q.1),if_neg (fun q=>by have q1:=q.1;simp at q1 hb;rw [hb] at q1;simp at q1)]
      ·rw [if_neg (by decide),if_neg (by decide),if_neg (by decide),if_pos rfl,if_neg (fun q=>ha q.2),if_neg (fun q=>by have q1:=q.1;simp at q1 ha;omega)]
     ·have em:((all.length-o:Nat):Int)≠4:=by omega
      rw [if_pos (by simpa [manyL] using em),if_neg (fun q=>h4 q.2)]
    ·rw [if_pos (by simp [manyL];omega),if_neg (fun q=>?_)]
     have:=(S_out hn h3 (false || decide (¬ 0≤rnumG (all.getD (o+2) [])))).2.2
     rw [this] at q;cases q.1
   ·rw [if_pos (by simp [manyL];omega),if_neg (fun q=>?_)]
    have:=(S_bad all _ (S_out hn h2 false).2.1).2.2
    rw [this] at q;cases q.1
  case inr.inr.inr.inr.inr.inr.inr.inr.inl =>
   have eS:opS all 8 (o+1,false)=nS all (wS all (o+1,false)):=rfl
   have eG:opG all 8 (o+1,false)=⟨8,wdT all (o+1),[],0,nV all (wS all (o+1,false)).1,[]⟩:=rfl
   rw [eS,eG,w1,t1]
   by_cases h2:o+2<all.length
   ·rw [nS_r hn h2 false]
    by_cases h3:o+3=all.length
    ·have em:((all.length-o:Nat):Int)=3:=by omega
     rw [em]
     by_cases ha:0≤rnumG (all.getD (o+2) [])
     ·have v2:nV all (o+1+1)=rnumG (all.getD (o+2) []):=nV_r hn h2 ha
      have h5:o+2+1=all.length:=h3
      rw [if_neg (by decide),if_neg (by decide),if_neg (by decide),if_neg (by decide),if_pos rfl,if_pos ha,if_pos ⟨by simpa using ha,h5⟩,v2]
     ·rw [if_neg (by decide),if_neg (by decide),if_neg (by decide),if_neg (by decide),if_pos rfl,if_neg ha,if_neg (fun q=>by have q1:=q.1;simp at q1 ha;omega)]
    ·have em:((all.length-o:Nat):Int)≠3:=by omega
     rw [if_pos (by simpa [manyL] using em),if_neg (fun q=>h3 q.2)]
   ·rw [if_pos (by simp [manyL];omega),if_neg (fun q=>?_)]
    rw [(S_out hn h2 false).2.1] at q;cases q.1
  all_goals
   obtain ⟨e1,e2⟩:=one (by simp)
   rw [e1,e2,w1,t1]
   by_cases h2:o+2=all.length
   ·simp [manyL,h2];omega
   ·simp [manyL,h2];omega
 ·have hb:=(S_out hn h1 false).1
  have hbad:(opS all d (o+1,false)).2=true:=by
   obtain ⟨b1,b2,b3⟩:=S_bad all _ hb
   unfold opS
   simp only
   split
   ·exact b1
   ·split
    ·exact (S_bad all _ b2).2.1
    ·split
     ·exact (S_bad all _ b2).2.2
     ·split
      ·exact b2
      ·exact hb
  have em:((all.length-o:Nat):Int)=1:=by omega
  rw [em,hbad,if_pos,if_neg (by simp)]
  rcases hdc with q | q | q | q | q | q | q | q | q | q | q <;> subst q <;> decide
end Abs
end Go.Proofs.YthgcjbniipfnbaaGreatDoor
namespace Go.Proofs.YthgcjbniipfnbaaGreatDoor
namespace Abs
set_option linter.unusedVariables false
set_option linter.unusedSimpArgs false
theorem idxF_not:∀ (l:List (List Nat)) (k:Nat) (w:List Nat),idxF w l k<0↔w∉l
 | [],k,w=>by simp [idxF]
 | t::r,k,w=>by
  rw [idxF_cons]
  by_cases he:w=t
  ·rw [if_pos he];simp [he]
  ·rw [if_neg he,idxF_not r (k+1) w];simp [he]
theorem nm_at (w:List Nat) (d:Int) (h:idxF w nmL 0=d) (h0:0≤d):d<11∧w=nmL.getD d.toNat []:=by
 have h1:=idxF_lt w nmL 0
 have h2:=idxF_get nmL 0 w (by omega)
 rw [h] at h1 h2
 refine ⟨by have:=h1.2;simp [nmL] at this;omega,?_⟩
 rw [List.getD_eq_getElem?_getD]
 have:=h2.2
 simp at this
 rw [this];rfl
theorem th_at (w:List Nat) (d:Int) (h:idxF w thL 0=d) (h0:0≤d):d<14∧w=thL.getD d.toNat []:=by
 have h1:=idxF_lt w thL 0
 have h2:=idxF_get thL 0 w (by omega)
 rw [h] at h1 h2
 refine ⟨by have:=h1.2;simp [thL] at this;omega,?_⟩
 rw [List.getD_eq_getElem?_getD]
 have:=h2.2
 simp at this
 rw [this];rfl
theorem nm_apart (w:List Nat) (h:0≤idxF w nmL 0):idxF w plL 0<0∧idxF w snL 0<0∧w≠[115,101,101]∧w≠[115,116,101,112]∧w≠[115,112,111,105,108]∧w≠[108,111,115,101]:=by
 obtain ⟨h1,h2⟩:=nm_at w _ rfl h
 generalize idxF w nmL 0=d at *
 have hdc:d=0∨d=1∨d=2∨d=3∨d=4∨d=5∨d=6∨d=7∨d=8∨d=9∨d=10:=by omega
 rw [h2]
 rcases hdc with q | q | q | q | q | q | q | q | q | q | q <;> subst q <;> decide
theorem th_facts (k:Int) (h1:1≤k) (h2:k<14):idxF (thL.getD k.toNat []) plL 0=(if k=1∨k=6∨k=8∨k=11∨k=12∨k=13 then k else -1)∧idxF (thL.getD k.toNat []) snL 0=(if k=2∨k=3∨k=4 then k else -1) ∧
  (thL.getD k.toNat []=[115,101,101]↔k=5)∧(thL.getD k.toNat []=[115,116,101,112]↔k=7)∧(thL.getD k.toNat []=[115,112,111,105,108]↔k=9)∧(thL.getD k.toNat []=[108,111,115,101]↔k=10):=by
 have hdc:k=1∨k=2∨k=3∨k=4∨k=5∨k=6∨k=7∨k=8∨k=9∨k=10∨k=11∨k=12∨k=13:=by omega
 rcases hdc with q | q | q | q | q | q | q | q | q | q | q | q | q <;> subst q <;> decide
theorem opG_op (all:List (List Nat)) (d:Int) (s:Nat × Bool):(opG all d s).op=d:=by
 unfold opG
 simp only
 repeat' split
 all_goals rfl
theorem get_ne {all:List (List Nat)} (hn:[]∉all) {i:Nat} (hi:i<all.length):all.getD i []≠[]:=fun e=>hn (by
 rw [List.getD_eq_getElem?_getD,List.getElem?_eq_getElem hi] at e
 have e2:all[i]=[]:=e
 rw [←e2];exact List.getElem_mem hi)
noncomputable def rpG (ws:List (List Nat)):ItV × Int :=
 let k:=idxF (ws.getD 0 []) plL 0
 if 0≤k∧ws.length=1 then ({ ItV.z with op:=k },0) else
 match ropG ws with
 | some o=>({ ItV.z with o:=o },0)
 | none=>match rnamedG ws with
  | some x=>(x,0)
  | none=>(ItV.z,15)
theorem rparseG_eq (s:List Nat):rparseG s=if wordsF s=[] then (ItV.z,15) else rpG (wordsF s):=rfl
noncomputable def ipG (all:List (List Nat)):ItV × Int:=if (itemS all (0,false)).1.2=false∧(itemS all (0,false)).1.1=all.length then ((itemS all (0,false)).2,0) else (ItV.z,15)
theorem item_plain {all:List (List Nat)} (hn:[]∉all) (hl:0<all.length):rpG all=ipG all:=by
 obtain ⟨a1,a2,a3⟩:=wdI_in hn hl
 have w1:=wS_in hn hl false
 have hw0:all.getD 0 []≠[]:=get_ne hn hl
 have f1:fndF nmL (all.getD 0 [])=idxF (all.getD 0 []) nmL 0:=by unfold fndF;rw [if_neg hw0]
 have f2:fndF thL (all.getD 0 [])=idxF (all.getD 0 []) thL 0:=by unfold fndF;rw [if_neg hw0]
 unfold rpG ipG itemS
 simp only [a3,w1,f1,f2]
 by_cases hd:0≤idxF (all.getD 0 []) nmL 0
 ·have ho:=op_plain hn 0 hl _ rfl hd
  obtain ⟨p1,p2,p3,p4,p5,p6⟩:=nm_apart _ hd
  rw [List.drop_zero,Nat.zero_add] at ho
  have hna:rnamedG all=none:=by
   unfold rnamedG
   simp only
   rw [if_neg (by omega),if_neg (fun q=>p3 q.1),if_neg (fun q=>p4 q.1),if_neg (fun q=>p5 q.1),if_neg (fun q=>p6 q.1)]
  rw [if_neg (by omega),ho,hna,if_pos hd]
  by_cases hc:(opS all (idxF (all.getD 0 []) nmL 0) (0+1,false)).2=false∧(opS all (idxF (all.getD 0 []) nmL 0) (0+1,false)).1=all.length
  ·rw [if_pos hc]
   simp only
   rw [if_pos hc]
  ·rw [if_neg hc]
   simp only
   rw [if_neg hc]
 ·have ho : ropG all=none:=by
   unfold ropG
   simp only
   rw [if_pos (by omega)]
  rw [ho,if_neg hd]
  simp only
  obtain ⟨k,hk⟩:∃ k,idxF (all.getD 0 []) thL 0=k:=⟨_,rfl⟩
  rw [hk]
  by_cases h0:0≤k
  ·obtain ⟨hk1,hk2⟩:=th_at _ k hk h0
   have hk3:k≠0:=by rintro rfl;exact hw0 hk2
   obtain ⟨t1,t2,t3,t4,t5,t6⟩:=th_facts k (by omega) hk1
   rw [←hk2] at t1 t2 t3 t4 t5 t6
   have nb:decide (k<0)=false:=decide_eq_false (by omega)
   simp only [nb,Bool.or_false]
   have L2:∀ i,i<all.length→¬ i+1<all.length→all.length=i+1:=fun i q1 q2=>by omega
   have hdc:(k=1∨k=6∨k=8∨k=11∨k=12∨k=13)∨(k=2∨k=3∨k=4)∨k=5∨k=7∨k=9∨k=10:=by omega
   rcases hdc with q | q | q | q | q | q
   ·-- a word alone
    have e1:stepOf all k (0+1,false) { ItV.z with op:=k }=((0+1,false),{ ItV.z with op:=k }):=by
     unfold stepOf
     rw [if_neg (by omega),if_neg (by omega),if_neg (by omega),if_neg (by omega),if_neg (by omega)]
    have u1:idxF (all.getD 0 []) plL 0=k:=by rw [t1,if_pos q]
    have u2:idxF (all.getD 0 []) snL 0=-1:=by rw [t2,if_neg (by omega)]
    have RN:rnamedG all=none:=by
     unfold rnamedG
     simp only [u2,t3,t4,t5,t6]
     rw [if_neg (by omega),if_neg (by omega),if_neg (by omega),if_neg (by omega),if_neg (by omega)]
    rw [RN,u1,e1]
    by_cases hL:all.length=1
    ·rw [if_pos (show 0≤k∧all.length=1 from ⟨h0,hL⟩),if_pos ⟨rfl,hL.symm⟩]
    ·rw [if_neg (show ¬ (0≤k∧all.length=1) from fun q=>hL q.2),if_neg (fun q=>hL q.2.symm)]
   ·-- a name
    have e1:stepOf all k (0+1,false) { ItV.z with op:=k }=nameS all (0+1,false) { ItV.z with op:=k }:=by
     unfold stepOf
     rw [if_pos q]
    have u1:idxF (all.getD 0 []) plL 0=-1:=by rw [t1,if_neg (by omega)]
    have u2:idxF (all.getD 0 []) snL 0=k:=by rw [t2,if_pos q]
    have RN:rnamedG all=if all.length=2 then some { ItV.z with op:=k,name:=all.getD (all.length-1) [] } else none:=by
     unfold rnamedG
     simp only [u2]
     rw [if_pos (by omega)]
    rw [RN,u1,if_neg (show ¬ ((0:Int)≤-1∧all.length=1) from fun q=>absurd q.1 (by decide)),e1]
    unfold nameS
    simp only
    by_cases h1:0+1<all.length
    ·rw [wS_in hn h1,(wdI_in hn h1).2.2]
     by_cases hL:all.length=2
     ·rw [if_pos hL,if_pos ⟨rfl,hL.symm⟩,hL]
     ·rw [if_neg hL,if_neg (fun q=>hL q.2.symm)]
    ·rw [if_neg (by omega),if_neg (fun q=>by rw [(S_out hn h1 false).1] at q;cases q.1)]
   ·-- see
    subst q
    have e1:stepOf all 5 (0+1,false) { ItV.z with op:=5 }=seeS all (0+1,false) { ItV.z with op:=5 }:=by
     unfold stepOf
     rw [if_neg (by decide),if_pos rfl]
    have u1:idxF (all.getD 0 []) plL 0=-1:=by rw [t1,if_neg (by decide)]
    have u2:idxF (all.getD 0 []) snL 0=-1:=by rw [t2,if_neg (by decide)]
    have RN:rnamedG all=if 2<all.length then (match ropG (all.drop 2) with
      | some o=>if o.op=6∨o.op=9∨o.op=10 then some { ItV.z with op:=5,name:=all.getD 1 [],o:=o } else none
      | none=>none) else none:=by
     unfold rnamedG
     simp only [u2,t3,t4,t5,t6]
     simp
     rfl
    rw [RN,u1,if_neg (show ¬ ((0:Int)≤-1∧all.length=1) from fun q=>absurd q.1 (by decide)),e1]
    unfold seeS
    simp only
    by_cases h2:2<all.length
    ·have h1:0+1<all.length:=by omega
     have hw2:=get_ne hn h2
     have f3:fndF nmL (all.getD 2 [])=idxF (all.getD 2 []) nmL 0:=by unfold fndF;rw [if_neg hw2]
     rw [if_pos h2,wS_in hn h1,(wdI_in hn h1).2.2]
     have t2:wdT all (0+1+1)=all.getD 2 []:=(wdI_in hn h2).2.2
     have s2:wS all (0+1+1,false)=(2+1,false):=wS_in hn h2 false
     rw [t2,s2,f3]
     by_cases hd2:0≤idxF (all.getD 2 []) nmL 0
     ·rw [op_plain hn 2 h2 _ rfl hd2]
      by_cases hc:(opS all (idxF (all.getD 2 []) nmL 0) (2+1,false)).2=false∧(opS all (idxF (all.getD 2 []) nmL 0) (2+1,false)).1=all.length
      ·rw [if_pos hc]
       simp only [opG_op]
       by_cases h6:idxF (all.getD 2 []) nmL 0=6∨idxF (all.getD 2 []) nmL 0=9∨idxF (all.getD 2 []) nmL 0=10
       ·rw [if_pos h6,if_pos h6];simp only;rw [if_pos hc]
       ·rw [if_neg h6,if_neg h6];simp
      ·rw [if_neg hc]
       simp only
       by_cases h6:idxF (all.getD 2 []) nmL 0=6∨idxF (all.getD 2 []) nmL 0=9∨idxF (all.getD 2 []) nmL 0=10
       ·rw [if_pos h6];simp only;rw [if_neg hc]
       ·rw [if_neg h6];simp
     ·have ho2:ropG (all.drop 2)=none:=by
       unfold ropG
       simp only [getD_drop,Nat.add_zero]
       rw [if_pos (by omega)]
      rw [ho2,if_neg (show ¬ (idxF (all.getD 2 []) nmL 0=6∨idxF (all.getD 2 []) nmL 0=9∨idxF (all.getD 2 []) nmL 0=10) by omega)]
      simp
    ·have hz:wdT all (wS all (0+1,false)).1=[]:=by
      by_cases h1:0+1<all.length
      ·rw [wS_in hn h1];exact (wdI_out hn (by omega)).2.2
      ·have:(wS all (0+1,false)).1=0+1:=by unfold wS;exact (wdI_out hn h1).1
       rw [this];exact (wdI_out hn h1).2.2
     have f3:fndF nmL []=-1:=rfl
     rw [if_neg h2,hz,f3,if_neg (show ¬ ((-1:Int)=6∨(-1:Int)=9∨(-1:Int)=10) by decide)]
     simp
   ·-- step
    subst q
    have e1:stepOf all 7 (0+1,false) { ItV.z with op:=7 }=stepS all (0+1,false) { ItV.z with op:=7 }:=by
     unfold stepOf
     rw [if_neg (by decide),if_neg (by decide),if_pos rfl]
    have u1:idxF (all.getD 0 []) plL 0=-1:=by rw [t1,if_neg (by decide)]
    have u2:idxF (all.getD 0 []) snL 0=-1:=by rw [t2,if_neg (by decide)]
    have RN:rnamedG all=if all.length=3 then (if 0≤rnumG (all.getD 1 [])∧0≤rnumG (all.getD 2 []) then some { ItV.z with op:=7,now:=rnumG (all.getD 1 []),n:=rnumG (all.getD 2 []) } else none) else none:=by
     unfold rnamedG
     simp only [u2,t3,t4,t5,t6]
     simp
    rw [RN,u1,if_neg (show ¬ ((0:Int)≤-1∧all.length=1) from fun q=>absurd q.1 (by decide)),e1]
    unfold stepS
    simp only
    by_cases h1:0+1<all.length
    ·rw [nS_r hn h1]
     by_cases h2:0+1+1<all.length
     ·rw [nS_r hn h2]
      by_cases hL:all.length=3
      ·rw [if_pos hL]
       by_cases ha:0≤rnumG (all.getD 1 [])
       ·by_cases hb:0≤rnumG (all.getD 2 [])
        ·have v1:nV all (0+1)=rnumG (all.getD 1 []):=nV_r hn h1 ha
         have v2:nV all (0+1+1)=rnumG (all.getD 2 []):=nV_r hn h2 hb
         rw [if_pos ⟨ha,hb⟩,if_pos ⟨by simpa using ⟨ha,hb⟩,hL.symm⟩,v1,v2]
        ·rw [if_neg (fun q=>hb q.2),if_neg (fun q=>by have q1:=q.1;simp at q1 hb;omega)]
       ·rw [if_neg (fun q=>ha q.1),if_neg (fun q=>by have q1:=q.1;simp at q1 ha;omega)]
      ·rw [if_neg hL,if_neg (fun q=>hL q.2.symm)]
     ·rw [if_neg (show ¬ all.length=3 by omega),if_neg (fun q=>?_)]
      rw [(S_out hn h2 _).2.1] at q;cases q.1
    ·rw [if_neg (show ¬ all.length=3 by omega),if_neg (fun q=>?_)]
     rw [(S_bad all _ (S_out hn h1 false).2.1).2.1] at q;cases q.1
   ·-- spoil
    subst q
    have e1:stepOf all 9 (0+1,false) { ItV.z with op:=9 }=spoilS all (0+1,false) { ItV.z with op:=9 }:=by
     unfold stepOf
     rw [if_neg (by decide),if_neg (by decide),if_neg (by decide),if_pos rfl]
    have u1:idxF (all.getD 0 []) plL 0=-1:=by rw [t1,if_neg (by decide)]
    have u2:idxF (all.getD 0 []) snL 0=-1:=by rw [t2,if_neg (by decide)]
    have RN:rnamedG all=if all.length=4 then (if (bytG (all.getD 3 [])).isSome=true∧0≤rnumG (all.getD 1 [])∧0≤rnumG (all.getD 2 []) then some { ItV.z with op:=9,dev:=rnumG (all.getD 1 []),at':=rnumG (all.getD 2 []),data:=(bytG (all.getD 3 [])).getD [] } else none) else none:=by
     unfold rnamedG
     simp only [u2,t3,t4,t5,t6]
     simp
    rw [RN,u1,if_neg (show ¬ ((0:Int)≤-1∧all.length=1) from fun q=>absurd q.1 (by decide)),e1]
    unfold spoilS
    simp only
    by_cases h1:0+1<all.length
    ·rw [nS_r hn h1]
     by_cases h2:0+1+1<all.length
     ·rw [nS_r hn h2]
      by_cases h3:0+1+1+1<all.length
      ·rw [bS_in hn h3,isNone_some]
       by_cases hL:all.length=4
       ·rw [if_pos hL]
        by_cases ha:0≤rnumG (all.getD 1 [])
        ·by_cases hb:0≤rnumG (all.getD 2 [])
         ·by_cases hy:(bytG (all.getD 3 [])).isSome=true
          ·have v1:nV all (0+1)=rnumG (all.getD 1 []):=nV_r hn h1 ha
           have v2:nV all (0+1+1)=rnumG (all.getD 2 []):=nV_r hn h2 hb
           have v3:bV all (0+1+1+1)=(bytG (all.getD 3 [])).getD []:=bV_r hn h3
           rw [if_pos ⟨hy,ha,hb⟩,if_pos ⟨by simpa using ⟨⟨ha,hb⟩,hy⟩,hL.symm⟩,v1,v2,v3]
          ·rw [if_neg (fun q=>hy q.1),if_neg (fun q=>by have q1:=q.1;simp at q1 hy;rw [hy] at q1;simp at q1)]
         ·rw [if_neg (fun q=>hb q.2.2),if_neg (fun q=>by have q1:=q.1;simp at q1 hb;omega)]
        ·rw [if_neg (fun q=>ha q.2.1),if_neg (fun q=>by have q1:=q.1;simp at q1 ha;omega)]
       ·rw [if_neg hL,if_neg (fun q=>hL q.2.symm)]
      ·rw [if_neg (show ¬ all.length=4 by omega),if_neg (fun q=>?_)]
       rw [(S_out hn h3 _).2.2] at q;cases q.1
     ·rw [if_neg (show ¬ all.length=4 by omega),if_neg (fun q=>?_)]
      rw [(S_bad all _ (S_out hn h2 _).2.1).2.2] at q;cases q.1
    ·rw [if_neg (show ¬ all.length=4 by omega),if_neg (fun q=>?_)]
     rw [(S_bad all _ (S_bad all _ (S_out hn h1 false).2.1).2.1).2.2] at q;cases q.1
   ·-- lose
    subst q
    have e1:stepOf all 10 (0+1,false) { ItV.z with op:=10 }=loseS all (0+1,false) { ItV.z with op:=10 }:=by
     unfold stepOf
     rw [if_neg (by decide),if_neg (by decide),if_neg (by decide),if_neg (by decide),if_pos rfl]
    have u1:idxF (all.getD 0 []) plL 0=-1:=by rw [t1,if_neg (by decide)]
    have u2:idxF (all.getD 0 []) snL 0=-1:=by rw [t2,if_neg (by decide)]
    have RN:rnamedG all=if all.length=2 then (if 0≤rnumG (all.getD 1 []) then some { ItV.z with op:=10,n:=rnumG (all.getD 1 []) } else none) else none:=by
     unfold rnamedG
     simp only [u2,t3,t4,t5,t6]
     simp
    rw [RN,u1,if_neg (show ¬ ((0:Int)≤-1∧all.length=1) from fun q=>absurd q.1 (by decide)),e1]
    unfold loseS
    simp only
    by_cases h1:0+1<all.length
    ·rw [nS_r hn h1]
     by_cases hL:all.length=2
     ·rw [if_pos hL]
      by_cases ha:0≤rnumG (all.getD 1 [])
      ·have v1:nV all (0+1)=rnumG (all.getD 1 []):=nV_r hn h1 ha
       rw [if_pos ha,if_pos ⟨by simpa using ha,hL.symm⟩,v1]
      ·rw [if_neg ha,if_neg (fun q=>by have q1:=q.1;simp at q1 ha;omega)]
     ·rw [if_neg hL,if_neg (fun q=>hL q.2.symm)]
    ·rw [if_neg (show ¬ all.length=2 by omega),if_neg (fun q=>?_)]
     rw [(S_out hn h1 false).2.1] at q;cases q.1
  ·have hni:all.getD 0 []∉thL:=(idxF_not thL 0 _).1 (by omega)
   have p1:idxF (all.getD 0 []) plL 0<0:=(idxF_not plL 0 _).2 fun q=>hni (by
    have:∀ w∈plL,w∈thL:=by decide
    exact this _ q)
   have p2:idxF (all.getD 0 []) snL 0<0:=(idxF_not snL 0 _).2 fun q=>hni (by
    have:∀ w∈snL,w∈thL:=by decide
    exact this _ q)
   have p:∀ w∈thL,all.getD 0 []≠w:=fun w q e=>hni (e ▸ q)
   have hna:rnamedG all=none:=by
    unfold rnamedG
    simp only
    rw [if_neg (by omega),if_neg (fun q=>p _ (by decide) q.1),if_neg (fun q=>p _ (by decide) q.1),if_neg (fun q=>p _ (by decide) q.1),if_neg (fun q=>p _ (by decide) q.1)]
   have nb:decide (k<0)=true:=decide_eq_true (by omega)
   rw [hna,if_neg (by omega),nb,if_neg (by simp)]
theorem parse_same (s:List Nat):parseS s=rparseG s:=by
 by_cases h10:10∈s
 ·exact parse_nl h10
 by_cases he:[]∈splitF s
 ·exact parse_em he
 have hw:wordsF s=splitF s:=by unfold wordsF;rw [if_neg (fun q=>q.elim h10 he)]
 have hl:0<(splitF s).length:=List.length_pos_iff.2 (splitF_ne s)
 rw [rparseG_eq,hw,if_neg (splitF_ne s),item_plain he hl]
 unfold parseS ipG parseOk
 rw [decide_eq_false h10]
 have hc:(!(itemS (splitF s) (0,false)).1.2 && (decide ((itemS (splitF s) (0,false)).1.1=(splitF s).length) && !false))=true↔((itemS (splitF s) (0,false)).1.2=false∧(itemS (splitF s) (0,false)).1.1=(splitF s).length):=by simp
 by_cases h1:(itemS (splitF s) (0,false)).1.2=false∧(itemS (splitF s) (0,false)).1.1=(splitF s).length
 ·rw [if_pos h1,if_pos (hc.2 h1)]
 ·rw [if_neg h1,if_neg (fun q=>h1 (hc.1 q))]
end Abs
end Go.Proofs.YthgcjbniipfnbaaGreatDoor
namespace Go.Proofs.YthgcjbniipfnbaaGreatDoor
namespace Abs
set_option linter.unusedVariables false
set_option linter.unusedSimpArgs false
noncomputable def bytF (t:List Nat):List Nat:=if t=[] then [45] else hexF t
noncomputable def opWF (o:OpV):List (List Nat) :=
 if o.op<0∨11≤o.op then [] else nmL.getD o.op.toNat []::o.path ::
  (if o.op=2∨o.op=5 then [o.to] else if o.op=6 then [itoaF o.off,itoaF o.len] else if o.op=7 then [itoaF o.off,bytF o.data] else if o.op=8 then [itoaF o.len] else [])
noncomputable def itemWF (x:ItV):List (List Nat) :=
 if x.op<0∨14≤x.op then [] else if x.op=0 then opWF x.o else thL.getD x.op.toNat [] ::
  (if x.op=2∨x.op=3∨x.op=4 then [x.name] else if x.op=5 then x.name::opWF x.o else if x.op=7 then [itoaF x.now,itoaF x.n] else if x.op=9 then [itoaF x.dev,itoaF x.at',bytF x.data] else if x.op=10 then [itoaF x.n] else [])
theorem itoa_num {w:List Nat} (h:0≤rnumG w):itoaF (rnumG w)=w:=by
 obtain ⟨m,e,hw,_⟩:=(rnumG_iff w _).1 ⟨rfl,h⟩
 rw [e,itoaF_nat,←hw]
theorem bytF_of {w t:List Nat} (h:bytG w=some t):bytF t=w:=by
 unfold bytF
 rcases bytG_some h with ⟨rfl,rfl⟩ | ⟨h1,h2,h3,h4⟩
 ·rfl
 ·rw [if_neg]
  ·exact h4
  ·rintro rfl
   rw [←h4] at h2
   exact h2 rfl
theorem bytF_is {w:List Nat} (h:(bytG w).isSome=true):bytF ((bytG w).getD [])=w:=by
 cases hq:bytG w with
 | none=>rw [hq] at h;cases h
 | some t=>exact bytF_of hq
theorem join_split:∀ s:List Nat,joinF (splitF s)=s
 | []=>rfl
 | c::r=>by
  have ih:=join_split r
  unfold splitF
  split
  ·rename_i hc
   cases hq:splitF r with
   | nil=>exact absurd hq (splitF_ne r)
   | cons w ws =>
    rw [hq] at ih
    show []++32::joinF (w::ws)=_
    rw [ih,hc];rfl
  ·split
   ·rename_i q;exact absurd q (splitF_ne r)
   ·rename_i w ws q
    rw [q] at ih
    cases ws with
    | nil=>show c::w=_;rw [show w=r from ih]
    | cons w2 ws2=>show (c::w)++32::joinF (w2::ws2)=_;rw [←ih];rfl
theorem len1 {α:Type} {l:List α} (h:l.length=1):∃ a,l=[a]:=by
 match l,h with
 | [a],_=>exact ⟨a,rfl⟩
theorem len2 {α:Type} {l:List α} (h:l.length=2):∃ a b,l=[a,b]:=by
 match l,h with
 | [a,b],_=>exact ⟨a,b,rfl⟩
theorem len3 {α:Type} {l:List α} (h:l.length=3):∃ a b c,l=[a,b,c]:=by
 match l,h with
 | [a,b,c],_=>exact ⟨a,b,c,rfl⟩
theorem len4 {α:Type} {l:List α} (h:l.length=4):∃ a b c d,l=[a,b,c,d]:=by
 match l,h with
 | [a,b,c,d],_=>exact ⟨a,b,c,d,rfl⟩
theorem rop_inv {ws:List (List Nat)} {o:OpV} (h:ropG ws=some o):0≤o.op∧o.op<11∧opWF o=ws:=by
 unfold ropG at h
 simp only at h
 by_cases hd:idxF (ws.getD 0 []) nmL 0<0
 ·rw [if_pos hd] at h;cases h
 rw [if_neg hd] at h
 obtain ⟨q1,q2⟩:=nm_at (ws.getD 0 []) _ rfl (by omega)
 generalize hdd:idxF (ws.getD 0 []) nmL 0=d at *
 by_cases hl:(ws.length:Int)≠manyL.getD d.toNat 0
 ·rw [if_pos hl] at h;cases h
 rw [if_neg hl] at h
 have hl:(ws.length:Int)=manyL.getD d.toNat 0:=Decidable.not_not.1 hl
 have hdc:d=0∨d=1∨d=2∨d=3∨d=4∨d=5∨d=6∨d=7∨d=8∨d=9∨d=10:=by omega
 have two:ws.length=2→o=⟨d,ws.getD 1 [],[],0,0,[]⟩→(d=0∨d=1∨d=3∨d=4∨d=9∨d=10)→0≤o.op∧o.op<11∧opWF o=ws:=by
  intro e1 e2 e3
  obtain ⟨a,b,rfl⟩:=len2 e1
  subst e2
  refine ⟨by show (0:Int)≤d;omega,by show d<11;omega,?_⟩
  unfold opWF
  simp only
  rw [if_neg (by omega),if_neg (by omega),if_neg (by omega),if_neg (by omega),if_neg (by omega),←q2];rfl
 have three:ws.length=3→(d=2∨d=5)→o=⟨d,ws.getD 1 [],ws.getD 2 [],0,0,[]⟩→0≤o.op∧o.op<11∧opWF o=ws:=by
  intro e1 e3 e2
  obtain ⟨a,b,c,rfl⟩:=len3 e1
  subst e2
  refine ⟨by show (0:Int)≤d;omega,by show d<11;omega,?_⟩
  unfold opWF
  simp only
  rw [if_neg (by omega),if_pos e3,←q2];rfl
 rcases hdc with q | q | q | q | q | q | q | q | q | q | q <;> subst q
 case inr.inr.inl=>exact three (by have:manyL.getD (Int.toNat 2) 0=3:=rfl;omega) (by decide) (by rw [if_pos (by decide)] at h;exact (Option.some.inj h).symm)
 case inr.inr.inr.inr.inr.inl=>exact three (by have:manyL.getD (Int.toNat 5) 0=3:=rfl;omega) (by decide) (by rw [if_pos (by decide)] at h;exact (Option.some.inj h).symm)
 case inr.inr.inr.inr.inr.inr.inl =>
  obtain ⟨a,b,c,e,rfl⟩:=len4 (l:=ws) (by have:manyL.getD (Int.toNat 6) 0=4:=rfl;omega)
  rw [if_neg (by decide),if_pos rfl] at h
  by_cases hc:0≤rnumG ([a,b,c,e].getD 2 [])∧0≤rnumG ([a,b,c,e].getD 3 [])
  ·rw [if_pos hc] at h
   have e2:=(Option.some.inj h).symm
   subst e2
   refine ⟨(by decide:(0:Int)≤6),(by decide:(6:Int)<11),?_⟩
   unfold opWF
   simp only
   rw [if_neg (by decide),if_neg (by decide),if_pos trivial,itoa_num hc.1,itoa_num hc.2,←q2];rfl
  ·rw [if_neg hc] at h;cases h
 case inr.inr.inr.inr.inr.inr.inr.inl =>
  obtain ⟨a,b,c,e,rfl⟩:=len4 (l:=ws) (by have:manyL.getD (Int.toNat 7) 0=4:=rfl;omega)
  rw [if_neg (by decide),if_neg (by decide),if_pos rfl] at h
  by_cases hc:(bytG ([a,b,c,e].getD 3 [])).isSome=true∧0≤rnumG ([a,b,c,e].getD 2 [])
  ·rw [if_pos hc] at h
   have e2:=(Option.some.inj h).symm
   subst e2
   refine ⟨(by decide:(0:Int)≤7),(by decide:(7:Int)<11),?_⟩
   unfold opWF
   simp only
   rw [if_neg (by decide),if_neg (by decide),if_neg (by decide),if_pos trivial,itoa_num hc.2,bytF_is hc.1,←q2];rfl
  ·rw [if_neg hc] at h;cases h
 case inr.inr.inr.inr.inr.inr.inr.inr.inl =>
  obtain ⟨a,b,c,rfl⟩:=len3 (l:=ws) (by have:manyL.getD (Int.toNat 8) 0=3:=rfl;omega)
  rw [if_neg (by decide),if_neg (by decide),if_neg (by decide),if_pos rfl] at h
  by_cases hc:0≤rnumG ([a,b,c].getD 2 [])
  ·rw [if_pos hc] at h
   have e2:=(Option.some.inj h).symm
   subst e2
   refine ⟨(by decide:(0:Int)≤8),(by decide:(8:Int)<11),?_⟩
   unfold opWF
   simp only
   rw [if_neg (by decide),if_neg (by decide),if_neg (by decide),if_neg (by decide),if_pos trivial,itoa_num hc,←q2];rfl
  ·rw [if_neg hc] at h;cases h
 case inl=>exact two (by have:manyL.getD (Int.toNat 0) 0=2:=rfl;omega) (by rw [if_neg (by decide),if_neg (by decide),if_neg (by decide),if_neg (by decide)] at h;exact (Option.some.inj h).symm) (by decide)
 case inr.inl=>exact two (by have:manyL.getD (Int.toNat 1) 0=2:=rfl;omega) (by rw [if_neg (by decide),if_neg (by decide),if_neg (by decide),if_neg (by decide)] at h;exact (Option.some.inj h).symm) (by decide)
 case inr.inr.inr.inl=>exact two (by have:manyL.getD (Int.toNat 3) 0=2:=rfl;omega) (by rw [if_neg (by decide),if_neg (by decide),if_neg (by decide),if_neg (by decide)] at h;exact (Option.some.inj h).symm) (by decide)
 case inr.inr.inr.inr.inl=>exact two (by have:manyL.getD (Int.toNat 4) 0=2:=rfl;omega) (by rw [if_neg (by decide),if_neg (by decide),if_neg (by decide),if_neg (by decide)] at h;exact (Option.some.inj h).symm) (by decide)
 case inr.inr.inr.inr.inr.inr.inr.inr.inr.inl=>exact two (by have:manyL.getD (Int.toNat 9) 0=2:=rfl;omega) (by rw [if_neg (by decide),if_neg (by decide),if_neg (by decide),if_neg (by decide)] at h;exact (Option.some.inj h).symm) (by decide)
 case inr.inr.inr.inr.inr.inr.inr.inr.inr.inr=>exact two (by have:manyL.getD (Int.toNat 10) 0=2:=rfl;omega) (by rw [if_neg (by decide),if_neg (by decide),if_neg (by decide),if_neg (by decide)] at h;exact (Option.some.inj h).symm) (by decide)
def OwnI (x:ItV) (ws:List (List Nat)):Prop:=0≤x.op∧x.op<14∧(x.op=5→0≤x.o.op∧x.o.op<11)∧itemWF x=ws
theorem rnamed_inv {ws:List (List Nat)} {x:ItV} (h:rnamedG ws=some x):OwnI x ws:=by
 unfold rnamedG at h
 simp only at h
 by_cases hk:2≤idxF (ws.getD 0 []) snL 0
 ·rw [if_pos hk] at h
  by_cases hl:ws.length=2
  ·rw [if_pos hl] at h
   obtain ⟨a,b,rfl⟩:=len2 hl
   have e2:=(Option.some.inj h).symm
   subst e2
   have h1:=idxF_lt a snL 0
   have h2:=idxF_get snL 0 a (by change 2≤idxF a snL 0 at hk;omega)
   change 2≤idxF a snL 0 at hk
   have e0:idxF ([a,b].getD 0 []) snL 0=idxF a snL 0:=rfl
   rw [e0]
   generalize idxF a snL 0=k at *
   have h3:k<5:=by have:=h1.2;simp [snL] at this;omega
   have hkc:k=2∨k=3∨k=4:=by omega
   refine ⟨by show (0:Int)≤k;omega,by show k<14;omega,fun q=>by change k=5 at q;omega,?_⟩
   unfold itemWF
   simp only
   rw [if_neg (by omega),if_neg (by omega),if_pos hkc]
   have h4:=h2.2
   rcases hkc with q | q | q <;> subst q <;> exact congrArg (fun w=>[w,b]) (Option.some.inj h4)
  ·rw [if_neg hl] at h;cases h
 rw [if_neg hk] at h
 by_cases h5:ws.getD 0 []=[115,101,101]∧2<ws.length
 ·rw [if_pos h5] at h
  split at h
  ·rename_i o ho
   split at h
   ·obtain ⟨r1,r2,r3⟩:=rop_inv ho
    have e2:=(Option.some.inj h).symm
    subst e2
    refine ⟨(by decide:(0:Int)≤5),(by decide:(5:Int)<14),fun _=>⟨r1,r2⟩,?_⟩
    unfold itemWF
    simp only
    rw [if_neg (by decide),if_neg (by decide),if_neg (by decide),if_pos (by decide),r3]
    match ws,h5 with
    | [],h5=>exact absurd h5.2 (by simp)
    | [_],h5=>exact absurd h5.2 (by simp)
    | a::b::r,h5=>exact congrArg (fun w=>w::b::r) h5.1.symm
   ·cases h
  ·cases h
 rw [if_neg h5] at h
 by_cases h7:ws.getD 0 []=[115,116,101,112]∧ws.length=3
 ·rw [if_pos h7] at h
  obtain ⟨a,b,c,rfl⟩:=len3 h7.2
  by_cases hc:0≤rnumG ([a,b,c].getD 1 [])∧0≤rnumG ([a,b,c].getD 2 [])
  ·rw [if_pos hc] at h
   have e2:=(Option.some.inj h).symm
   subst e2
   refine ⟨(by decide:(0:Int)≤7),(by decide:(7:Int)<14),fun q=>absurd (show (7:Int)=5 from q) (by decide),?_⟩
   unfold itemWF
   simp only
   rw [if_neg (by decide),if_neg (by decide),if_neg (by decide),if_neg (by decide),if_pos (by decide),itoa_num hc.1,itoa_num hc.2]
   exact congrArg (fun w=>[w,b,c]) h7.1.symm
  ·rw [if_neg hc] at h;cases h
 rw [if_neg h7] at h
 by_cases h9:ws.getD 0 []=[115,112,111,105,108]∧ws.length=4
 ·rw [if_pos h9] at h
  obtain ⟨a,b,c,e,rfl⟩:=len4 h9.2
  by_cases hc:(bytG ([a,b,c,e].getD 3 [])).isSome=true∧0≤rnumG ([a,b,c,e].getD 1 [])∧0≤rnumG ([a,b,c,e].getD 2 [])
  ·rw [if_pos hc] at h
   have e2:=(Option.some.inj h).symm
   subst e2
   refine ⟨(by decide:(0:Int)≤9),(by decide:(9:Int)<14),fun q=>absurd (show (9:Int)=5 from q) (by decide),?_⟩
   unfold itemWF
   simp only
   rw [if_neg (by decide),if_neg (by decide),if_neg (by decide),if_neg (by decide),if_neg (by decide),if_pos (by decide),itoa_num hc.2.1,itoa_num hc.2.2,bytF_is hc.1]
   exact congrArg (fun w=>[w,b,c,e]) h9.1.symm
  ·rw [if_neg hc] at h;cases h
 rw [if_neg h9] at h
 by_cases h10:ws.getD 0 []=[108,111,115,101]∧ws.length=2
 ·rw [if_pos h10] at h
  obtain ⟨a,b,rfl⟩:=len2 h10.2
  by_cases hc:0≤rnumG ([a,b].getD 1 [])
  ·rw [if_pos hc] at h
   have e2:=(Option.some.inj h).symm
   subst e2
   refine ⟨(by decide:(0:Int)≤10),(by decide:(10:Int)<14),fun q=>absurd (show (10:Int)=5 from q) (by decide),?_⟩
   unfold itemWF
   simp only
   rw [if_neg (by decide),if_neg (by decide),if_neg (by decide),if_neg (by decide),if_neg (by decide),if_neg (by decide),if_pos (by decide),itoa_num hc]
   exact congrArg (fun w=>[w,b]) h10.1.symm
  ·rw [if_neg hc] at h;cases h
 ·rw [if_neg h10] at h;cases h
theorem pl_at (w:List Nat) (hw:w≠[]) (k:Int) (h:idxF w plL 0=k) (h0:0≤k):(k=1∨k=6∨k=8∨k=11∨k=12∨k=13)∧w=thL.getD k.toNat []:=by
 have h1:=idxF_lt w plL 0
 have h2:=idxF_get plL 0 w (by omega)
 rw [h] at h1 h2
 have hk:k<14:=by have:=h1.2;simp [plL] at this;omega
 have h3:=h2.2
 have hdc:k=0∨k=1∨k=2∨k=3∨k=4∨k=5∨k=6∨k=7∨k=8∨k=9∨k=10∨k=11∨k=12∨k=13:=by omega
 rcases hdc with q | q | q | q | q | q | q | q | q | q | q | q | q | q <;> subst q <;> first | exact absurd (Option.some.inj h3).symm hw | exact ⟨by decide,(Option.some.inj h3).symm⟩
theorem rp_inv {ws:List (List Nat)} (hw:ws.getD 0 []≠[]) {x:ItV} (h:rpG ws=(x,0)):OwnI x ws:=by
 unfold rpG at h
 simp only at h
 by_cases hk:0≤idxF (ws.getD 0 []) plL 0∧ws.length=1
 ·rw [if_pos hk] at h
  obtain ⟨k1,k2⟩:=pl_at _ hw _ rfl hk.1
  obtain ⟨a,rfl⟩:=len1 hk.2
  have e2:=(Prod.mk.inj h).1.symm
  subst e2
  generalize idxF ([a].getD 0 []) plL 0=k at *
  refine ⟨by show (0:Int)≤k;omega,by show k<14;omega,fun q=>by change k=5 at q;omega,?_⟩
  unfold itemWF
  simp only
  rw [if_neg (by omega),if_neg (by omega),if_neg (by omega),if_neg (by omega),if_neg (by omega),if_neg (by omega),if_neg (by omega),←k2];rfl
 rw [if_neg hk] at h
 split at h
 ·rename_i o ho
  obtain ⟨r1,r2,r3⟩:=rop_inv ho
  have e2:=(Prod.mk.inj h).1.symm
  subst e2
  refine ⟨(by decide:(0:Int)≤0),(by decide:(0:Int)<14),fun q=>absurd (show (0:Int)=5 from q) (by decide),?_⟩
  unfold itemWF
  simp only
  rw [if_neg (by decide),if_pos (by decide)];exact r3
 ·split at h
  ·rename_i y hy
   obtain rfl:=(Prod.mk.inj h).1
   exact rnamed_inv hy
  ·have:=(Prod.mk.inj h).2;cases this
theorem parse_inv {s:List Nat} {x:ItV} (h:parseS s=(x,0)):0≤x.op∧x.op<14∧(x.op=5→0≤x.o.op∧x.o.op<11)∧joinF (itemWF x)=s:=by
 rw [parse_same,rparseG_eq] at h
 by_cases hc:10∈s∨[]∈splitF s
 ·have hw:wordsF s=[]:=by unfold wordsF;rw [if_pos hc]
  rw [hw,if_pos rfl] at h
  have:=(Prod.mk.inj h).2;cases this
 have hw:wordsF s=splitF s:=by unfold wordsF;rw [if_neg hc]
 rw [hw,if_neg (splitF_ne s)] at h
 have hn:[]∉splitF s:=fun q=>hc (.inr q)
 obtain ⟨q1,q2,q3,q4⟩:=rp_inv (get_ne hn (List.length_pos_iff.2 (splitF_ne s))) h
 exact ⟨q1,q2,q3,by rw [q4,join_split]⟩
end Abs
end Go.Proofs.YthgcjbniipfnbaaGreatDoor
