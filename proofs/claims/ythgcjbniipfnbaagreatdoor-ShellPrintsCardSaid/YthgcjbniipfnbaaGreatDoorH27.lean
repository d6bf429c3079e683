/- Shell: items told and compared; the law ShellParses but for the plain part. Shell: ShellParses walked. Shell, plainly: a word's number, read in two ways. Shell, plainly: what is taken whole holds no empty word. Shell, plainly: lines without empty words. Shell, plainly: both readings of a line are one. Shell, plainly: what is parsed is printed as it was. -/
import Derived.Test.YthgcjbniipfnbaaGreatDoorH20
namespace Go.Proofs.YthgcjbniipfnbaaGreatDoor
namespace Abs
set_option linter.unusedVariables false
set_option linter.unusedSimpArgs false
open Go.RowKit
attribute [local irreducible] WO WC WD StepK Ans Does Runs DoesD
section
variable {C:Cfg} (S:StdL C)
include S
end
end Abs
end Go.Proofs.YthgcjbniipfnbaaGreatDoor
namespace Go.Proofs.YthgcjbniipfnbaaGreatDoor
namespace Abs
set_option linter.unusedVariables false
set_option linter.unusedSimpArgs false
open Go.RowKit
attribute [local irreducible] WO WC WD StepK Ans Does Runs DoesD
structure Zn (C:Cfg) (P:Heap→Prop):Prop extends StdL C where
 live:∀ h,P h→C.S 7 [] h=some (some (.bool true,h))
 grow:∀ h h',P h→Grow h h'→P h'
end Abs
end Go.Proofs.YthgcjbniipfnbaaGreatDoor
namespace Go.Proofs.YthgcjbniipfnbaaGreatDoor
namespace Abs
set_option linter.unusedVariables false
set_option linter.unusedSimpArgs false
def nI (w:List Nat):Nat:=w.foldl (fun n c=>10*n+(c-48)) 0
theorem fP (w:List Nat) (c:Nat):nI (w++[c])=10*nI w+(c-48):=by unfold nI;rw [List.foldl_append];rfl
theorem qZ:∀ (n:Nat),∀ c∈yd n,48≤c∧c≤57:=by
 intro n
 induction n using Nat.strongRecOn with
 | _ n ih =>
  intro c hc
  by_cases h:n<10
  ·rw [yP h] at hc;simp at hc;omega
  ·rw [wA h] at hc
   rcases List.mem_append.1 hc with q | q
   ·exact ih (n / 10) (by omega) c q
   ·simp at q;omega
theorem lT:∀ (n:Nat),nI (yd n)=n:=by
 intro n
 induction n using Nat.strongRecOn with
 | _ n ih =>
  by_cases h:n<10
  ·rw [yP h];simp [nI]
  ·rw [wA h,fP,ih (n / 10) (by omega)];omega
theorem bT (n:Nat):yd n≠[]:=by
 by_cases h:n<10
 ·rw [yP h];simp
 ·rw [wA h];simp
theorem rf (w:List Nat) (n:Int):(zf w=n∧0≤n)↔∃ m:Nat,n=m∧w=yd m∧w.length≤9:=by
 constructor
 ·rintro ⟨h1,h2⟩
  unfold zf at h1
  split at h1
  ·rename_i hc
   split at h1
   ·rename_i hd
    refine ⟨nI w,h1.symm,hd.symm,?_⟩
    rcases of_decide_eq_true (Bool.and_eq_true_iff.1 hc).2 with q | q
    ·exact q
    ·rw [q];simp
   ·omega
  ·omega
 ·rintro ⟨m,rfl,rfl,hl⟩
  refine ⟨?_,by omega⟩
  unfold zf
  have hv:(yd m).foldl (fun n c=>10*n+(c-48)) 0=m:=lT m
  rw [if_pos,hv,if_pos rfl]
  rw [Bool.and_eq_true]
  refine ⟨List.all_eq_true.2 fun c hc=>?_,decide_eq_true (.inl hl)⟩
  have:=qZ m c hc
  rw [Bool.and_eq_true];exact ⟨decide_eq_true this.1,decide_eq_true this.2⟩
theorem iV:∀ (w:List Nat) (a:Nat),a≤w.foldl (fun n c=>10*n+(c-48)) a
 | [],a=>Nat.le_refl a
 | c::r,a=>by
  have:=iV r (10*a+(c-48))
  rw [List.foldl_cons];omega
theorem oG:∀ (w:List Nat) (a:Nat),(∀ c∈w,48≤c∧c≤57)→w.foldl (fun n c=>10*n+(c-48)) a<1844674407370955162→Lib.parseUint10 a (u8 w)=.ok (w.foldl (fun n c=>10*n+(c-48)) a)
 | [],a,_,_=>rfl
 | c::r,a,hd,hb=>by
  have h1:=hd c (by simp)
  rw [List.foldl_cons] at hb ⊢
  have h2:=iV r (10*a+(c-48))
  have ht:(UInt8.ofNat c).toNat=c:=by simp;omega
  show Lib.parseUint10 a (UInt8.ofNat c::u8 r)=_
  unfold Lib.parseUint10
  rw [ht,if_pos h1,if_neg (by omega),if_neg (by omega)]
  have e:a*10+(c-48)=10*a+(c-48):=by omega
  rw [e]
  exact oG r _ (fun c hc=>hd c (List.mem_cons_of_mem _ hc)) hb
theorem vC (m:Nat):zc (m:Int)=yd m:=by
 unfold zc yd Lib.itoa
 rw [if_neg (by omega)];simp
theorem iU:∀ (w:List Nat),(∀ c∈w,48≤c∧c≤57)→∀ a,w.foldl (fun n c=>10*n+(c-48)) a<(a+1)*10 ^ w.length
 | [],_,a=>by simp
 | c::r,hd,a=>by
  have h1:=hd c (by simp)
  have:=iU r (fun c hc=>hd c (List.mem_cons_of_mem _ hc)) (10*a+(c-48))
  rw [List.foldl_cons,List.length_cons,Nat.pow_succ]
  have h2:(10*a+(c-48)+1)*10 ^ r.length≤(10*(a+1))*10 ^ r.length:=Nat.mul_le_mul_right _ (by omega)
  have h3:(a+1)*(10 ^ r.length*10)=(10*(a+1))*10 ^ r.length:=by rw [Nat.mul_comm (10 ^ r.length) 10,←Nat.mul_assoc,Nat.mul_comm (a+1) 10]
  omega
theorem kL (w:List Nat) (n:Int):xL w=some n↔∃ m:Nat,n=m∧w=yd m∧w.length≤9:=by
 constructor
 ·intro h
  unfold xL at h
  split at h
  ·split at h
   ·rename_i v hv hc
    have e:=Option.some.inj h
    subst e
    refine ⟨v.toNat,by omega,?_,hc.2.2⟩
    rw [←hc.2.1]
    obtain ⟨k,hk⟩:∃ k:Nat,v=(k:Int):=⟨v.toNat,by omega⟩
    rw [hk,vC];simp
   ·cases h
  ·cases h
 ·rintro ⟨m,rfl,rfl,hl⟩
  have hd:=qZ m
  have hv:(yd m).foldl (fun n c=>10*n+(c-48)) 0=m:=lT m
  have hlt:=iU (yd m) hd 0
  rw [hv] at hlt
  have h9:(0+1)*10 ^ (yd m).length≤10 ^ 9:=by rw [Nat.zero_add,Nat.one_mul];exact Nat.pow_le_pow_right (by decide) hl
  have hp:=oG (yd m) 0 hd (by rw [hv];omega)
  rw [hv] at hp
  have hat:Lib.atoiAll (u8 (yd m))=.ok (m:Int):=by
   cases hq:yd m with
   | nil=>exact absurd hq (bT m)
   | cons c r =>
    rw [hq] at hp hd
    have h1:=hd c (by simp)
    have ht:(UInt8.ofNat c).toNat=c:=by simp;omega
    show Lib.atoiAll (UInt8.ofNat c::u8 r)=_
    unfold Lib.atoiAll
    simp only [ht]
    rw [if_neg (by omega)]
    unfold Lib.parseMag
    rw [if_neg (by simp)]
    have hp':Lib.parseUint10 0 (UInt8.ofNat c::u8 r)=.ok m:=hp
    rw [hp']
    simp only
    rw [if_neg (by omega),if_neg (by omega),if_neg (by omega)]
  unfold xL
  rw [hat]
  simp only
  rw [if_pos ⟨by omega,vC m,hl⟩]
end Abs
end Go.Proofs.YthgcjbniipfnbaaGreatDoor
namespace Go.Proofs.YthgcjbniipfnbaaGreatDoor
namespace Abs
set_option linter.unusedVariables false
set_option linter.unusedSimpArgs false
def wF (all:List (List Nat)) (t:Nat × Bool):Prop:=t.2=false→t.1≤all.length∧∀ j,j<t.1→all.getD j []≠[]
theorem je (all:List (List Nat)) (t:Nat × Bool) (g:wF all t) (b:Bool):wF all (wdI all t.1,(t.2 || !yA all t.1) || b):=by
 intro h
 simp only [Bool.or_eq_false_iff,Bool.not_eq_false'] at h
 obtain ⟨⟨h1,h2⟩,h3⟩:=h
 obtain ⟨g1,g2⟩:=g h1
 have e:wdI all t.1=t.1+1:=by unfold wdI;rw [h2];rfl
 have hk:=h2
 unfold yA at hk
 rw [Bool.and_eq_true] at hk
 have k1:=of_decide_eq_true hk.1
 have k2:=of_decide_eq_true hk.2
 simp only [e]
 refine ⟨k1,fun j hj=>?_⟩
 by_cases hjt:j=t.1
 ·rw [hjt];exact k2
 ·exact g2 j (by omega)
theorem vi (all:List (List Nat)) (t:Nat × Bool) (g:wF all t):wF all (wS all t):=by
 have:=je all t g false
 rwa [Bool.or_false] at this
theorem wc (all:List (List Nat)) (t:Nat × Bool) (g:wF all t):wF all (nS all t):=je all t g _
theorem iT (all:List (List Nat)) (t:Nat × Bool) (g:wF all t):wF all (bS all t):=je all t g _
theorem jf (all:List (List Nat)) (d:Int) (t:Nat × Bool) (g:wF all t):wF all (opS all d t):=by
 have g1:=vi all t g
 unfold opS
 simp only
 split
 ·exact vi _ _ g1
 ·split
  ·exact wc _ _ (wc _ _ g1)
  ·split
   ·exact iT _ _ (wc _ _ g1)
   ·split
    ·exact wc _ _ g1
    ·exact g1
theorem eT (all:List (List Nat)) (k:Int) (t:Nat × Bool) (x:ItV) (g:wF all t):wF all (zJ all k t x).1:=by
 unfold zJ
 split
 ·exact vi _ _ g
 ·split
  ·simp only [wg]
   split
   ·exact jf _ _ _ (vi _ _ (vi _ _ g))
   ·intro h;cases h
  ·split
   ·exact wc _ _ (wc _ _ g)
   ·split
    ·exact iT _ _ (wc _ _ (wc _ _ g))
    ·split
     ·exact wc _ _ g
     ·exact g
theorem eU (all:List (List Nat)) (t:Nat × Bool) (g:wF all t):wF all (ya all t).1:=by
 unfold ya
 simp only
 split
 ·exact jf _ _ _ (vi _ _ g)
 ·intro h
  simp only [Bool.or_eq_false_iff] at h
  exact eT _ _ _ _ (vi _ _ g) h.1
theorem jT {s:List Nat} (h:[]∈ze s):yh s=false:=by
 cases hq:yh s with
 | false=>rfl
 | true =>
  unfold yh at hq
  simp only [Bool.and_eq_true,Bool.not_eq_true'] at hq
  have g0:wF (ze s) (0,false):=fun _=>⟨Nat.zero_le _,fun j hj=>by simp at hj⟩
  obtain ⟨_,g2⟩:=eU _ _ g0 hq.1
  have he:=of_decide_eq_true hq.2.1
  obtain ⟨j,hj,e⟩:=List.getElem_of_mem h
  have:=g2 j (by omega)
  rw [List.getD_eq_getElem?_getD,List.getElem?_eq_getElem hj] at this
  exact absurd e this
end Abs
end Go.Proofs.YthgcjbniipfnbaaGreatDoor
namespace Go.Proofs.YthgcjbniipfnbaaGreatDoor
namespace Abs
set_option linter.unusedVariables false
set_option linter.unusedSimpArgs false
theorem uu:∀ (l:List (List Nat)) (k:Nat) (w:List Nat),0≤zk w l k→k≤zk w l k∧l[(zk w l k).toNat-k]? = some w
 | [],k,w,h=>by simp [zk] at h
 | t::r,k,w,h=>by
  rw [vD] at h ⊢
  by_cases he:w=t
  ·rw [if_pos he];simp [he]
  ·rw [if_neg he] at h ⊢
   have:=uu r (k+1) w h
   refine ⟨by omega,?_⟩
   have e:(zk w r (k+1)).toNat-k=((zk w r (k+1)).toNat-(k+1))+1:=by omega
   rw [e,List.getElem?_cons_succ];exact this.2
theorem dP {s:List Nat} (h:10∈s):zC s=yK s:=by
 have h1:yh s=false:=by unfold yh;rw [decide_eq_true h];simp
 have h2:zy s=[]:=by unfold zy;rw [if_pos (.inl h)]
 unfold zC yK
 rw [h1,h2];simp
theorem dQ {s:List Nat} (h:[]∈ze s):zC s=yK s:=by
 have h1:=jT h
 have h2:zy s=[]:=by unfold zy;rw [if_pos (.inr h)]
 unfold zC yK
 rw [h1,h2];simp
theorem iu {all:List (List Nat)} (hn:[]∉all) (i:Nat):yA all i=decide (i<all.length):=by
 unfold yA
 by_cases hi:i<all.length
 ·rw [decide_eq_true hi,Bool.true_and]
  refine decide_eq_true fun e=>hn ?_
  rw [List.getD_eq_getElem?_getD,List.getElem?_eq_getElem hi] at e
  have e2:all[i]=[]:=e
  rw [←e2];exact List.getElem_mem hi
 ·rw [decide_eq_false hi];rfl
theorem xC {all:List (List Nat)} (hn:[]∉all) {i:Nat} (hi:i<all.length):wdI all i=i+1∧yA all i=true∧wdT all i=all.getD i []:=by
 have h:=iu hn i
 rw [decide_eq_true hi] at h
 exact ⟨by unfold wdI;rw [h];rfl,h,by unfold wdT wdV;rw [h];rfl⟩
theorem qi {all:List (List Nat)} (hn:[]∉all) {i:Nat} (hi:¬ i<all.length):wdI all i=i∧yA all i=false∧wdT all i=[]:=by
 have h:=iu hn i
 rw [decide_eq_false hi] at h
 exact ⟨by unfold wdI;rw [h];rfl,h,by unfold wdT;rw [h];rfl⟩
theorem uF {all:List (List Nat)} (hn:[]∉all) {i:Nat} (hi:i<all.length) (b:Bool):wS all (i,b)=(i+1,b):=by
 obtain ⟨h1,h2,_⟩:=xC hn hi
 unfold wS;simp [h1,h2]
theorem ZF {all:List (List Nat)} (hn:[]∉all) {i:Nat} (hi:i<all.length) (b:Bool):nS all (i,b)=(i+1,b || (xL (all.getD i [])).isNone):=by
 obtain ⟨h1,h2,h3⟩:=xC hn hi
 unfold nS;simp [h1,h2,h3]
theorem bg {all:List (List Nat)} (hn:[]∉all) {i:Nat} (hi:i<all.length) (b:Bool):bS all (i,b)=(i+1,b || (zl (all.getD i [])).isNone):=by
 obtain ⟨h1,h2,h3⟩:=xC hn hi
 unfold bS;simp [h1,h2,h3]
theorem xB {all:List (List Nat)} (hn:[]∉all) {i:Nat} (hi:¬ i<all.length) (b:Bool):(wS all (i,b)).2=true∧(nS all (i,b)).2=true∧(bS all (i,b)).2=true:=by
 obtain ⟨h1,h2,h3⟩:=qi hn hi
 refine ⟨?_,?_,?_⟩
 ·unfold wS;simp [h2]
 ·unfold nS;simp [h2]
 ·unfold bS;simp [h2]
theorem u9 (all:List (List Nat)) (t:Nat × Bool) (h:t.2=true):(wS all t).2=true∧(nS all t).2=true∧(bS all t).2=true:=by
 refine ⟨?_,?_,?_⟩
 ·unfold wS;simp [h]
 ·unfold nS;simp [h]
 ·unfold bS;simp [h]
theorem kK (w:List Nat):(xL w).isNone=decide (¬ 0≤zf w)∧(0≤zf w→(xL w).getD 0=zf w):=by
 by_cases h:0≤zf w
 ·have h2:=(kL w (zf w)).2 ((rf w (zf w)).1 ⟨rfl,h⟩)
  rw [h2];simp [h]
 ·cases hq:xL w with
  | none=>simp [h]
  | some n =>
   have h3:=(rf w n).2 ((kL w n).1 hq)
   rw [h3.1] at h;exact absurd h3.2 h
theorem mP (all:List (List Nat)) (o i:Nat):(all.drop o).getD i []=all.getD (o+i) []:=by
 rw [List.getD_eq_getElem?_getD,List.getElem?_drop,List.getD_eq_getElem?_getD]
theorem sa {all:List (List Nat)} (hn:[]∉all) {i:Nat} (hi:i<all.length) (b:Bool):nS all (i,b)=(i+1,b || decide (¬ 0≤zf (all.getD i []))):=by
 rw [ZF hn hi,(kK _).1]
theorem tZ {all:List (List Nat)} (hn:[]∉all) {i:Nat} (hi:i<all.length) (h:0≤zf (all.getD i [])):nV all i=zf (all.getD i []):=by
 unfold nV;rw [(xC hn hi).2.2];exact (kK _).2 h
theorem Zj {all:List (List Nat)} (hn:[]∉all) {i:Nat} (hi:i<all.length):bV all i=(zl (all.getD i [])).getD []:=by
 unfold bV;rw [(xC hn hi).2.2]
theorem isNone_some {α:Type} (o:Option α):o.isNone=!o.isSome:=by cases o <;> rfl
theorem kH {all:List (List Nat)} (hn:[]∉all) (o:Nat) (ho:o<all.length) (d:Int) (hd:zk (all.getD o []) nmL 0=d) (h0:0≤d) :
  y8 (all.drop o)=if (opS all d (o+1,false)).2=false∧(opS all d (o+1,false)).1=all.length then some (opG all d (o+1,false)) else none:=by
 have hdl:=vh (all.getD o []) nmL 0
 rw [hd] at hdl
 have hd11:d<11:=by have:=hdl.2;simp [nmL] at this;omega
 have hlen:(all.drop o).length=all.length-o:=by simp
 unfold y8
 simp only [mP,Nat.add_zero,hd,hlen,if_neg (show ¬ d<0 by omega)]
 have hdc:d=0∨d=1∨d=2∨d=3∨d=4∨d=5∨d=6∨d=7∨d=8∨d=9∨d=10:=by omega
 -- one word behind: the path alone
 have one:(d=0∨d=1∨d=3∨d=4∨d=9∨d=10)→opS all d (o+1,false)=wS all (o+1,false)∧opG all d (o+1,false)=⟨d,wdT all (o+1),[],0,0,[]⟩:=by
  intro q
  rcases q with q | q | q | q | q | q <;> subst q <;> exact ⟨rfl,rfl⟩
 have hsub:((all.length-o:Nat):Int)=(all.length:Int)-o:=by omega
 by_cases h1:o+1<all.length
 ·have w1:=uF hn h1 false
  have t1:=(xC hn h1).2.2
  rcases hdc with q | q | q | q | q | q | q | q | q | q | q <;> subst q
  case inr.inr.inl =>
   have eS:opS all 2 (o+1,false)=wS all (wS all (o+1,false)):=rfl
   have eG:opG all 2 (o+1,false)=⟨2,wdT all (o+1),wdT all (wS all (o+1,false)).1,0,0,[]⟩:=rfl
   rw [eS,eG,w1,t1]
   by_cases h2:o+2<all.length
   ·rw [uF hn h2 false,(xC hn h2).2.2]
    by_cases h3:o+3=all.length
    ·simp [manyL,h3];omega
    ·simp [manyL,h3];omega
   ·rw [(xB hn h2 false).1];simp [manyL];omega
  case inr.inr.inr.inr.inr.inl =>
   have eS:opS all 5 (o+1,false)=wS all (wS all (o+1,false)):=rfl
   have eG:opG all 5 (o+1,false)=⟨5,wdT all (o+1),wdT all (wS all (o+1,false)).1,0,0,[]⟩:=rfl
   rw [eS,eG,w1,t1]
   by_cases h2:o+2<all.length
   ·rw [uF hn h2 false,(xC hn h2).2.2]
    by_cases h3:o+3=all.length
    ·simp [manyL,h3];omega
    ·simp [manyL,h3];omega
   ·rw [(xB hn h2 false).1];simp [manyL];omega
  case inr.inr.inr.inr.inr.inr.inl =>
   have eS:opS all 6 (o+1,false)=nS all (nS all (wS all (o+1,false))):=rfl
   have eG:opG all 6 (o+1,false)=⟨6,wdT all (o+1),[],nV all (wS all (o+1,false)).1,nV all (nS all (wS all (o+1,false))).1,[]⟩:=rfl
   rw [eS,eG,w1,t1]
   by_cases h2:o+2<all.length
   ·rw [sa hn h2 false]
    by_cases h3:o+3<all.length
    ·rw [sa hn h3]
     by_cases h4:o+4=all.length
     ·have em:((all.length-o:Nat):Int)=4:=by omega
      rw [em]
      by_cases ha:0≤zf (all.getD (o+2) [])
      ·by_cases hb:0≤zf (all.getD (o+3) [])
       ·have v2:nV all (o+1+1)=zf (all.getD (o+2) []):=tZ hn h2 ha
        have v3:nV all (o+2+1)=zf (all.getD (o+3) []):=tZ hn h3 hb
        have h5:o+3+1=all.length:=h4
        rw [if_neg (by decide),if_neg (by decide),if_pos rfl,if_pos ⟨ha,hb⟩,if_pos ⟨by simpa using ⟨ha,hb⟩,h5⟩,v2,v3]
       ·rw [if_neg (by decide),if_neg (by decide),if_pos rfl,if_neg (fun q=>hb q.2),if_neg (fun q=>by have q1:=q.1;simp at q1 hb;omega)]
      ·rw [if_neg (by decide),if_neg (by decide),if_pos rfl,if_neg (fun q=>ha q.1),if_neg (fun q=>by have q1:=q.1;simp at q1 ha;omega)]
     ·have em:((all.length-o:Nat):Int)≠4:=by omega
      rw [if_pos (by simpa [manyL] using em),if_neg (fun q=>h4 q.2)]
    ·rw [if_pos (by simp [manyL];omega),if_neg (fun q=>?_)]
     have:=(xB hn h3 (false || decide (¬ 0≤zf (all.getD (o+2) [])))).2.1
     rw [this] at q;cases q.1
   ·rw [if_pos (by simp [manyL];omega),if_neg (fun q=>?_)]
    have:=(u9 all _ (xB hn h2 false).2.1).2.1
    rw [this] at q;cases q.1
  case inr.inr.inr.inr.inr.inr.inr.inl =>
   have eS:opS all 7 (o+1,false)=bS all (nS all (wS all (o+1,false))):=rfl
   have eG:opG all 7 (o+1,false)=⟨7,wdT all (o+1),[],nV all (wS all (o+1,false)).1,0,bV all (nS all (wS all (o+1,false))).1⟩:=rfl
   rw [eS,eG,w1,t1]
   by_cases h2:o+2<all.length
   ·rw [sa hn h2 false]
    by_cases h3:o+3<all.length
    ·rw [bg hn h3,isNone_some]
     by_cases h4:o+4=all.length
     ·have em:((all.length-o:Nat):Int)=4:=by omega
      rw [em]
      by_cases ha:0≤zf (all.getD (o+2) [])
      ·by_cases hb:(zl (all.getD (o+3) [])).isSome=true
       ·have v2:nV all (o+1+1)=zf (all.getD (o+2) []):=tZ hn h2 ha
        have v3:bV all (o+2+1)=(zl (all.getD (o+3) [])).getD []:=Zj hn h3
        have h5:o+3+1=all.length:=h4
        rw [if_neg (by decide),if_neg (by decide),if_neg (by decide),if_pos rfl,if_pos ⟨hb,ha⟩,if_pos ⟨by simpa using ⟨ha,hb⟩,h5⟩,v2,v3]
       ·rw [if_neg (by decide),if_neg (by decide),if_neg (by decide),if_pos rfl,if_neg (fun q=>hb q.1),if_neg (fun q=>by have q1:=q.1;simp at q1 hb;rw [hb] at q1;simp at q1)]
      ·rw [if_neg (by decide),if_neg (by decide),if_neg (by decide),if_pos rfl,if_neg (fun q=>ha q.2),if_neg (fun q=>by have q1:=q.1;simp at q1 ha;omega)]
     ·have em:((all.length-o:Nat):Int)≠4:=by omega
      rw [if_pos (by simpa [manyL] using em),if_neg (fun q=>h4 q.2)]
    ·rw [if_pos (by simp [manyL];omega),if_neg (fun q=>?_)]
     have:=(xB hn h3 (false || decide (¬ 0≤zf (all.getD (o+2) [])))).2.2
     rw [this] at q;cases q.1
   ·rw [if_pos (by simp [manyL];omega),if_neg (fun q=>?_)]
    have:=(u9 all _ (xB hn h2 false).2.1).2.2
    rw [this] at q;cases q.1
  case inr.inr.inr.inr.inr.inr.inr.inr.inl =>
   have eS:opS all 8 (o+1,false)=nS all (wS all (o+1,false)):=rfl
   have eG:opG all 8 (o+1,false)=⟨8,wdT all (o+1),[],0,nV all (wS all (o+1,false)).1,[]⟩:=rfl
   rw [eS,eG,w1,t1]
   by_cases h2:o+2<all.length
   ·rw [sa hn h2 false]
    by_cases h3:o+3=all.length
    ·have em:((all.length-o:Nat):Int)=3:=by omega
     rw [em]
     by_cases ha:0≤zf (all.getD (o+2) [])
     ·have v2:nV all (o+1+1)=zf (all.getD (o+2) []):=tZ hn h2 ha
      have h5:o+2+1=all.length:=h3
      rw [if_neg (by decide),if_neg (by decide),if_neg (by decide),if_neg (by decide),if_pos rfl,if_pos ha,if_pos ⟨by simpa using ha,h5⟩,v2]
     ·rw [if_neg (by decide),if_neg (by decide),if_neg (by decide),if_neg (by decide),if_pos rfl,if_neg ha,if_neg (fun q=>by have q1:=q.1;simp at q1 ha;omega)]
    ·have em:((all.length-o:Nat):Int)≠3:=by omega
     rw [if_pos (by simpa [manyL] using em),if_neg (fun q=>h3 q.2)]
   ·rw [if_pos (by simp [manyL];omega),if_neg (fun q=>?_)]
    rw [(xB hn h2 false).2.1] at q;cases q.1
  all_goals
   obtain ⟨e1,e2⟩:=one (by simp)
   rw [e1,e2,w1,t1]
   by_cases h2:o+2=all.length
   ·simp [manyL,h2];omega
   ·simp [manyL,h2];omega
 ·have hb:=(xB hn h1 false).1
  have hbad:(opS all d (o+1,false)).2=true:=by
   obtain ⟨b1,b2,b3⟩:=u9 all _ hb
   unfold opS
   simp only
   split
   ·exact b1
   ·split
    ·exact (u9 all _ b2).2.1
    ·split
     ·exact (u9 all _ b2).2.2
     ·split
      ·exact b2
      ·exact hb
  have em:((all.length-o:Nat):Int)=1:=by omega
  rw [em,hbad,if_pos,if_neg (by simp)]
  rcases hdc with q | q | q | q | q | q | q | q | q | q | q <;> subst q <;> decide
end Abs
end Go.Proofs.YthgcjbniipfnbaaGreatDoor
namespace Go.Proofs.YthgcjbniipfnbaaGreatDoor
namespace Abs
set_option linter.unusedVariables false
set_option linter.unusedSimpArgs false
theorem sg:∀ (l:List (List Nat)) (k:Nat) (w:List Nat),zk w l k<0↔w∉l
 | [],k,w=>by simp [zk]
 | t::r,k,w=>by
  rw [vD]
  by_cases he:w=t
  ·rw [if_pos he];simp [he]
  ·rw [if_neg he,sg r (k+1) w];simp [he]
theorem cV (w:List Nat) (d:Int) (h:zk w nmL 0=d) (h0:0≤d):d<11∧w=nmL.getD d.toNat []:=by
 have h1:=vh w nmL 0
 have h2:=uu nmL 0 w (by omega)
 rw [h] at h1 h2
 refine ⟨by have:=h1.2;simp [nmL] at this;omega,?_⟩
 rw [List.getD_eq_getElem?_getD]
 have:=h2.2
 simp at this
 rw [this];rfl
theorem Zr (w:List Nat) (d:Int) (h:zk w thL 0=d) (h0:0≤d):d<14∧w=thL.getD d.toNat []:=by
 have h1:=vh w thL 0
 have h2:=uu thL 0 w (by omega)
 rw [h] at h1 h2
 refine ⟨by have:=h1.2;simp [thL] at this;omega,?_⟩
 rw [List.getD_eq_getElem?_getD]
 have:=h2.2
 simp at this
 rw [this];rfl
theorem dT (w:List Nat) (h:0≤zk w nmL 0):zk w plL 0<0∧zk w snL 0<0∧w≠[115,101,101]∧w≠[115,116,101,112]∧w≠[115,112,111,105,108]∧w≠[108,111,115,101]:=by
 obtain ⟨h1,h2⟩:=cV w _ rfl h
 generalize zk w nmL 0=d at *
 have hdc:d=0∨d=1∨d=2∨d=3∨d=4∨d=5∨d=6∨d=7∨d=8∨d=9∨d=10:=by omega
 rw [h2]
 rcases hdc with q | q | q | q | q | q | q | q | q | q | q <;> subst q <;> decide
theorem dE (k:Int) (h1:1≤k) (h2:k<14):zk (thL.getD k.toNat []) plL 0=(if k=1∨k=6∨k=8∨k=11∨k=12∨k=13 then k else -1)∧zk (thL.getD k.toNat []) snL 0=(if k=2∨k=3∨k=4 then k else -1) ∧
  (thL.getD k.toNat []=[115,101,101]↔k=5)∧(thL.getD k.toNat []=[115,116,101,112]↔k=7)∧(thL.getD k.toNat []=[115,112,111,105,108]↔k=9)∧(thL.getD k.toNat []=[108,111,115,101]↔k=10):=by
 have hdc:k=1∨k=2∨k=3∨k=4∨k=5∨k=6∨k=7∨k=8∨k=9∨k=10∨k=11∨k=12∨k=13:=by omega
 rcases hdc with q | q | q | q | q | q | q | q | q | q | q | q | q <;> subst q <;> decide
theorem aW (all:List (List Nat)) (d:Int) (s:Nat × Bool):(opG all d s).op=d:=by
 unfold opG
 simp only
 repeat' split
 all_goals rfl
theorem get_ne {all:List (List Nat)} (hn:[]∉all) {i:Nat} (hi:i<all.length):all.getD i []≠[]:=fun e=>hn (by
 rw [List.getD_eq_getElem?_getD,List.getElem?_eq_getElem hi] at e
 have e2:all[i]=[]:=e
 rw [←e2];exact List.getElem_mem hi)
noncomputable def rpG (ws:List (List Nat)):ItV × Int :=
 let k:=zk (ws.getD 0 []) plL 0
 if 0≤k∧ws.length=1 then ({ ItV.z with op:=k },0) else
 match y8 ws with
 | some o=>({ ItV.z with o:=o },0)
 | none=>match zo ws with
  | some x=>(x,0)
  | none=>(ItV.z,15)
theorem ou (s:List Nat):yK s=if zy s=[] then (ItV.z,15) else rpG (zy s):=rfl
noncomputable def ipG (all:List (List Nat)):ItV × Int:=if (ya all (0,false)).1.2=false∧(ya all (0,false)).1.1=all.length then ((ya all (0,false)).2,0) else (ItV.z,15)
theorem gY {all:List (List Nat)} (hn:[]∉all) (hl:0<all.length):rpG all=ipG all:=by
 obtain ⟨a1,a2,a3⟩:=xC hn hl
 have w1:=uF hn hl false
 have hw0:all.getD 0 []≠[]:=get_ne hn hl
 have f1:wy nmL (all.getD 0 [])=zk (all.getD 0 []) nmL 0:=by unfold wy;rw [if_neg hw0]
 have f2:wy thL (all.getD 0 [])=zk (all.getD 0 []) thL 0:=by unfold wy;rw [if_neg hw0]
 unfold rpG ipG ya
 simp only [a3,w1,f1,f2]
 by_cases hd:0≤zk (all.getD 0 []) nmL 0
 ·have ho:=kH hn 0 hl _ rfl hd
  obtain ⟨p1,p2,p3,p4,p5,p6⟩:=dT _ hd
  rw [List.drop_zero,Nat.zero_add] at ho
  have hna:zo all=none:=by
   unfold zo
   simp only
   rw [if_neg (by omega),if_neg (fun q=>p3 q.1),if_neg (fun q=>p4 q.1),if_neg (fun q=>p5 q.1),if_neg (fun q=>p6 q.1)]
  rw [if_neg (by omega),ho,hna,if_pos hd]
  by_cases hc:(opS all (zk (all.getD 0 []) nmL 0) (0+1,false)).2=false∧(opS all (zk (all.getD 0 []) nmL 0) (0+1,false)).1=all.length
  ·rw [if_pos hc]
   simp only
   rw [if_pos hc]
  ·rw [if_neg hc]
   simp only
   rw [if_neg hc]
 ·have ho : y8 all=none:=by
   unfold y8
   simp only
   rw [if_pos (by omega)]
  rw [ho,if_neg hd]
  simp only
  obtain ⟨k,hk⟩:∃ k,zk (all.getD 0 []) thL 0=k:=⟨_,rfl⟩
  rw [hk]
  by_cases h0:0≤k
  ·obtain ⟨hk1,hk2⟩:=Zr _ k hk h0
   have hk3:k≠0:=by rintro rfl;exact hw0 hk2
   obtain ⟨t1,t2,t3,t4,t5,t6⟩:=dE k (by omega) hk1
   rw [←hk2] at t1 t2 t3 t4 t5 t6
   have nb:decide (k<0)=false:=decide_eq_false (by omega)
   simp only [nb,Bool.or_false]
   have L2:∀ i,i<all.length→¬ i+1<all.length→all.length=i+1:=fun i q1 q2=>by omega
   have hdc:(k=1∨k=6∨k=8∨k=11∨k=12∨k=13)∨(k=2∨k=3∨k=4)∨k=5∨k=7∨k=9∨k=10:=by omega
   rcases hdc with q | q | q | q | q | q
   ·-- a word alone
    have e1:zJ all k (0+1,false) { ItV.z with op:=k }=((0+1,false),{ ItV.z with op:=k }):=by
     unfold zJ
     rw [if_neg (by omega),if_neg (by omega),if_neg (by omega),if_neg (by omega),if_neg (by omega)]
    have u1:zk (all.getD 0 []) plL 0=k:=by rw [t1,if_pos q]
    have u2:zk (all.getD 0 []) snL 0=-1:=by rw [t2,if_neg (by omega)]
    have RN:zo all=none:=by
     unfold zo
     simp only [u2,t3,t4,t5,t6]
     rw [if_neg (by omega),if_neg (by omega),if_neg (by omega),if_neg (by omega),if_neg (by omega)]
    rw [RN,u1,e1]
    by_cases hL:all.length=1
    ·rw [if_pos (show 0≤k∧all.length=1 from ⟨h0,hL⟩),if_pos ⟨rfl,hL.symm⟩]
    ·rw [if_neg (show ¬ (0≤k∧all.length=1) from fun q=>hL q.2),if_neg (fun q=>hL q.2.symm)]
   ·-- a name
    have e1:zJ all k (0+1,false) { ItV.z with op:=k }=lw all (0+1,false) { ItV.z with op:=k }:=by
     unfold zJ
     rw [if_pos q]
    have u1:zk (all.getD 0 []) plL 0=-1:=by rw [t1,if_neg (by omega)]
    have u2:zk (all.getD 0 []) snL 0=k:=by rw [t2,if_pos q]
    have RN:zo all=if all.length=2 then some { ItV.z with op:=k,name:=all.getD (all.length-1) [] } else none:=by
     unfold zo
     simp only [u2]
     rw [if_pos (by omega)]
    rw [RN,u1,if_neg (show ¬ ((0:Int)≤-1∧all.length=1) from fun q=>absurd q.1 (by decide)),e1]
    unfold lw
    simp only
    by_cases h1:0+1<all.length
    ·rw [uF hn h1,(xC hn h1).2.2]
     by_cases hL:all.length=2
     ·rw [if_pos hL,if_pos ⟨rfl,hL.symm⟩,hL]
     ·rw [if_neg hL,if_neg (fun q=>hL q.2.symm)]
    ·rw [if_neg (by omega),if_neg (fun q=>by rw [(xB hn h1 false).1] at q;cases q.1)]
   ·-- see
    subst q
    have e1:zJ all 5 (0+1,false) { ItV.z with op:=5 }=wg all (0+1,false) { ItV.z with op:=5 }:=by
     unfold zJ
     rw [if_neg (by decide),if_pos rfl]
    have u1:zk (all.getD 0 []) plL 0=-1:=by rw [t1,if_neg (by decide)]
    have u2:zk (all.getD 0 []) snL 0=-1:=by rw [t2,if_neg (by decide)]
    have RN:zo all=if 2<all.length then (match y8 (all.drop 2) with
      | some o=>if o.op=6∨o.op=9∨o.op=10 then some { ItV.z with op:=5,name:=all.getD 1 [],o:=o } else none
      | none=>none) else none:=by
     unfold zo
     simp only [u2,t3,t4,t5,t6]
     simp
     rfl
    rw [RN,u1,if_neg (show ¬ ((0:Int)≤-1∧all.length=1) from fun q=>absurd q.1 (by decide)),e1]
    unfold wg
    simp only
    by_cases h2:2<all.length
    ·have h1:0+1<all.length:=by omega
     have hw2:=get_ne hn h2
     have f3:wy nmL (all.getD 2 [])=zk (all.getD 2 []) nmL 0:=by unfold wy;rw [if_neg hw2]
     rw [if_pos h2,uF hn h1,(xC hn h1).2.2]
     have t2:wdT all (0+1+1)=all.getD 2 []:=(xC hn h2).2.2
     have s2:wS all (0+1+1,false)=(2+1,false):=uF hn h2 false
     rw [t2,s2,f3]
     by_cases hd2:0≤zk (all.getD 2 []) nmL 0
     ·rw [kH hn 2 h2 _ rfl hd2]
      by_cases hc:(opS all (zk (all.getD 2 []) nmL 0) (2+1,false)).2=false∧(opS all (zk (all.getD 2 []) nmL 0) (2+1,false)).1=all.length
      ·rw [if_pos hc]
       simp only [aW]
       by_cases h6:zk (all.getD 2 []) nmL 0=6∨zk (all.getD 2 []) nmL 0=9∨zk (all.getD 2 []) nmL 0=10
       ·rw [if_pos h6,if_pos h6];simp only;rw [if_pos hc]
       ·rw [if_neg h6,if_neg h6];simp
      ·rw [if_neg hc]
       simp only
       by_cases h6:zk (all.getD 2 []) nmL 0=6∨zk (all.getD 2 []) nmL 0=9∨zk (all.getD 2 []) nmL 0=10
       ·rw [if_pos h6];simp only;rw [if_neg hc]
       ·rw [if_neg h6];simp
     ·have ho2:y8 (all.drop 2)=none:=by
       unfold y8
       simp only [mP,Nat.add_zero]
       rw [if_pos (by omega)]
      rw [ho2,if_neg (show ¬ (zk (all.getD 2 []) nmL 0=6∨zk (all.getD 2 []) nmL 0=9∨zk (all.getD 2 []) nmL 0=10) by omega)]
      simp
    ·have hz:wdT all (wS all (0+1,false)).1=[]:=by
      by_cases h1:0+1<all.length
      ·rw [uF hn h1];exact (qi hn (by omega)).2.2
      ·have:(wS all (0+1,false)).1=0+1:=by unfold wS;exact (qi hn h1).1
       rw [this];exact (qi hn h1).2.2
     have f3:wy nmL []=-1:=rfl
     rw [if_neg h2,hz,f3,if_neg (show ¬ ((-1:Int)=6∨(-1:Int)=9∨(-1:Int)=10) by decide)]
     simp
   ·-- step
    subst q
    have e1:zJ all 7 (0+1,false) { ItV.z with op:=7 }=lu all (0+1,false) { ItV.z with op:=7 }:=by
     unfold zJ
     rw [if_neg (by decide),if_neg (by decide),if_pos rfl]
    have u1:zk (all.getD 0 []) plL 0=-1:=by rw [t1,if_neg (by decide)]
    have u2:zk (all.getD 0 []) snL 0=-1:=by rw [t2,if_neg (by decide)]
    have RN:zo all=if all.length=3 then (if 0≤zf (all.getD 1 [])∧0≤zf (all.getD 2 []) then some { ItV.z with op:=7,now:=zf (all.getD 1 []),n:=zf (all.getD 2 []) } else none) else none:=by
     unfold zo
     simp only [u2,t3,t4,t5,t6]
     simp
    rw [RN,u1,if_neg (show ¬ ((0:Int)≤-1∧all.length=1) from fun q=>absurd q.1 (by decide)),e1]
    unfold lu
    simp only
    by_cases h1:0+1<all.length
    ·rw [sa hn h1]
     by_cases h2:0+1+1<all.length
     ·rw [sa hn h2]
      by_cases hL:all.length=3
      ·rw [if_pos hL]
       by_cases ha:0≤zf (all.getD 1 [])
       ·by_cases hb:0≤zf (all.getD 2 [])
        ·have v1:nV all (0+1)=zf (all.getD 1 []):=tZ hn h1 ha
         have v2:nV all (0+1+1)=zf (all.getD 2 []):=tZ hn h2 hb
         rw [if_pos ⟨ha,hb⟩,if_pos ⟨by simpa using ⟨ha,hb⟩,hL.symm⟩,v1,v2]
        ·rw [if_neg (fun q=>hb q.2),if_neg (fun q=>by have q1:=q.1;simp at q1 hb;omega)]
       ·rw [if_neg (fun q=>ha q.1),if_neg (fun q=>by have q1:=q.1;simp at q1 ha;omega)]
      ·rw [if_neg hL,if_neg (fun q=>hL q.2.symm)]
     ·rw [if_neg (show ¬ all.length=3 by omega),if_neg (fun q=>?_)]
      rw [(xB hn h2 _).2.1] at q;cases q.1
    ·rw [if_neg (show ¬ all.length=3 by omega),if_neg (fun q=>?_)]
     rw [(u9 all _ (xB hn h1 false).2.1).2.1] at q;cases q.1
   ·-- spoil
    subst q
    have e1:zJ all 9 (0+1,false) { ItV.z with op:=9 }=oj all (0+1,false) { ItV.z with op:=9 }:=by
     unfold zJ
     rw [if_neg (by decide),if_neg (by decide),if_neg (by decide),if_pos rfl]
    have u1:zk (all.getD 0 []) plL 0=-1:=by rw [t1,if_neg (by decide)]
    have u2:zk (all.getD 0 []) snL 0=-1:=by rw [t2,if_neg (by decide)]
    have RN:zo all=if all.length=4 then (if (zl (all.getD 3 [])).isSome=true∧0≤zf (all.getD 1 [])∧0≤zf (all.getD 2 []) then some { ItV.z with op:=9,dev:=zf (all.getD 1 []),at':=zf (all.getD 2 []),data:=(zl (all.getD 3 [])).getD [] } else none) else none:=by
     unfold zo
     simp only [u2,t3,t4,t5,t6]
     simp
    rw [RN,u1,if_neg (show ¬ ((0:Int)≤-1∧all.length=1) from fun q=>absurd q.1 (by decide)),e1]
    unfold oj
    simp only
    by_cases h1:0+1<all.length
    ·rw [sa hn h1]
     by_cases h2:0+1+1<all.length
     ·rw [sa hn h2]
      by_cases h3:0+1+1+1<all.length
      ·rw [bg hn h3,isNone_some]
       by_cases hL:all.length=4
       ·rw [if_pos hL]
        by_cases ha:0≤zf (all.getD 1 [])
        ·by_cases hb:0≤zf (all.getD 2 [])
         ·by_cases hy:(zl (all.getD 3 [])).isSome=true
          ·have v1:nV all (0+1)=zf (all.getD 1 []):=tZ hn h1 ha
           have v2:nV all (0+1+1)=zf (all.getD 2 []):=tZ hn h2 hb
           have v3:bV all (0+1+1+1)=(zl (all.getD 3 [])).getD []:=Zj hn h3
           rw [if_pos ⟨hy,ha,hb⟩,if_pos ⟨by simpa using ⟨⟨ha,hb⟩,hy⟩,hL.symm⟩,v1,v2,v3]
          ·rw [if_neg (fun q=>hy q.1),if_neg (fun q=>by have q1:=q.1;simp at q1 hy;rw [hy] at q1;simp at q1)]
         ·rw [if_neg (fun q=>hb q.2.2),if_neg (fun q=>by have q1:=q.1;simp at q1 hb;omega)]
        ·rw [if_neg (fun q=>ha q.2.1),if_neg (fun q=>by have q1:=q.1;simp at q1 ha;omega)]
       ·rw [if_neg hL,if_neg (fun q=>hL q.2.symm)]
      ·rw [if_neg (show ¬ all.length=4 by omega),if_neg (fun q=>?_)]
       rw [(xB hn h3 _).2.2] at q;cases q.1
     ·rw [if_neg (show ¬ all.length=4 by omega),if_neg (fun q=>?_)]
      rw [(u9 all _ (xB hn h2 _).2.1).2.2] at q;cases q.1
    ·rw [if_neg (show ¬ all.length=4 by omega),if_neg (fun q=>?_)]
     rw [(u9 all _ (u9 all _ (xB hn h1 false).2.1).2.1).2.2] at q;cases q.1
   ·-- lose
    subst q
    have e1:zJ all 10 (0+1,false) { ItV.z with op:=10 }=ly all (0+1,false) { ItV.z with op:=10 }:=by
     unfold zJ
     rw [if_neg (by decide),if_neg (by decide),if_neg (by decide),if_neg (by decide),if_pos rfl]
    have u1:zk (all.getD 0 []) plL 0=-1:=by rw [t1,if_neg (by decide)]
    have u2:zk (all.getD 0 []) snL 0=-1:=by rw [t2,if_neg (by decide)]
    have RN:zo all=if all.length=2 then (if 0≤zf (all.getD 1 []) then some { ItV.z with op:=10,n:=zf (all.getD 1 []) } else none) else none:=by
     unfold zo
     simp only [u2,t3,t4,t5,t6]
     simp
    rw [RN,u1,if_neg (show ¬ ((0:Int)≤-1∧all.length=1) from fun q=>absurd q.1 (by decide)),e1]
    unfold ly
    simp only
    by_cases h1:0+1<all.length
    ·rw [sa hn h1]
     by_cases hL:all.length=2
     ·rw [if_pos hL]
      by_cases ha:0≤zf (all.getD 1 [])
      ·have v1:nV all (0+1)=zf (all.getD 1 []):=tZ hn h1 ha
       rw [if_pos ha,if_pos ⟨by simpa using ha,hL.symm⟩,v1]
      ·rw [if_neg ha,if_neg (fun q=>by have q1:=q.1;simp at q1 ha;omega)]
     ·rw [if_neg hL,if_neg (fun q=>hL q.2.symm)]
    ·rw [if_neg (show ¬ all.length=2 by omega),if_neg (fun q=>?_)]
     rw [(xB hn h1 false).2.1] at q;cases q.1
  ·have hni:all.getD 0 []∉thL:=(sg thL 0 _).1 (by omega)
   have p1:zk (all.getD 0 []) plL 0<0:=(sg plL 0 _).2 fun q=>hni (by
    have:∀ w∈plL,w∈thL:=by decide
    exact this _ q)
   have p2:zk (all.getD 0 []) snL 0<0:=(sg snL 0 _).2 fun q=>hni (by
    have:∀ w∈snL,w∈thL:=by decide
    exact this _ q)
   have p:∀ w∈thL,all.getD 0 []≠w:=fun w q e=>hni (e ▸ q)
   have hna:zo all=none:=by
    unfold zo
    simp only
    rw [if_neg (by omega),if_neg (fun q=>p _ (by decide) q.1),if_neg (fun q=>p _ (by decide) q.1),if_neg (fun q=>p _ (by decide) q.1),if_neg (fun q=>p _ (by decide) q.1)]
   have nb:decide (k<0)=true:=decide_eq_true (by omega)
   rw [hna,if_neg (by omega),nb,if_neg (by simp)]
theorem oF (s:List Nat):zC s=yK s:=by
 by_cases h10:10∈s
 ·exact dP h10
 by_cases he:[]∈ze s
 ·exact dQ he
 have hw:zy s=ze s:=by unfold zy;rw [if_neg (fun q=>q.elim h10 he)]
 have hl:0<(ze s).length:=List.length_pos_iff.2 (yQ s)
 rw [ou,hw,if_neg (yQ s),gY he hl]
 unfold zC ipG yh
 rw [decide_eq_false h10]
 have hc:(!(ya (ze s) (0,false)).1.2 && (decide ((ya (ze s) (0,false)).1.1=(ze s).length) && !false))=true↔((ya (ze s) (0,false)).1.2=false∧(ya (ze s) (0,false)).1.1=(ze s).length):=by simp
 by_cases h1:(ya (ze s) (0,false)).1.2=false∧(ya (ze s) (0,false)).1.1=(ze s).length
 ·rw [if_pos h1,if_pos (hc.2 h1)]
 ·rw [if_neg h1,if_neg (fun q=>h1 (hc.1 q))]
end Abs
end Go.Proofs.YthgcjbniipfnbaaGreatDoor
namespace Go.Proofs.YthgcjbniipfnbaaGreatDoor
namespace Abs
set_option linter.unusedVariables false
set_option linter.unusedSimpArgs false
noncomputable def zu (t:List Nat):List Nat:=if t=[] then [45] else zP t
noncomputable def zK (o:OpV):List (List Nat) :=
 if o.op<0∨11≤o.op then [] else nmL.getD o.op.toNat []::o.path ::
  (if o.op=2∨o.op=5 then [o.to] else if o.op=6 then [zc o.off,zc o.len] else if o.op=7 then [zc o.off,zu o.data] else if o.op=8 then [zc o.len] else [])
noncomputable def zV (x:ItV):List (List Nat) :=
 if x.op<0∨14≤x.op then [] else if x.op=0 then zK x.o else thL.getD x.op.toNat [] ::
  (if x.op=2∨x.op=3∨x.op=4 then [x.name] else if x.op=5 then x.name::zK x.o else if x.op=7 then [zc x.now,zc x.n] else if x.op=9 then [zc x.dev,zc x.at',zu x.data] else if x.op=10 then [zc x.n] else [])
theorem xz {w:List Nat} (h:0≤zf w):zc (zf w)=w:=by
 obtain ⟨m,e,hw,_⟩:=(rf w _).1 ⟨rfl,h⟩
 rw [e,vC,←hw]
theorem ak {w t:List Nat} (h:zl w=some t):zu t=w:=by
 unfold zu
 rcases xd h with ⟨rfl,rfl⟩ | ⟨h1,h2,h3,h4⟩
 ·rfl
 ·rw [if_neg]
  ·exact h4
  ·rintro rfl
   rw [←h4] at h2
   exact h2 rfl
theorem hJ {w:List Nat} (h:(zl w).isSome=true):zu ((zl w).getD [])=w:=by
 cases hq:zl w with
 | none=>rw [hq] at h;cases h
 | some t=>exact ak hq
theorem oT:∀ s:List Nat,zm (ze s)=s
 | []=>rfl
 | c::r=>by
  have ih:=oT r
  unfold ze
  split
  ·rename_i hc
   cases hq:ze r with
   | nil=>exact absurd hq (yQ r)
   | cons w ws =>
    rw [hq] at ih
    show []++32::zm (w::ws)=_
    rw [ih,hc];rfl
  ·split
   ·rename_i q;exact absurd q (yQ r)
   ·rename_i w ws q
    rw [q] at ih
    cases ws with
    | nil=>show c::w=_;rw [show w=r from ih]
    | cons w2 ws2=>show (c::w)++32::zm (w2::ws2)=_;rw [←ih];rfl
theorem ZO {α:Type} {l:List α} (h:l.length=1):∃ a,l=[a]:=by
 match l,h with
 | [a],_=>exact ⟨a,rfl⟩
theorem dY {α:Type} {l:List α} (h:l.length=2):∃ a b,l=[a,b]:=by
 match l,h with
 | [a,b],_=>exact ⟨a,b,rfl⟩
theorem dX {α:Type} {l:List α} (h:l.length=3):∃ a b c,l=[a,b,c]:=by
 match l,h with
 | [a,b,c],_=>exact ⟨a,b,c,rfl⟩
theorem dW {α:Type} {l:List α} (h:l.length=4):∃ a b c d,l=[a,b,c,d]:=by
 match l,h with
 | [a,b,c,d],_=>exact ⟨a,b,c,d,rfl⟩
theorem iA {ws:List (List Nat)} {o:OpV} (h:y8 ws=some o):0≤o.op∧o.op<11∧zK o=ws:=by
 unfold y8 at h
 simp only at h
 by_cases hd:zk (ws.getD 0 []) nmL 0<0
 ·rw [if_pos hd] at h;cases h
 rw [if_neg hd] at h
 obtain ⟨q1,q2⟩:=cV (ws.getD 0 []) _ rfl (by omega)
 generalize hdd:zk (ws.getD 0 []) nmL 0=d at *
 by_cases hl:(ws.length:Int)≠manyL.getD d.toNat 0
 ·rw [if_pos hl] at h;cases h
 rw [if_neg hl] at h
 have hl:(ws.length:Int)=manyL.getD d.toNat 0:=Decidable.not_not.1 hl
 have hdc:d=0∨d=1∨d=2∨d=3∨d=4∨d=5∨d=6∨d=7∨d=8∨d=9∨d=10:=by omega
 have two:ws.length=2→o=⟨d,ws.getD 1 [],[],0,0,[]⟩→(d=0∨d=1∨d=3∨d=4∨d=9∨d=10)→0≤o.op∧o.op<11∧zK o=ws:=by
  intro e1 e2 e3
  obtain ⟨a,b,rfl⟩:=dY e1
  subst e2
  refine ⟨by show (0:Int)≤d;omega,by show d<11;omega,?_⟩
  unfold zK
  simp only
  rw [if_neg (by omega),if_neg (by omega),if_neg (by omega),if_neg (by omega),if_neg (by omega),←q2];rfl
 have three:ws.length=3→(d=2∨d=5)→o=⟨d,ws.getD 1 [],ws.getD 2 [],0,0,[]⟩→0≤o.op∧o.op<11∧zK o=ws:=by
  intro e1 e3 e2
  obtain ⟨a,b,c,rfl⟩:=dX e1
  subst e2
  refine ⟨by show (0:Int)≤d;omega,by show d<11;omega,?_⟩
  unfold zK
  simp only
  rw [if_neg (by omega),if_pos e3,←q2];rfl
 rcases hdc with q | q | q | q | q | q | q | q | q | q | q <;> subst q
 case inr.inr.inl=>exact three (by have:manyL.getD (Int.toNat 2) 0=3:=rfl;omega) (by decide) (by rw [if_pos (by decide)] at h;exact (Option.some.inj h).symm)
 case inr.inr.inr.inr.inr.inl=>exact three (by have:manyL.getD (Int.toNat 5) 0=3:=rfl;omega) (by decide) (by rw [if_pos (by decide)] at h;exact (Option.some.inj h).symm)
 case inr.inr.inr.inr.inr.inr.inl =>
  obtain ⟨a,b,c,e,rfl⟩:=dW (l:=ws) (by have:manyL.getD (Int.toNat 6) 0=4:=rfl;omega)
  rw [if_neg (by decide),if_pos rfl] at h
  by_cases hc:0≤zf ([a,b,c,e].getD 2 [])∧0≤zf ([a,b,c,e].getD 3 [])
  ·rw [if_pos hc] at h
   have e2:=(Option.some.inj h).symm
   subst e2
   refine ⟨(by decide:(0:Int)≤6),(by decide:(6:Int)<11),?_⟩
   unfold zK
   simp only
   rw [if_neg (by decide),if_neg (by decide),if_pos trivial,xz hc.1,xz hc.2,←q2];rfl
  ·rw [if_neg hc] at h;cases h
 case inr.inr.inr.inr.inr.inr.inr.inl =>
  obtain ⟨a,b,c,e,rfl⟩:=dW (l:=ws) (by have:manyL.getD (Int.toNat 7) 0=4:=rfl;omega)
  rw [if_neg (by decide),if_neg (by decide),if_pos rfl] at h
  by_cases hc:(zl ([a,b,c,e].getD 3 [])).isSome=true∧0≤zf ([a,b,c,e].getD 2 [])
  ·rw [if_pos hc] at h
   have e2:=(Option.some.inj h).symm
   subst e2
   refine ⟨(by decide:(0:Int)≤7),(by decide:(7:Int)<11),?_⟩
   unfold zK
   simp only
   rw [if_neg (by decide),if_neg (by decide),if_neg (by decide),if_pos trivial,xz hc.2,hJ hc.1,←q2];rfl
  ·rw [if_neg hc] at h;cases h
 case inr.inr.inr.inr.inr.inr.inr.inr.inl =>
  obtain ⟨a,b,c,rfl⟩:=dX (l:=ws) (by have:manyL.getD (Int.toNat 8) 0=3:=rfl;omega)
  rw [if_neg (by decide),if_neg (by decide),if_neg (by decide),if_pos rfl] at h
  by_cases hc:0≤zf ([a,b,c].getD 2 [])
  ·rw [if_pos hc] at h
   have e2:=(Option.some.inj h).symm
   subst e2
   refine ⟨(by decide:(0:Int)≤8),(by decide:(8:Int)<11),?_⟩
   unfold zK
   simp only
   rw [if_neg (by decide),if_neg (by decide),if_neg (by decide),if_neg (by decide),if_pos trivial,xz hc,←q2];rfl
  ·rw [if_neg hc] at h;cases h
 case inl=>exact two (by have:manyL.getD (Int.toNat 0) 0=2:=rfl;omega) (by rw [if_neg (by decide),if_neg (by decide),if_neg (by decide),if_neg (by decide)] at h;exact (Option.some.inj h).symm) (by decide)
 case inr.inl=>exact two (by have:manyL.getD (Int.toNat 1) 0=2:=rfl;omega) (by rw [if_neg (by decide),if_neg (by decide),if_neg (by decide),if_neg (by decide)] at h;exact (Option.some.inj h).symm) (by decide)
 case inr.inr.inr.inl=>exact two (by have:manyL.getD (Int.toNat 3) 0=2:=rfl;omega) (by rw [if_neg (by decide),if_neg (by decide),if_neg (by decide),if_neg (by decide)] at h;exact (Option.some.inj h).symm) (by decide)
 case inr.inr.inr.inr.inl=>exact two (by have:manyL.getD (Int.toNat 4) 0=2:=rfl;omega) (by rw [if_neg (by decide),if_neg (by decide),if_neg (by decide),if_neg (by decide)] at h;exact (Option.some.inj h).symm) (by decide)
 case inr.inr.inr.inr.inr.inr.inr.inr.inr.inl=>exact two (by have:manyL.getD (Int.toNat 9) 0=2:=rfl;omega) (by rw [if_neg (by decide),if_neg (by decide),if_neg (by decide),if_neg (by decide)] at h;exact (Option.some.inj h).symm) (by decide)
 case inr.inr.inr.inr.inr.inr.inr.inr.inr.inr=>exact two (by have:manyL.getD (Int.toNat 10) 0=2:=rfl;omega) (by rw [if_neg (by decide),if_neg (by decide),if_neg (by decide),if_neg (by decide)] at h;exact (Option.some.inj h).symm) (by decide)
def Zo (x:ItV) (ws:List (List Nat)):Prop:=0≤x.op∧x.op<14∧(x.op=5→0≤x.o.op∧x.o.op<11)∧zV x=ws
theorem gH {ws:List (List Nat)} {x:ItV} (h:zo ws=some x):Zo x ws:=by
 unfold zo at h
 simp only at h
 by_cases hk:2≤zk (ws.getD 0 []) snL 0
 ·rw [if_pos hk] at h
  by_cases hl:ws.length=2
  ·rw [if_pos hl] at h
   obtain ⟨a,b,rfl⟩:=dY hl
   have e2:=(Option.some.inj h).symm
   subst e2
   have h1:=vh a snL 0
   have h2:=uu snL 0 a (by change 2≤zk a snL 0 at hk;omega)
   change 2≤zk a snL 0 at hk
   have e0:zk ([a,b].getD 0 []) snL 0=zk a snL 0:=rfl
   rw [e0]
   generalize zk a snL 0=k at *
   have h3:k<5:=by have:=h1.2;simp [snL] at this;omega
   have hkc:k=2∨k=3∨k=4:=by omega
   refine ⟨by show (0:Int)≤k;omega,by show k<14;omega,fun q=>by change k=5 at q;omega,?_⟩
   unfold zV
   simp only
   rw [if_neg (by omega),if_neg (by omega),if_pos hkc]
   have h4:=h2.2
   rcases hkc with q | q | q <;> subst q <;> exact congrArg (fun w=>[w,b]) (Option.some.inj h4)
  ·rw [if_neg hl] at h;cases h
 rw [if_neg hk] at h
 by_cases h5:ws.getD 0 []=[115,101,101]∧2<ws.length
 ·rw [if_pos h5] at h
  split at h
  ·rename_i o ho
   split at h
   ·obtain ⟨r1,r2,r3⟩:=iA ho
    have e2:=(Option.some.inj h).symm
    subst e2
    refine ⟨(by decide:(0:Int)≤5),(by decide:(5:Int)<14),fun _=>⟨r1,r2⟩,?_⟩
    unfold zV
    simp only
    rw [if_neg (by decide),if_neg (by decide),if_neg (by decide),if_pos (by decide),r3]
    match ws,h5 with
    | [],h5=>exact absurd h5.2 (by simp)
    | [_],h5=>exact absurd h5.2 (by simp)
    | a::b::r,h5=>exact congrArg (fun w=>w::b::r) h5.1.symm
   ·cases h
  ·cases h
 rw [if_neg h5] at h
 by_cases h7:ws.getD 0 []=[115,116,101,112]∧ws.length=3
 ·rw [if_pos h7] at h
  obtain ⟨a,b,c,rfl⟩:=dX h7.2
  by_cases hc:0≤zf ([a,b,c].getD 1 [])∧0≤zf ([a,b,c].getD 2 [])
  ·rw [if_pos hc] at h
   have e2:=(Option.some.inj h).symm
   subst e2
   refine ⟨(by decide:(0:Int)≤7),(by decide:(7:Int)<14),fun q=>absurd (show (7:Int)=5 from q) (by decide),?_⟩
   unfold zV
   simp only
   rw [if_neg (by decide),if_neg (by decide),if_neg (by decide),if_neg (by decide),if_pos (by decide),xz hc.1,xz hc.2]
   exact congrArg (fun w=>[w,b,c]) h7.1.symm
  ·rw [if_neg hc] at h;cases h
 rw [if_neg h7] at h
 by_cases h9:ws.getD 0 []=[115,112,111,105,108]∧ws.length=4
 ·rw [if_pos h9] at h
  obtain ⟨a,b,c,e,rfl⟩:=dW h9.2
  by_cases hc:(zl ([a,b,c,e].getD 3 [])).isSome=true∧0≤zf ([a,b,c,e].getD 1 [])∧0≤zf ([a,b,c,e].getD 2 [])
  ·rw [if_pos hc] at h
   have e2:=(Option.some.inj h).symm
   subst e2
   refine ⟨(by decide:(0:Int)≤9),(by decide:(9:Int)<14),fun q=>absurd (show (9:Int)=5 from q) (by decide),?_⟩
   unfold zV
   simp only
   rw [if_neg (by decide),if_neg (by decide),if_neg (by decide),if_neg (by decide),if_neg (by decide),if_pos (by decide),xz hc.2.1,xz hc.2.2,hJ hc.1]
   exact congrArg (fun w=>[w,b,c,e]) h9.1.symm
  ·rw [if_neg hc] at h;cases h
 rw [if_neg h9] at h
 by_cases h10:ws.getD 0 []=[108,111,115,101]∧ws.length=2
 ·rw [if_pos h10] at h
  obtain ⟨a,b,rfl⟩:=dY h10.2
  by_cases hc:0≤zf ([a,b].getD 1 [])
  ·rw [if_pos hc] at h
   have e2:=(Option.some.inj h).symm
   subst e2
   refine ⟨(by decide:(0:Int)≤10),(by decide:(10:Int)<14),fun q=>absurd (show (10:Int)=5 from q) (by decide),?_⟩
   unfold zV
   simp only
   rw [if_neg (by decide),if_neg (by decide),if_neg (by decide),if_neg (by decide),if_neg (by decide),if_neg (by decide),if_pos (by decide),xz hc]
   exact congrArg (fun w=>[w,b]) h10.1.symm
  ·rw [if_neg hc] at h;cases h
 ·rw [if_neg h10] at h;cases h
theorem ZE (w:List Nat) (hw:w≠[]) (k:Int) (h:zk w plL 0=k) (h0:0≤k):(k=1∨k=6∨k=8∨k=11∨k=12∨k=13)∧w=thL.getD k.toNat []:=by
 have h1:=vh w plL 0
 have h2:=uu plL 0 w (by omega)
 rw [h] at h1 h2
 have hk:k<14:=by have:=h1.2;simp [plL] at this;omega
 have h3:=h2.2
 have hdc:k=0∨k=1∨k=2∨k=3∨k=4∨k=5∨k=6∨k=7∨k=8∨k=9∨k=10∨k=11∨k=12∨k=13:=by omega
 rcases hdc with q | q | q | q | q | q | q | q | q | q | q | q | q | q <;> subst q <;> first | exact absurd (Option.some.inj h3).symm hw | exact ⟨by decide,(Option.some.inj h3).symm⟩
theorem aH {ws:List (List Nat)} (hw:ws.getD 0 []≠[]) {x:ItV} (h:rpG ws=(x,0)):Zo x ws:=by
 unfold rpG at h
 simp only at h
 by_cases hk:0≤zk (ws.getD 0 []) plL 0∧ws.length=1
 ·rw [if_pos hk] at h
  obtain ⟨k1,k2⟩:=ZE _ hw _ rfl hk.1
  obtain ⟨a,rfl⟩:=ZO hk.2
  have e2:=(Prod.mk.inj h).1.symm
  subst e2
  generalize zk ([a].getD 0 []) plL 0=k at *
  refine ⟨by show (0:Int)≤k;omega,by show k<14;omega,fun q=>by change k=5 at q;omega,?_⟩
  unfold zV
  simp only
  rw [if_neg (by omega),if_neg (by omega),if_neg (by omega),if_neg (by omega),if_neg (by omega),if_neg (by omega),if_neg (by omega),←k2];rfl
 rw [if_neg hk] at h
 split at h
 ·rename_i o ho
  obtain ⟨r1,r2,r3⟩:=iA ho
  have e2:=(Prod.mk.inj h).1.symm
  subst e2
  refine ⟨(by decide:(0:Int)≤0),(by decide:(0:Int)<14),fun q=>absurd (show (0:Int)=5 from q) (by decide),?_⟩
  unfold zV
  simp only
  rw [if_neg (by decide),if_pos (by decide)];exact r3
 ·split at h
  ·rename_i y hy
   obtain rfl:=(Prod.mk.inj h).1
   exact gH hy
  ·have:=(Prod.mk.inj h).2;cases this
theorem mG {s:List Nat} {x:ItV} (h:zC s=(x,0)):0≤x.op∧x.op<14∧(x.op=5→0≤x.o.op∧x.o.op<11)∧zm (zV x)=s:=by
 rw [oF,ou] at h
 by_cases hc:10∈s∨[]∈ze s
 ·have hw:zy s=[]:=by unfold zy;rw [if_pos hc]
  rw [hw,if_pos rfl] at h
  have:=(Prod.mk.inj h).2;cases this
 have hw:zy s=ze s:=by unfold zy;rw [if_neg hc]
 rw [hw,if_neg (yQ s)] at h
 have hn:[]∉ze s:=fun q=>hc (.inr q)
 obtain ⟨q1,q2,q3,q4⟩:=aH (get_ne hn (List.length_pos_iff.2 (yQ s))) h
 exact ⟨q1,q2,q3,by rw [q4,oT]⟩
end Abs
end Go.Proofs.YthgcjbniipfnbaaGreatDoor
