/- Shell's reference: digits, places, words. Shell's reference: a line's words. Shell's reference: hex, a word's number. Shell's reference: a word's bytes. Shell's reference: an op's words. Shell's reference: see, snap, rollback, destroy, step, spoil, lose. Shell's reference: Parse. -/
import Derived.Test.YthgcjbniipfnbaaGreatDoorH13
namespace Go.Proofs.YthgcjbniipfnbaaGreatDoor
namespace Abs
set_option linter.unusedVariables false
set_option linter.unusedSimpArgs false
open Go.RowKit
attribute [local irreducible] WO WC WD StepK Ans Does Runs DoesD
def yd (n:Nat):List Nat:=ofU (Lib.decDigits n)
theorem yP {n:Nat} (h:n<10):yd n=[48+n]:=by
 unfold yd
 rw [Lib.decDigits,dif_pos h]
 simp [ofU];omega
theorem wA {n:Nat} (h:¬ n<10):yd n=yd (n / 10)++[48+n % 10]:=by
 unfold yd
 rw [Lib.decDigits,dif_neg h]
 simp [ofU];omega
theorem cC:∀ (n:Nat),n≤9223372036854775807→(yd n).length≤19:=by
 have key:∀ (k n:Nat),n<10 ^ (k+1)→(yd n).length≤k+1:=by
  intro k
  induction k with
  | zero=>intro n hn;rw [yP (by simpa using hn)];simp
  | succ k ih =>
   intro n hn
   by_cases h:n<10
   ·rw [yP h];simp
   ·rw [wA h]
    have:=ih (n / 10) (by rw [Nat.pow_succ] at hn;omega)
    simp;omega
 intro n hn
 exact key 18 n (by omega)
section
variable {C:Cfg} (S:StdL C)
include S
theorem sB:∀ (n:Nat) (h:Heap),Wf h→n≤9223372036854775807→Ans C 59 [jv n] h fun v h'=>v=.str (yd n)∧Grow h h':=by
 intro n
 induction n using Nat.strongRecOn with
 | _ n ih =>
 intro h hw hn
 have hF:C.F 59=some a59:=S.f rfl
 unfold a59 at hF
 refine Ans.val (fun _ _=>S.s _ _ _ rfl) hF rfl rfl hw fun h2 g=>?_
 clear hF
 have e1:zi .rem (jv n) (jv 10)=some (jv ((n % 10:Nat):Int)):=by
  show some (V.int .i64 ((n:Int).tmod 10))=_
  rw [Int.tmod_eq_emod_of_nonneg (by omega)];rfl
 have e3:yW (h2.push (.cells [bv (48+n % 10)] (.tip [] 0 (some 5)))) (.slice (some (h2.size,0)) 1 1)=some (.str [48+n % 10]):=by
  have c:=Cl.new h2 ([48+n % 10].map bv) (some 5)
  exact pA c rfl (by intro x hx;simp at hx;omega)
 refine WC.seqO<|omv rfl<|WO.nil<|WC.seqO<|omv rfl<|obn rfl rfl e1<|oad rfl rfl (by omega) ?_
 refine WO.ops (StepK.toInt (m:=Int.ofNat (48+n % 10)) rfl (by rw [vl (by omega) (by omega)];simp))<|WO.ops (StepK.buildSl rfl rfl) ?_
 have g3:=g.push (.cells [bv (48+n % 10)] (.tip [] 0 (some 5)))
 change WO C _ _ (h2.push (.cells [bv (48+n % 10)] (.tip [] 0 (some 5)))) _
 generalize h2.push (.cells [bv (48+n % 10)] (.tip [] 0 (some 5)))=h3 at *
 refine WO.ops (StepK.toStr rfl e3)<|omv rfl<|WO.nil<|WC.seq<|WC.seqO<|omv rfl ?_
 by_cases h10:n<10
 ·refine obn rfl rfl (geF (by omega))<|WO.nil<|WC.cond rfl (fun hc=>by cases hc) (fun hc=>WC.skip<|WC.seqO<|omv rfl<|omv rfl<|WO.nil<|WC.ret ⟨trivial,g3,?_⟩)
  rw [yP h10,Nat.mod_eq_of_lt h10];rfl
 ·have e2:zi .quo (jv n) (jv 10)=some (jv ((n / 10:Nat):Int)):=by
   show some (V.int .i64 (IntKind.i64.wrap ((n:Int).tdiv 10)))=_
   rw [Int.tdiv_eq_ediv_of_nonneg (by omega),StepK.wrap64 (by omega) (by omega)];rfl
  refine obn rfl rfl (geT (by omega))<|WO.nil<|WC.cond rfl (fun hc=>WC.ops<|omv rfl<|obn rfl rfl e2 ?_) (fun hc=>by cases hc)
  refine WO.call rfl rfl (ih (n / 10) (by omega) h3 g3.wf (by omega)) ?_
  rintro _ h4 ⟨rfl,g4⟩
  have hlen:=cC (n / 10) (by omega)
  have e4:zi .add (.str (yd (n / 10))) (.str [48+n % 10])=some (.str (yd n)):=by
   simp only [zi]
   rw [if_pos (by simp;omega),wA h10]
  exact omv rfl<|obn rfl rfl e4<|omv rfl<|WO.nil<|WC.seqO<|omv rfl<|omv rfl<|WO.nil<|WC.ret ⟨trivial,g3.trans g4,rfl⟩
theorem rn (h:Heap) (hw:Wf h) (x:V) (ts:List (List Nat)) (w:List Nat) (sx:Sl h 1 x (zB ts)) (hn:ts.length≤1000000):Ans C 23 [x,.str w] h fun v h'=>v=jv (zk w ts 0)∧Grow h h':=by
 have hF:C.F 23=some a23:=S.f rfl
 unfold a23 at hF
 refine Ans.val (fun _ _=>S.s _ _ _ rfl) hF rfl rfl hw fun h2 g=>?_
 clear hF
 have s2:=sx.grow g
 have hlen:zw x=some ts.length:=by have:=s2.len;simpa using this
 refine WC.seqO<|omv rfl<|WO.nil<|WC.seq<|WC.seqO<|omv rfl<|WO.nil<|WC.block ?_
 refine WC.loop (σ:=Nat) (fun j=>[(0,x),(1,.str w),(5,jv j)]) (fun j h'=>j≤ts.length∧h'=h2∧zk w ts 0=zk w (ts.drop j) j) (fun j=>ts.length-j) 0
  (Cov.cons rfl (Cov.cons rfl (Cov.cons rfl (Cov.nil _)))) ⟨Nat.zero_le _,rfl,rfl⟩ ?_
 rintro j _ ⟨hj,rfl,hI⟩
 refine WC.seq<|WC.seqO<|omv rfl<|omv rfl<|ols rfl hlen ?_
 by_cases hlt:j<ts.length
 ·refine obn rfl rfl (ltT (by omega))<|WO.nil<|WC.cond rfl (fun hc=>WC.skip ?_) (fun hc=>by cases hc)
  obtain ⟨c,o,k1,k2⟩:=s2.at (i:=j) (by simpa using hlt)
  rw [List.getElem_map] at k2
  have k3:Heap.rd _ c o=some (.str ts[j]):=kq k2 (j:=0) rfl
  rw [List.drop_eq_getElem_cons hlt,vD] at hI
  generalize ts[j]=t at *
  refine WC.seq<|WC.block<|WC.seqO<|omv rfl<|omv rfl<|WO.ops (StepK.idxSl rfl rfl k1)<|old rfl k3<|omv rfl ?_
  by_cases he:w=t
  ·rw [if_pos he] at hI
   exact obn rfl rfl (seT he.symm)<|WO.nil<|WC.cond rfl (fun hc=>WC.seqO<|omv rfl<|omv rfl<|WO.nil<|WC.ret ⟨trivial,g,by rw [hI];rfl⟩) (fun hc=>by cases hc)
  ·rw [if_neg he] at hI
   exact obn rfl rfl (seF (fun q=>he q.symm))<|WO.nil<|WC.cond rfl (fun hc=>by cases hc) (fun hc=>WC.skip<|WC.ops<|omv rfl<|oad rfl rfl (by omega)<|omv rfl<|WO.nil ⟨j+1,Cov.cons rfl (Cov.cons rfl (Cov.cons rfl (Cov.nil _))),⟨hlt,rfl,hI⟩,by omega⟩)
 ·rw [List.drop_eq_nil_of_le (by omega)] at hI
  exact obn rfl rfl (ltF (by omega))<|WO.nil<|WC.cond rfl (fun hc=>by cases hc) (fun hc=>WC.exit<|WC.seqO<|omv rfl<|WO.nil<|WC.ret ⟨trivial,g,by rw [hI];rfl⟩)
end
end Abs
end Go.Proofs.YthgcjbniipfnbaaGreatDoor
namespace Go.Proofs.YthgcjbniipfnbaaGreatDoor
namespace Abs
set_option linter.unusedVariables false
set_option linter.unusedSimpArgs false
open Go.RowKit
attribute [local irreducible] WO WC WD StepK Ans Does Runs DoesD
def wgo:List Nat→List Nat→List (List Nat)→List (List Nat)
 | [],cur,out=>if cur=[] then [] else out++[cur]
 | c::r,cur,out=>if c=10 then [] else if c=32 then (if cur=[] then [] else wgo r [] (out++[cur])) else wgo r (cur++[c]) out
def zy (s:List Nat):List (List Nat):=if 10∈s∨[]∈ze s then [] else ze s
def xD (cur s:List Nat):List (List Nat):=match ze s with
 | []=>[cur]
 | w::ws=>(cur++w)::ws
theorem lQ:∀ (s cur:List Nat) (out:List (List Nat)),wgo s cur out=if 10∈s∨[]∈xD cur s then [] else out++xD cur s
 | [],cur,out=>by
  simp only [wgo,xD,ze]
  by_cases hc:cur=[]
  ·subst hc;simp
  ·simp [hc,Ne.symm hc]
 | c :: r,cur,out=>by
  by_cases h10:c=10
  ·subst h10;simp [wgo]
  ·by_cases h32:c=32
   ·subst h32
    have e1:xD cur (32::r)=cur::ze r:=by simp [xD,ze]
    have e2:xD [] r=ze r:=by
     unfold xD
     cases hq:ze r with
     | nil=>exact absurd hq (yQ r)
     | cons w ws=>simp
    rw [e1]
    unfold wgo
    rw [if_neg h10,if_pos rfl]
    by_cases hc:cur=[]
    ·subst hc;simp
    ·rw [if_neg hc,lQ r [] _,e2]
     have m1:(10∈32::r)=(10∈r):=by simp
     have m2:([]∈cur::ze r)=([]∈ze r):=by simp [Ne.symm hc]
     simp only [m1,m2]
     split
     ·rfl
     ·simp
   ·have e1:xD cur (c::r)=xD (cur++[c]) r:=by
     unfold xD
     rw [ze,if_neg h32]
     cases hq:ze r with
     | nil=>exact absurd hq (yQ r)
     | cons w ws=>simp
    rw [e1]
    unfold wgo
    rw [if_neg h10,if_neg h32,lQ r _ _]
    have m1:(10∈c::r)=(10∈r):=by simp [Ne.symm h10]
    simp only [m1]
theorem fM (s:List Nat):wgo s [] []=zy s:=by
 rw [lQ]
 have e2:xD [] s=ze s:=by
  unfold xD
  cases hq:ze s with
  | nil=>exact absurd hq (yQ s)
  | cons w ws=>simp
 rw [e2]
 unfold zy
 simp
section
variable {C:Cfg} (S:StdL C)
include S
theorem fJ (h:Heap) (hw:Wf h) (s:List Nat) (hb:Byt s) (hs:s.length≤1000000):Ans C 22 [.str s] h fun v h'=>Grown h' h.size 1 v (zB (zy s))∧Grow h h':=by
 have hF:C.F 22=some a22:=S.f rfl
 unfold a22 at hF
 refine Ans.fn (fun _ _=>S.s _ _ _ rfl) hF rfl rfl hw fun h2 g=>?_
 clear hF
 have fin:∀ (h3:Heap) (e':List (Nat × V)) (x:V),Grow h h3→Env.get e' 2=some x→Grown h3 h.size 1 x (zB (zy s))→Fin .ret∧Wf h3∧∃ v,yo e' h3 [.tmp 2]=some v∧(∀ h4,Grow h3 h4→Grown h4 h.size 1 v (zB (zy s))∧Grow h h4)∧(v.scopd h.size=true→Grown h h.size 1 v (zB (zy s))∧Grow h h):=by
  intro h3 e' x g3 e2 gx
  refine ⟨trivial,g3.wf,x,?_,fun h4 g4=>⟨gx.grow g4,g3.trans g4⟩,fun hq=>⟨gx.scopd hq h,Grow.refl hw⟩⟩
  simp only [yo,yE,wO,e2,zq]
 refine WC.seqO<|omv rfl<|WO.nil<|WC.seqO<|omv rfl<|WO.nil<|WC.seqO<|omv rfl<|WO.nil<|WC.seq<|WC.seqO<|omv rfl<|WO.nil<|WC.block ?_
 refine WC.loop (σ:=Nat × Nat × V) (fun z=>[(0,.str s),(3,z.2.2),(4,jv z.2.1),(5,jv z.1)])
  (fun z h'=>z.1≤s.length+1∧z.2.1≤z.1∧Grow h h'∧∃ out,Grown h' h.size 1 z.2.2 (zB out)∧out.length≤z.1∧zy s=if z.1=s.length+1 then out else wgo (s.drop z.1) ((s.drop z.2.1).take (z.1-z.2.1)) out) (fun z=>s.length+1-z.1) (0,0,.slice none 0 0)
  (Cov.cons rfl (Cov.cons rfl (Cov.cons rfl (Cov.cons rfl (Cov.nil _))))) ⟨by simp,Nat.le_refl _,g,[],Grown.nil _ _ _,by simp,by rw [if_neg (by simp),←fM];simp⟩ ?_
 rintro ⟨i,a,x⟩ h3 ⟨hi,ha,g3,out,gx,hol,hI⟩
 simp only at hi ha g3 gx hol hI
 refine WC.seq<|WC.seqO<|omv rfl<|omv rfl<|olt rfl ?_
 by_cases hle:i≤s.length
 ·rw [if_neg (by omega)] at hI
  refine obn rfl rfl (kW (by omega))<|WO.nil<|WC.cond rfl (fun hc=>WC.skip ?_) (fun hc=>by cases hc)
  refine WC.seq<|WC.block<|WC.seq<|WC.seqO<|omv rfl<|omv rfl<|olt rfl ?_
  have sl:xr (.str s) (some (jv a)) (some (jv i))=some (.str ((s.drop a).take (i-a))):=by
   simp only [xr,ye,yp]
   rw [if_pos ⟨by omega,by omega⟩]
   simp only [Int.toNat_natCast]
   rw [if_pos ⟨by omega,by omega⟩]
  have hcur:((s.drop a).take (i-a)).length=i-a:=by simp;omega
  -- a word ends here
  have endw:∀ e',Cov [(0,.str s),(3,x),(4,jv a),(5,jv i)] e'→(i≠s.length→s.getD i 0=32)→WC C (.seq (.seq (.ops [⟨(some 32),none,.mv (.t 5)⟩,⟨(some 33),none,.mv (.t 4)⟩,⟨(some 34),none,.bin .eql (.t 32) (.t 33)⟩]) (.cond (.t 34) (.seq (.ops [⟨(some 2),none,.mv (.c (.slice none 0 0))⟩]) (.ret)) (.skip)))
    (.seq (.ops [⟨(some 35),none,.mv (.t 3)⟩,⟨(some 36),none,.mv (.t 0)⟩,⟨(some 37),none,.mv (.t 4)⟩,⟨(some 38),none,.mv (.t 5)⟩,⟨(some 39),none,.sliceStr (.t 36) (some (.t 37)) (some (.t 38))⟩,⟨(some 40),none,.buildSl (some 9) [(.str [])] 1 [(0,1,(.t 39))]⟩,⟨(some 41),none,.append 1 16 (some 9) (.t 35) (.t 40)⟩,⟨(some 3),none,.mv (.t 41)⟩])
     (.ops [⟨(some 42),none,.mv (.t 5)⟩,⟨(some 43),none,.bin .add (.t 42) (.c (.int .i64 (1)))⟩,⟨(some 4),none,.mv (.t 43)⟩]))) e' h3 fun y e' h'=>match y with
     | .normal=>∃ x',Cov [(0,.str s),(3,x'),(4,jv ((i+1:Nat):Int)),(5,jv i)] e'∧Grow h h'∧∃ out',Grown h' h.size 1 x' (zB out')∧out'.length≤i+1∧zy s=if i+1=s.length+1 then out' else wgo (s.drop (i+1)) [] out'
     | .ret=>Fin .ret∧Wf h'∧∃ v,yo e' h' [.tmp 2]=some v∧(∀ h4,Grow h' h4→Grown h4 h.size 1 v (zB (zy s))∧Grow h h4)∧(v.scopd h.size=true→Grown h h.size 1 v (zB (zy s))∧Grow h h)
     | .exit _=>False:=by
   intro e' ke h32
   refine WC.cov ke ?_
   refine WC.seq<|WC.seqO<|omv rfl<|omv rfl ?_
   by_cases hia:i=a
   ·refine obn rfl rfl (eqT (by omega))<|WO.nil<|WC.cond rfl (fun hc=>WC.seqO<|omv rfl<|WO.nil<|WC.ret<|fin h3 _ _ g3 rfl ?_) (fun hc=>by cases hc)
    have hw0:zy s=[]:=by
     rw [hI,hia,Nat.sub_self,List.take_zero]
     by_cases he:a=s.length
     ·rw [List.drop_eq_nil_of_le (by omega)];rfl
     ·have hlt:a<s.length:=by omega
      rw [List.drop_eq_getElem_cons hlt]
      have:s[a]=32:=by
       have:=h32 (by omega)
       rw [hia,List.getD_eq_getElem?_getD,List.getElem?_eq_getElem hlt] at this
       exact this
      rw [this];rfl
    rw [hw0];exact Grown.nil _ _ _
   ·refine obn rfl rfl (eqF (by omega))<|WO.nil<|WC.cond rfl (fun hc=>by cases hc) (fun hc=>WC.skip ?_)
    refine WC.seqO<|omv rfl<|omv rfl<|omv rfl<|omv rfl<|WO.ops (StepK.sliceStr rfl rfl rfl sl)<|WO.ops (StepK.buildSl rfl rfl) ?_
    have gp:=(Grow.refl g3.wf).push (.cells [.str ((s.drop a).take (i-a))] (.tip [] 0 (some 9)))
    have sy:Sl (h3.push (.cells [.str ((s.drop a).take (i-a))] (.tip [] 0 (some 9)))) 1 (.slice (some (h3.size,0)) 1 1) [[.str ((s.drop a).take (i-a))]]:=sV (zg _ _) rfl
    change WO C _ _ (h3.push (.cells [.str ((s.drop a).take (i-a))] (.tip [] 0 (some 9)))) _
    have g4:=g3.trans gp
    have gx4:=gx.grow gp
    generalize h3.push (.cells [.str ((s.drop a).take (i-a))] (.tip [] 0 (some 9)))=h4 at *
    obtain ⟨v,h5,a1,a2,a3⟩:=Grown.append (bytes:=16) (tyK:=some 9) hw g4 gx4 sy (by decide) (by decide) (decide_eq_true (by simp;omega)) (by simp [V.one])
    refine WO.ops (StepK.append rfl rfl a1)<|omv rfl<|WO.nil<|WC.ops<|omv rfl<|oad rfl rfl (by omega)<|omv rfl<|WO.nil ⟨v,Cov.cons rfl (Cov.cons rfl (Cov.cons rfl (Cov.cons rfl (Cov.nil _)))),a3,out++[(s.drop a).take (i-a)],?_,by simp;omega,?_⟩
    ·have:zB (out++[(s.drop a).take (i-a)])=zB out++[[.str ((s.drop a).take (i-a))]]:=by simp [zB]
     rw [this];exact a2
    ·have hne:(s.drop a).take (i-a)≠[]:=by intro q;rw [q] at hcur;simp at hcur;omega
     rw [hI]
     by_cases he:i=s.length
     ·rw [if_pos (by omega),List.drop_eq_nil_of_le (by omega)]
      unfold wgo;rw [if_neg hne]
     ·rw [if_neg (by omega)]
      have hlt:i<s.length:=by omega
      rw [List.drop_eq_getElem_cons hlt]
      have:s[i]=32:=by
       have:=h32 (by omega)
       rw [List.getD_eq_getElem?_getD,List.getElem?_eq_getElem hlt] at this
       exact this
      rw [this]
      conv=>lhs;unfold wgo
      rw [if_neg (by decide),if_pos rfl,if_neg hne]
  have onw:∀ (x':V) (e':List (Nat × V)) (h':Heap),Cov [(0,.str s),(3,x'),(4,jv ((i+1:Nat):Int)),(5,jv i)] e'→Grow h h'→(∃ out',Grown h' h.size 1 x' (zB out')∧out'.length≤i+1∧zy s=if i+1=s.length+1 then out' else wgo (s.drop (i+1)) [] out') →
    WC C (.ops [⟨(some 10),none,.mv (.t 5)⟩,⟨(some 11),none,.bin .add (.t 10) (.c (.int .i64 (1)))⟩,⟨(some 5),none,.mv (.t 11)⟩]) e' h' fun y e' h'=>y=.normal∧∃ z:Nat × Nat × V,Cov [(0,.str s),(3,z.2.2),(4,jv z.2.1),(5,jv z.1)] e'∧(z.1≤s.length+1∧z.2.1≤z.1∧Grow h h'∧∃ out,Grown h' h.size 1 z.2.2 (zB out)∧out.length≤z.1∧zy s=if z.1=s.length+1 then out else wgo (s.drop z.1) ((s.drop z.2.1).take (z.1-z.2.1)) out)∧s.length+1-z.1<s.length+1-i:=by
   intro x' e' h' ke g' ⟨out',q1,q2,q3⟩
   refine WC.cov ke ?_
   refine WC.ops<|omv rfl<|oad rfl rfl (by omega)<|omv rfl<|WO.nil ⟨rfl,(i+1,i+1,x'),Cov.cons rfl (Cov.cons rfl (Cov.cons rfl (Cov.cons rfl (Cov.nil _)))),⟨by simp only;omega,by simp only;omega,g',out',q1,q2,?_⟩,by simp only;omega⟩
   simp only [Nat.sub_self,List.take_zero]
   exact q3
  by_cases hlt:i<s.length
  ·have hat:xF (.str s) (jv i)=some (.int .u8 (Int.ofNat (s.getD i 0))):=wK (by omega) (by simpa using hlt)
   have hgd:s.getD i 0=s[i]:=by rw [List.getD_eq_getElem?_getD,List.getElem?_eq_getElem hlt];rfl
   refine obn rfl rfl (ltT (by omega))<|omv rfl<|WO.run rfl<|omv rfl<|WO.run rfl<|omv rfl<|WO.run rfl<|WO.ops (StepK.atStr rfl rfl hat)<|WO.run rfl ?_
   rw [List.drop_eq_getElem_cons hlt,←hgd] at hI
   generalize hc:s.getD i 0=c at *
   by_cases h10:c=10
   ·refine obn rfl rfl (cd (by show Int.ofNat c=10;simp;omega))<|opt rfl rfl<|WO.nil<|WC.cond rfl (fun hc=>WC.seqO<|omv rfl<|WO.nil<|WC.ret<|fin h3 _ _ g3 rfl ?_) (fun hc=>by cases hc)
    have hw0:zy s=[]:=by rw [hI];unfold wgo;rw [if_pos h10]
    rw [hw0];exact Grown.nil _ _ _
   refine obn rfl rfl (ce (by show ¬ Int.ofNat c=10;simp;omega))<|opt rfl rfl<|WO.nil<|WC.cond rfl (fun hc=>by cases hc) (fun hc=>WC.skip ?_)
   refine WC.seqO<|omv rfl<|omv rfl<|olt rfl<|obn rfl rfl (eqF (by omega))<|omv rfl<|WO.run rfl<|omv rfl<|WO.run rfl<|omv rfl<|WO.run rfl<|WO.ops (StepK.atStr rfl rfl hat)<|WO.run rfl ?_
   by_cases h32:c=32
   ·refine obn rfl rfl (cd (by show Int.ofNat c=32;simp;omega))<|opf rfl rfl<|WO.nil<|WC.cond rfl (fun hc=>?_) (fun hc=>by cases hc)
    refine (endw _ (Cov.cons rfl (Cov.cons rfl (Cov.cons rfl (Cov.cons rfl (Cov.nil _))))) (fun _=>h32)).mono fun y e' h' q=>?_
    cases y with
    | normal =>
     obtain ⟨x',ke,g',q'⟩:=q
     refine (onw x' e' h' ke g' q').mono fun y e2 h2 ⟨hy,q2⟩=>?_
     subst hy;exact q2
    | ret=>exact q
    | exit id=>exact q.elim
   ·refine obn rfl rfl (ce (by show ¬ Int.ofNat c=32;simp;omega))<|opf rfl rfl<|WO.nil<|WC.cond rfl (fun hc=>by cases hc) (fun hc=>WC.skip ?_)
    refine WC.ops<|omv rfl<|oad rfl rfl (by omega)<|omv rfl<|WO.nil ⟨(i+1,a,x),Cov.cons rfl (Cov.cons rfl (Cov.cons rfl (Cov.cons rfl (Cov.nil _)))),⟨by simp only;omega,by simp only;omega,g3,out,gx,by simp only;omega,?_⟩,by simp only;omega⟩
    simp only
    have hcat:(s.drop a).take (i+1-a)=(s.drop a).take (i-a)++[c]:=by
     have hd:i-a<(s.drop a).length:=by simp;omega
     rw [show i+1-a=(i-a)+1 by omega,List.take_succ_eq_append_getElem hd]
     congr 2
     rw [List.getElem_drop]
     rw [hgd]
     congr 1;omega
    rw [hI,hcat]
    conv=>lhs;unfold wgo
    rw [if_neg h10,if_neg h32]
    by_cases he:i+1=s.length+1
    ·omega
    ·rw [if_neg he]
  ·obtain rfl:i=s.length:=by omega
   refine obn rfl rfl (ltF (by omega))<|omv rfl<|WO.skip rfl rfl<|WO.skip rfl rfl<|WO.skip rfl rfl<|WO.skip rfl rfl<|opf rfl rfl<|WO.nil<|WC.cond rfl (fun hc=>by cases hc) (fun hc=>WC.skip ?_)
   refine WC.seqO<|omv rfl<|omv rfl<|olt rfl<|obn rfl rfl (eqT rfl)<|omv rfl<|WO.skip rfl rfl<|WO.skip rfl rfl<|WO.skip rfl rfl<|WO.skip rfl rfl<|opt rfl rfl<|WO.nil<|WC.cond rfl (fun hc=>?_) (fun hc=>by cases hc)
   refine (endw _ (Cov.cons rfl (Cov.cons rfl (Cov.cons rfl (Cov.cons rfl (Cov.nil _))))) (fun q=>absurd rfl q)).mono fun y e' h' q=>?_
   cases y with
   | normal =>
    obtain ⟨x',ke,g',q'⟩:=q
    refine (onw x' e' h' ke g' q').mono fun y e2 h2 ⟨hy,q2⟩=>?_
    subst hy;exact q2
   | ret=>exact q
   | exit id=>exact q.elim
 ·obtain rfl:i=s.length+1:=by omega
  rw [if_pos rfl] at hI
  refine obn rfl rfl (kY (by omega))<|WO.nil<|WC.cond rfl (fun hc=>by cases hc) (fun hc=>WC.exit<|WC.seqO<|omv rfl<|omv rfl<|WO.nil<|WC.ret<|fin h3 _ x g3 rfl (by rw [hI];exact gx))
end
end Abs
end Go.Proofs.YthgcjbniipfnbaaGreatDoor
namespace Go.Proofs.YthgcjbniipfnbaaGreatDoor
namespace Abs
set_option linter.unusedVariables false
set_option linter.unusedSimpArgs false
open Go.RowKit
attribute [local irreducible] WO WC WD StepK Ans Does Runs DoesD
theorem ZD {c:Nat} (h:c<256):zi .quo (bv c) (.int .u8 16)=some (bv (c / 16)):=by
 show some (V.int .u8 (IntKind.u8.wrap ((c:Int).tdiv 16)))=_
 rw [Int.tdiv_eq_ediv_of_nonneg (by omega),vl (by omega) (by omega)];rfl
theorem ZC {c:Nat} (h:c<256):zi .rem (bv c) (.int .u8 16)=some (bv (c % 16)):=by
 show some (V.int .u8 ((c:Int).tmod 16))=_
 rw [Int.tmod_eq_emod_of_nonneg (by omega)];rfl
section
variable {C:Cfg} (S:StdL C)
include S
theorem pG (h:Heap) (hw:Wf h) (s:List Nat) (hs:s.length≤1000000) (hb:Byt s):Ans C 60 [.str s] h fun v h'=>v=.str (zP s)∧Grow h h':=by
 have hF:C.F 60=some a60:=S.f rfl
 unfold a60 at hF
 refine Ans.val (fun _ _=>S.s _ _ _ rfl) hF rfl rfl hw fun h2 g=>?_
 clear hF
 refine WC.seqO<|omv rfl<|WO.nil<|WC.seqO<|omv rfl<|WO.nil<|WC.seqO<|omv rfl<|WO.nil<|WC.seq<|WC.seqO<|omv rfl<|WO.nil<|WC.block ?_
 refine WC.loop (σ:=Nat × V) (fun z=>[(0,.str s),(3,.str [48,49,50,51,52,53,54,55,56,57,97,98,99,100,101,102]),(4,z.2),(5,jv z.1)]) (fun z h'=>z.1≤s.length∧Grow h h'∧Grown h' h.size 1 z.2 (bvs (zP (s.take z.1)))) (fun z=>s.length-z.1) (0,.slice none 0 0)
  (Cov.cons rfl (Cov.cons rfl (Cov.cons rfl (Cov.cons rfl (Cov.nil _))))) ⟨Nat.zero_le _,g,Grown.nil _ _ _⟩ ?_
 rintro ⟨j,x⟩ h3 ⟨hj,g3,gx⟩
 simp only at hj g3 gx
 refine WC.seq<|WC.seqO<|omv rfl<|omv rfl<|olt rfl ?_
 by_cases hlt:j<s.length
 ·refine obn rfl rfl (ltT (by omega))<|WO.nil<|WC.cond rfl (fun hc=>WC.skip ?_) (fun hc=>by cases hc)
  have hbj:s.getD j 0<256:=by
   rw [List.getD_eq_getElem?_getD,List.getElem?_eq_getElem hlt]
   exact hb _ (List.getElem_mem hlt)
  have htk:s.take (j+1)=s.take j++[s.getD j 0]:=by
   rw [List.take_succ_eq_append_getElem hlt,List.getD_eq_getElem?_getD,List.getElem?_eq_getElem hlt];rfl
  have at1:xF (.str s) (jv j)=some (bv (s.getD j 0)):=wK (by omega) (by simpa using hlt)
  have hl3:(zP (s.take j)).length=2*j:=by rw [yM,List.length_take];omega
  generalize s.getD j 0=c at *
  refine WC.seq<|WC.block<|WC.draw<|dmv rfl<|dmv rfl<|dmv rfl<|dmv rfl<|WD.pure (StepK.atStr rfl rfl at1) rfl<|dbn rfl rfl (ZD hbj)<|WD.pure (StepK.atStr rfl rfl (wK (Int.natCast_nonneg (c / 16)) (by simp;omega))) rfl<|dmv rfl<|dmv rfl<|dmv rfl<|WD.pure (StepK.atStr rfl rfl at1) rfl<|dbn rfl rfl (ZC hbj)<|WD.pure (StepK.atStr rfl rfl (wK (Int.natCast_nonneg (c % 16)) (by simp;omega))) rfl ?_
  refine WD.alloc rfl (StepK.buildSl rfl rfl) ?_
  change WD C _ _ _ _ (h3.push (.cells [bv (hx (c / 16)),bv (hx (c % 16))] (.tip [] 0 (some 5)))) _
  have gp:=(Grow.refl g3.wf).push (.cells [bv (hx (c / 16)),bv (hx (c % 16))] (.tip [] 0 (some 5)))
  have hnew:(h3.push (.cells [bv (hx (c / 16)),bv (hx (c % 16))] (.tip [] 0 (some 5)))).get h3.size=some (.cells [bv (hx (c / 16)),bv (hx (c % 16))] (.tip [] 0 (some 5))):=zg _ _
  have sy:Sl (h3.push (.cells [bv (hx (c / 16)),bv (hx (c % 16))] (.tip [] 0 (some 5)))) 1 (.slice (some (h3.size,0)) 2 2) (bvs [hx (c / 16),hx (c % 16)]):=by
   refine ⟨by simp [bvs],rfl,Nat.le_refl _,fun _=>?_⟩
   rw [jy]
   exact ve hnew rfl
  have g4:=g3.trans gp
  have gx4:=gx.grow gp
  generalize h3.push (.cells [bv (hx (c / 16)),bv (hx (c % 16))] (.tip [] 0 (some 5)))=h4 at *
  obtain ⟨v,h5,a1,a2,a3⟩:=Grown.append (bytes:=1) (tyK:=some 5) hw g4 gx4 sy (by decide) (by decide) (re (by simp [hl3];omega)) (by simp [bvs,V.one])
  refine WD.opC ⟨hnew,trivial⟩ rfl (StepK.append rfl rfl a1)<|dmv rfl<|WD.nil (by repeat (first | exact trivial | refine ⟨by with_reducible assumption,?_⟩))<|WC.ops<|omv rfl<|oad rfl rfl (by omega)<|omv rfl<|WO.nil ⟨(j+1,v),Cov.cons rfl (Cov.cons rfl (Cov.cons rfl (Cov.cons rfl (Cov.nil _)))),⟨hlt,a3,?_⟩,by simp only;omega⟩
  have:bvs (zP (s.take (j+1)))=bvs (zP (s.take j))++bvs [hx (c / 16),hx (c % 16)]:=by rw [htk,si,sh];simp [bvs]
  rw [this];exact a2
 ·rw [List.take_of_length_le (by omega)] at gx
  refine obn rfl rfl (ltF (by omega))<|WO.nil<|WC.cond rfl (fun hc=>by cases hc) (fun hc=>WC.exit<|WC.seqO<|omv rfl<|WO.ops (StepK.toStr rfl (wv gx.sl (jd hb)))<|omv rfl<|WO.nil<|WC.ret ⟨trivial,g3,rfl⟩)
def zf (w:List Nat):Int:=if w.all (fun c=>decide (48≤c) && decide (c≤57)) && decide (w.length≤9∨w=[]) then
  (if yd (w.foldl (fun n c=>10*n+(c-48)) 0)=w then ((w.foldl (fun n c=>10*n+(c-48)) 0:Nat):Int) else -1) else -1
theorem xy (h:Heap) (hw:Wf h) (w:List Nat) (hb:Byt w) (hs:w.length≤1000000):Ans C 53 [.str w] h fun v h'=>v=jv (zf w)∧Grow h h':=by
 have hF:C.F 53=some a53:=S.f rfl
 unfold a53 at hF
 refine Ans.val (fun _ _=>S.s _ _ _ rfl) hF rfl rfl hw fun h2 g=>?_
 clear hF
 have bad:∀ j,(hj:j<w.length)→¬ (48≤w[j]∧w[j]≤57∧w.length≤9)→zf w=-1:=by
  intro j hj hn
  unfold zf
  split
  ·rename_i hq
   rw [Bool.and_eq_true] at hq
   have h1:=List.all_eq_true.1 hq.1 _ (List.getElem_mem hj)
   rw [Bool.and_eq_true] at h1
   have h2:=of_decide_eq_true h1.1
   have h3:=of_decide_eq_true h1.2
   rcases of_decide_eq_true hq.2 with q | q
   ·exact absurd ⟨h2,h3,q⟩ hn
   ·rw [q] at hj;simp at hj
  ·rfl
 refine WC.seqO<|omv rfl<|WO.nil<|WC.seqO<|omv rfl<|WO.nil<|WC.seq<|WC.seqO<|omv rfl<|WO.nil<|WC.block ?_
 refine WC.loop (σ:=Nat) (fun j=>[(0,.str w),(3,jv ((w.take j).foldl (fun n c=>10*n+(c-48)) 0:Nat)),(4,jv j)]) (fun j h'=>j≤w.length∧h'=h2∧(∀ i,(hi:i<j)→∀ h:i<w.length,48≤w[i]∧w[i]≤57)∧(0<j→w.length≤9)∧(w.take j).foldl (fun n c=>10*n+(c-48)) 0<10 ^ j) (fun j=>w.length-j) 0
  (Cov.cons rfl (Cov.cons rfl (Cov.cons rfl (Cov.nil _)))) ⟨Nat.zero_le _,rfl,fun i hi=>by omega,fun q=>by omega,by simp⟩ ?_
 rintro j _ ⟨hj,rfl,hd,h9,hv⟩
 refine WC.seq<|WC.seqO<|omv rfl<|omv rfl<|olt rfl ?_
 by_cases hlt:j<w.length
 ·refine obn rfl rfl (ltT (by omega))<|WO.nil<|WC.cond rfl (fun hc=>WC.skip ?_) (fun hc=>by cases hc)
  have hbj:=hb _ (List.getElem_mem hlt)
  have at1:xF (.str w) (jv j)=some (bv w[j]):=by
   have:=wK (s:=w) (k:=.i64) (n:=(j:Int)) (by omega) (by simpa using hlt)
   rw [this];simp [List.getD_eq_getElem?_getD,hlt]
  have htk:(w.take (j+1)).foldl (fun n c=>10*n+(c-48)) 0=10*(w.take j).foldl (fun n c=>10*n+(c-48)) 0+(w[j]-48):=by
   rw [List.take_succ_eq_append_getElem hlt,List.foldl_append];rfl
  have bj:=bad j hlt
  have hdj:48≤w[j]∧w[j]≤57→∀ i,(hi:i<j+1)→∀ h:i<w.length,48≤w[i]∧w[i]≤57:=fun q i hi h=>by
   by_cases e:i=j
   ·subst e;exact q
   ·exact hd i (by omega) h
  generalize w[j]=c at *
  generalize hN:(w.take j).foldl (fun n c=>10*n+(c-48)) 0=N at *
  refine WC.seq<|WC.block<|WC.seq<|WC.seqO<|omv rfl<|omv rfl<|WO.ops (StepK.atStr rfl rfl at1) ?_
  by_cases h48:c<48
  ·refine obn rfl rfl (show zi .lss (bv c) (.int .u8 48)=some (.bool true) from by simp [zi];omega) ?_
   (repeat (first | refine omv rfl ?_ | refine ols rfl (by first | with_reducible assumption | rfl) ?_ | refine ofa rfl ?_ | refine oad rfl rfl (by omega) ?_ | refine osb rfl rfl (by omega) ?_ | refine obn rfl rfl rfl ?_ | refine opt rfl rfl ?_ | refine opf rfl rfl ?_ | refine ont rfl ?_ | refine oeq rfl rfl rfl ?_ | refine oex rfl rfl ?_ | refine obu rfl rfl ?_ | refine ofd rfl rfl ?_ | refine olt rfl ?_ | refine onk rfl ?_ | refine old rfl (by first | with_reducible assumption | rfl) ?_ | refine WO.run rfl ?_ | refine WO.skip rfl rfl ?_ | refine WO.skipu rfl ?_))
   exact WO.nil<|WC.cond rfl (fun hc=>WC.seqO<|omv rfl<|WO.nil<|WC.ret ⟨trivial,g,by rw [bj (fun q=>by omega)];rfl⟩) (fun hc=>by cases hc)
  refine obn rfl rfl (Z5 (by show ¬ (Int.ofNat c<48);simp;omega))<|omv rfl<|WO.run rfl<|omv rfl<|WO.run rfl<|omv rfl<|WO.run rfl<|WO.ops (StepK.atStr rfl rfl at1)<|WO.run rfl ?_
  by_cases h57:57<c
  ·refine obn rfl rfl (Z6 (by show (57:Int)<Int.ofNat c;simp;omega)) ?_
   (repeat (first | refine omv rfl ?_ | refine ols rfl (by first | with_reducible assumption | rfl) ?_ | refine ofa rfl ?_ | refine oad rfl rfl (by omega) ?_ | refine osb rfl rfl (by omega) ?_ | refine obn rfl rfl rfl ?_ | refine opt rfl rfl ?_ | refine opf rfl rfl ?_ | refine ont rfl ?_ | refine oeq rfl rfl rfl ?_ | refine oex rfl rfl ?_ | refine obu rfl rfl ?_ | refine ofd rfl rfl ?_ | refine olt rfl ?_ | refine onk rfl ?_ | refine old rfl (by first | with_reducible assumption | rfl) ?_ | refine WO.run rfl ?_ | refine WO.skip rfl rfl ?_ | refine WO.skipu rfl ?_))
   exact WO.nil<|WC.cond rfl (fun hc=>WC.seqO<|omv rfl<|WO.nil<|WC.ret ⟨trivial,g,by rw [bj (fun q=>by omega)];rfl⟩) (fun hc=>by cases hc)
  refine obn rfl rfl (Z7 (by show ¬ (57:Int)<Int.ofNat c;simp;omega))<|opf rfl rfl<|omv rfl<|WO.run rfl<|omv rfl<|WO.run rfl<|olt rfl<|WO.run rfl ?_
  by_cases hl9:9<w.length
  ·exact obn rfl rfl (gtT (by omega))<|opf rfl rfl<|WO.nil<|WC.cond rfl (fun hc=>WC.seqO<|omv rfl<|WO.nil<|WC.ret ⟨trivial,g,by rw [bj (fun q=>by omega)];rfl⟩) (fun hc=>by cases hc)
  have hp:N<10 ^ 9:=Nat.lt_of_lt_of_le hv (Nat.pow_le_pow_right (by decide) (by omega))
  have hmul:zi .mul (jv 10) (jv N)=some (jv ((10*N:Nat):Int)):=by
   show some (V.int .i64 (IntKind.i64.wrap (10*(N:Int))))=_
   rw [StepK.wrap64 (by omega) (by omega)];rfl
  have hsub:zi .sub (bv c) (.int .u8 48)=some (bv (c-48)):=by
   simp only [zi,if_true]
   rw [vl (by simp;omega) (by simp;omega)]
   congr 2;simp;omega
  refine obn rfl rfl (gtF (by omega))<|opf rfl rfl<|WO.nil<|WC.cond rfl (fun hc=>by cases hc) (fun hc=>WC.skip<|WC.ops<|omv rfl<|obn rfl rfl hmul<|omv rfl<|omv rfl<|WO.ops (StepK.atStr rfl rfl at1)<|obn rfl rfl hsub<|WO.ops (StepK.toInt (m:=((c-48:Nat):Int)) rfl (StepK.wrap64 (by first | (simp;done) | (simp;omega)) (by first | (simp;done) | (simp;omega))))<|oad rfl rfl (by omega)<|omv rfl<|WO.nil<|WC.ops<|omv rfl<|oad rfl rfl (by omega)<|omv rfl<|WO.nil ⟨j+1,?_,⟨hlt,rfl,hdj ⟨by omega,by omega⟩,fun _=>by omega,?_⟩,by omega⟩)
  ·rw [htk]
   have:(((10*N:Nat):Int)+((c-48:Nat):Int))=((10*N+(c-48):Nat):Int):=by omega
   rw [this]
   exact Cov.cons rfl (Cov.cons rfl (Cov.cons rfl (Cov.nil _)))
  ·rw [htk,Nat.pow_succ];omega
 ·refine obn rfl rfl (ltF (by omega))<|WO.nil<|WC.cond rfl (fun hc=>by cases hc) (fun hc=>WC.exit ?_)
  obtain rfl:j=w.length:=by omega
  rw [List.take_length] at hv
  have hN:(w.take w.length).foldl (fun n c=>10*n+(c-48)) 0=w.foldl (fun n c=>10*n+(c-48)) 0:=by rw [List.take_length]
  rw [hN]
  have hcond:(w.all (fun c=>decide (48≤c) && decide (c≤57)) && decide (w.length≤9∨w=[]))=true:=by
   rw [Bool.and_eq_true]
   refine ⟨List.all_eq_true.2 fun c hc=>?_,decide_eq_true ?_⟩
   ·obtain ⟨i,hi,rfl⟩:=List.getElem_of_mem hc
    have:=hd i hi hi
    rw [Bool.and_eq_true];exact ⟨decide_eq_true this.1,decide_eq_true this.2⟩
   ·by_cases hw0:w=[]
    ·exact .inr hw0
    ·exact .inl (h9 (List.length_pos_iff.2 hw0))
  have hlen9:w.length≤9:=by
   rcases of_decide_eq_true (Bool.and_eq_true_iff.1 hcond).2 with q | q
   ·exact q
   ·rw [q];simp
  have e0:zf w=if yd (w.foldl (fun n c=>10*n+(c-48)) 0)=w then ((w.foldl (fun n c=>10*n+(c-48)) 0:Nat):Int) else -1:=by
   unfold zf;rw [if_pos hcond]
  have hp:w.foldl (fun n c=>10*n+(c-48)) 0<10 ^ 9:=Nat.lt_of_lt_of_le hv (Nat.pow_le_pow_right (by decide) hlen9)
  generalize w.foldl (fun n c=>10*n+(c-48)) 0=N at *
  refine WC.seq<|WC.seqO<|omv rfl ?_
  refine WO.call rfl rfl (sB S N _ g.wf (by omega)) ?_
  rintro _ h4 ⟨rfl,g4⟩
  refine omv rfl ?_
  by_cases he:yd N=w
  ·exact obn rfl rfl (snF he)<|WO.nil<|WC.cond rfl (fun hc=>by cases hc) (fun hc=>WC.skip<|WC.seqO<|omv rfl<|omv rfl<|WO.nil<|WC.ret ⟨trivial,g.trans g4,by rw [e0,if_pos he];rfl⟩)
  ·exact obn rfl rfl (snT he)<|WO.nil<|WC.cond rfl (fun hc=>WC.seqO<|omv rfl<|WO.nil<|WC.ret ⟨trivial,g.trans g4,by rw [e0,if_neg he];rfl⟩) (fun hc=>by cases hc)
end
end Abs
end Go.Proofs.YthgcjbniipfnbaaGreatDoor
namespace Go.Proofs.YthgcjbniipfnbaaGreatDoor
namespace Abs
set_option linter.unusedVariables false
set_option linter.unusedSimpArgs false
open Go.RowKit
attribute [local irreducible] WO WC WD StepK Ans Does Runs DoesD
theorem eP {a b:Nat} (ha:a<16) (hb:b<16) (h:hx a=hx b):a=b:=by
 have q:∀ x y:_root_.Fin 16,hx x.val=hx y.val→x=y:=by decide +kernel
 exact congrArg _root_.Fin.val (q ⟨a,ha⟩ ⟨b,hb⟩ h)
theorem cr {a b:Nat} (ha:a<256) (hb:b<256) (h:zP [a]=zP [b]):a=b:=by
 rw [sh,sh] at h
 injection h with h1 h2
 injection h2 with h2 _
 have:=eP (by omega) (by omega) h1
 have:=eP (by omega) (by omega) h2
 omega
section
attribute [local semireducible] WD StepK
theorem WD.toStr {C:Cfg} {q:Nat} {l:List DOp} {P:List (Nat × (Heap→Prop))} {e:List (Nat × V)} {h:Heap} {Q:List (Nat × V)→Heap→Prop} {d:Nat} {idx:Nat} {anc:List Nat} {v a:V} {x:Opd}
  (hx:evE e x=some a) (hl:yW h a=some v) (hq:WD C (q+1) l ((q,fun h1=>yW h1 a=some v)::P) ((d,v)::e) h Q):WD C q (⟨⟨some d,none,.toStr x⟩,idx,anc⟩::l) P e h Q:=fun tm hs=>by
 refine DoesD.op rfl rfl (StepK.toStr hx hl tm hs) (fun h1 hr=>?_) (hq _ (hs.set d v))
 simp only [yz,if_true,K.isAlloc,Bool.false_eq_true,if_false,StepK.toStr hx hr tm hs,V.beq_refl]
end
section
variable {C:Cfg} (S:StdL C)
include S
theorem oz (h:Heap) (hw:Wf h) (w:List Nat) (hb:Byt w) (hs:w.length≤1000000):Ans C 54 [.str w] h fun v h'=>(∃ d,v=.tuple [.str d,.bool (zl w).isSome]∧∀ t,zl w=some t→d=t)∧Grow h h':=by
 have hF:C.F 54=some a54:=S.f rfl
 unfold a54 at hF
 refine Ans.fn (fun _ _=>S.s _ _ _ rfl) hF rfl rfl hw fun h2 g=>?_
 clear hF
 have fin:∀ (h3:Heap) (e':List (Nat × V)) (d:List Nat) (b:Bool),Grow h h3→Env.get e' 2=some (.str d)→Env.get e' 3=some (.bool b)→b=(zl w).isSome→(∀ t,zl w=some t→d=t) →
   Fin .ret∧Wf h3∧∃ v,yo e' h3 [.tmp 2,.tmp 3]=some v∧(∀ h4,Grow h3 h4→(∃ d,v=.tuple [.str d,.bool (zl w).isSome]∧∀ t,zl w=some t→d=t)∧Grow h h4)∧(v.scopd h.size=true→(∃ d,v=.tuple [.str d,.bool (zl w).isSome]∧∀ t,zl w=some t→d=t)∧Grow h h):=by
  intro h3 e' d b g3 e2 e3 hbb hd
  subst hbb
  refine ⟨trivial,g3.wf,.tuple [.str d,.bool (zl w).isSome],?_,fun h4 g4=>⟨⟨d,rfl,hd⟩,g3.trans g4⟩,fun _=>⟨⟨d,rfl,hd⟩,Grow.refl hw⟩⟩
  simp only [yo,yE,wO,e2,e3,zq]
 refine WC.seqO<|omv rfl<|omv rfl<|WO.nil<|WC.seq<|WC.seqO<|omv rfl ?_
 by_cases h45:w=[45]
 ·have hg:zl w=some []:=by
   cases hq:zl w with
   | none=>exact absurd (.inl ⟨h45,rfl⟩) (uT hq [])
   | some t =>
    rcases xd hq with q | q
    ·rw [q.2]
    ·exact absurd h45 q.1
  exact obn rfl rfl (seT h45)<|WO.nil<|WC.cond rfl (fun hc=>WC.seqO<|omv rfl<|omv rfl<|WO.nil<|WC.ret<|fin h2 _ [] true g rfl rfl (by rw [hg];rfl) (fun t ht=>by rw [hg] at ht;exact Option.some.inj ht)) (fun hc=>by cases hc)
 refine obn rfl rfl (seF h45)<|WO.nil<|WC.cond rfl (fun hc=>by cases hc) (fun hc=>WC.skip ?_)
 refine WC.seqO<|omv rfl<|WO.nil<|WC.seq<|WC.seqO<|omv rfl<|WO.nil<|WC.block ?_
 refine WC.loop (σ:=Nat × V) (fun z=>[(0,.str w),(4,z.2),(5,jv ((2*z.1:Nat):Int))]) (fun z h'=>2*z.1≤w.length∧Grow h h'∧∃ out,Grown h' h.size 1 z.2 (bvs out)∧out.length=z.1∧Byt out∧∀ t,Byt t→zP t=w→out=t.take z.1) (fun z=>w.length-2*z.1) (0,.slice none 0 0)
  (Cov.cons rfl (Cov.cons rfl (Cov.cons rfl (Cov.nil _)))) ⟨Nat.zero_le _,g,[],Grown.nil _ _ _,rfl,Byt.nil,fun t _ _=>by simp⟩ ?_
 rintro ⟨p,x⟩ h3 ⟨hp,g3,out,gx,hol,hob,hcan⟩
 simp only at hp g3 gx hol hcan
 refine WC.seq<|WC.seqO<|omv rfl<|oad rfl rfl (by omega)<|omv rfl<|olt rfl ?_
 by_cases hlt:2*p+1<w.length
 ·refine obn rfl rfl (ltT (by omega))<|WO.nil<|WC.cond rfl (fun hc=>WC.skip ?_) (fun hc=>by cases hc)
  refine WC.seq<|WC.block<|WC.seqO<|omv rfl<|WO.nil ?_
  -- the byte of the part
  refine WC.seqV (M:=fun e' h'=>∃ n:Nat,Cov [(0,.str w),(4,x),(5,jv ((2*p:Nat):Int)),(6,jv n)] e'∧Grow h3 h'∧n<256∧∀ c,c<256→zP [c]=(w.drop (2*p)).take 2→n=c) ?_ ?_
  ·refine WC.seq<|WC.ops<|omv rfl<|WO.nil<|WC.block ?_
   refine WC.loop (σ:=Nat × Nat) (fun z=>[(0,.str w),(4,x),(5,jv ((2*p:Nat):Int)),(6,jv z.2),(7,jv z.1)]) (fun z h'=>z.1≤256∧Grow h3 h'∧z.2<256∧∀ c,c<z.1→zP [c]=(w.drop (2*p)).take 2→z.2=c) (fun z=>256-z.1) (0,0)
    (Cov.cons rfl (Cov.cons rfl (Cov.cons rfl (Cov.cons rfl (Cov.cons rfl (Cov.nil _)))))) ⟨Nat.zero_le _,Grow.refl g3.wf,by decide,fun c hc=>by simp at hc⟩ ?_
   rintro ⟨k,n⟩ h4 ⟨hk,g4,hn,hI⟩
   simp only at hk g4 hn hI
   refine WC.seq<|WC.seqO<|omv rfl ?_
   by_cases hk2:k<256
   ·refine obn rfl rfl (ltT (by omega))<|WO.nil<|WC.cond rfl (fun hc=>WC.skip ?_) (fun hc=>by cases hc)
    refine WC.seq<|WC.block<|WC.seqD<|dmv rfl<|WD.pure (StepK.toInt (m:=Int.ofNat k) rfl (by rw [vl (by omega) (by omega)];rfl)) rfl<|WD.alloc rfl (StepK.buildSl rfl rfl) ?_
    change WD C _ _ _ _ (h4.push (.cells [bv k] (.tip [] 0 (some 5)))) _
    have gp:=(Grow.refl g4.wf).push (.cells [bv k] (.tip [] 0 (some 5)))
    have hnew:(h4.push (.cells [bv k] (.tip [] 0 (some 5)))).get h4.size=some (.cells [bv k] (.tip [] 0 (some 5))):=zg _ _
    have ts:yW (h4.push (.cells [bv k] (.tip [] 0 (some 5)))) (.slice (some (h4.size,0)) 1 1)=some (.str [k]):=pA (l:=[k]) (Cl.new h4 ([k].map bv) (some 5)) rfl (by intro y hy;simp at hy;omega)
    have g5:=g4.trans gp
    generalize h4.push (.cells [bv k] (.tip [] 0 (some 5)))=h5 at *
    refine WD.toStr rfl ts<|dmv rfl<|dmv rfl<|dmv rfl<|dad rfl rfl (by omega) ?_
    have sl:xr (.str w) (some (jv ((2*p:Nat):Int))) (some (jv (((2*p:Nat):Int)+2)))=some (.str ((w.drop (2*p)).take 2)):=by
     simp only [xr,ye,yp]
     rw [if_pos ⟨by omega,by omega⟩]
     dsimp only
     rw [if_pos ⟨by omega,by omega⟩]
     simp only [Int.toNat_natCast]
     rw [show (((2*p:Nat):Int)+2).toNat-2*p=2 by omega]
    refine WD.pure (StepK.sliceStr rfl rfl rfl sl) rfl ?_
    refine WD.call (by first | exact ⟨hnew,trivial⟩ | exact ⟨ts,hnew,trivial⟩) rfl rfl (pG S h5 g5.wf [k] (by simp) (by intro y hy;simp at hy;omega)) ?_
    rintro _ h6 ⟨rfl,g6⟩
    have g36:=g5.trans g6
    have hnew6:=g6.ext _ _ hnew
    by_cases he:zP [k]=(w.drop (2*p)).take 2
    ·refine dbn rfl rfl (seT he)<|WD.nil (by first | exact trivial | exact ⟨hnew6,trivial⟩)<|WC.cond rfl (fun hc=>WC.ops<|omv rfl<|omv rfl<|WO.nil<|WC.ops<|omv rfl<|oad rfl rfl (by omega)<|omv rfl<|WO.nil ⟨(k+1,k),Cov.cons rfl (Cov.cons rfl (Cov.cons rfl (Cov.cons rfl (Cov.cons rfl (Cov.nil _))))),⟨hk2,g36,hk2,fun c hc hx=>?_⟩,by simp only;omega⟩) (fun hc=>by cases hc)
     simp only at hc ⊢
     exact cr hk2 (by omega) (he.trans hx.symm)
    ·refine dbn rfl rfl (seF he)<|WD.nil (by first | exact trivial | exact ⟨hnew6,trivial⟩)<|WC.cond rfl (fun hc=>by cases hc) (fun hc=>WC.skip<|WC.ops<|omv rfl<|oad rfl rfl (by omega)<|omv rfl<|WO.nil ⟨(k+1,n),Cov.cons rfl (Cov.cons rfl (Cov.cons rfl (Cov.cons rfl (Cov.cons rfl (Cov.nil _))))),⟨hk2,g36,hn,fun c hc hx=>?_⟩,by simp only;omega⟩)
     simp only at hc ⊢
     by_cases hck:c=k
     ·subst hck;exact absurd hx he
     ·exact hI c (by omega) hx
   ·refine obn rfl rfl (ltF (by omega))<|WO.nil<|WC.cond rfl (fun hc=>by cases hc) (fun hc=>WC.exit ⟨n,Cov.cons rfl (Cov.cons rfl (Cov.cons rfl (Cov.cons rfl (Cov.nil _)))),g4,hn,fun c hc hx=>hI c (by omega) hx⟩)
  ·rintro e5 h5 ⟨n,k5,g5,hn,hI⟩
   refine WC.cov k5 ?_
   refine WC.ops<|omv rfl<|omv rfl<|WO.ops (StepK.toInt (m:=Int.ofNat n) rfl (by rw [vl (by omega) (by omega)];rfl))<|WO.ops (StepK.buildSl rfl rfl) ?_
   have g35:=g3.trans g5
   have gp:=(Grow.refl g35.wf).push (.cells [bv n] (.tip [] 0 (some 5)))
   have sy:Sl (h5.push (.cells [bv n] (.tip [] 0 (some 5)))) 1 (.slice (some (h5.size,0)) 1 1) [[bv n]]:=sV (zg _ _) rfl
   change WO C _ _ (h5.push (.cells [bv n] (.tip [] 0 (some 5)))) _
   have g6:=g35.trans gp
   have gx6:=(gx.grow g5).grow gp
   generalize h5.push (.cells [bv n] (.tip [] 0 (some 5)))=h6 at *
   obtain ⟨v,h7,a1,a2,a3⟩:=Grown.append (bytes:=1) (tyK:=some 5) hw g6 gx6 sy (by decide) (by decide) (re (by simp;omega)) (by simp [V.one])
   refine WO.ops (StepK.append rfl rfl a1)<|omv rfl<|WO.nil<|WC.ops<|omv rfl<|oad rfl rfl (by omega)<|omv rfl<|WO.nil ⟨(p+1,v),?_,⟨by simp only;omega,a3,out++[n],?_,by simp;omega,hob.app (fun b hb=>by simp at hb;omega),fun t ht hxt=>?_⟩,by simp only;omega⟩
   ·have:(((2*p:Nat):Int)+2)=((2*(p+1):Nat):Int):=by omega
    rw [this]
    exact Cov.cons rfl (Cov.cons rfl (Cov.cons rfl (Cov.nil _)))
   ·have:bvs (out++[n])=bvs out++[[bv n]]:=by simp [bvs]
    rw [this];exact a2
   ·have hlw:w.length=2*t.length:=by rw [←hxt,yM]
    have hnt:p<t.length:=by omega
    have hu:n=t[p]:=by
     refine hI _ (ht _ (List.getElem_mem hnt)) ?_
     rw [mO hxt,List.drop_eq_getElem_cons hnt]
     have:zP (t[p]::t.drop (p+1))=zP [t[p]]++zP (t.drop (p+1)):=by rw [←si];rfl
     rw [this]
     exact (List.take_left' (by rw [yM];rfl)).symm
    rw [hcan t ht hxt,hu,List.take_succ_eq_append_getElem hnt]
 ·refine obn rfl rfl (ltF (by omega))<|WO.nil<|WC.cond rfl (fun hc=>by cases hc) (fun hc=>WC.exit ?_)
  have ts:=wv gx.sl hob
  have hN:∀ t,zP t=w→Byt t→out=t:=fun t q1 q2=>by
   rw [hcan t q2 q1,List.take_of_length_le]
   have:w.length=2*t.length:=by rw [←q1,yM]
   omega
  refine WC.seqD<|dmv rfl<|WD.toStr rfl ts<|dmv rfl ?_
  by_cases h0:w=[]
  ·have hg:zl w=none:=by
    cases hq:zl w with
    | none=>rfl
    | some t =>
     rcases xd hq with q | q
     ·exact absurd q.1 h45
     ·exact absurd h0 q.2.1
   refine dbn rfl rfl (snF h0)<|dmv rfl<|WD.skipn rfl rfl rfl<|WD.skipn rfl rfl rfl<|WD.skipn rfl rfl rfl<|WD.skip (fun _=>by first | exact ⟨ts,trivial⟩ | exact trivial) rfl rfl<|WD.skipn rfl rfl rfl<|dpf rfl rfl<|dmv rfl<|dmv rfl ?_
   exact WD.nil (by repeat (first | exact trivial | refine ⟨by with_reducible assumption,?_⟩))<|WC.ret<|fin h3 _ out false g3 rfl rfl (by rw [hg];rfl) (fun t ht=>by rw [hg] at ht;cases ht)
  refine dbn rfl rfl (snT h0)<|dmv rfl<|WD.run rfl<|dmv rfl<|WD.run rfl<|WD.toStr rfl ts<|WD.run rfl<|dmv rfl<|WD.run rfl ?_
  refine WD.call (by repeat (first | exact trivial | refine ⟨by with_reducible assumption,?_⟩)) rfl rfl (pG S h3 g3.wf out (by omega) hob) ?_
  rintro _ h4 ⟨rfl,g4⟩
  have ts4:=wv (gx.grow g4).sl hob
  by_cases he:zP out=w
  ·have hg:zl w=some out:=by
    cases hq:zl w with
    | none=>exact absurd (.inr ⟨h45,h0,hob,he⟩) (uT hq out)
    | some t =>
     rcases xd hq with q | q
     ·exact absurd q.1 h45
     ·rw [hN t q.2.2.2 q.2.2.1]
   refine WD.run rfl<|dbn rfl rfl (seT he)<|dpt rfl rfl<|dmv rfl<|dmv rfl<|WD.nil (by repeat (first | exact trivial | refine ⟨by with_reducible assumption,?_⟩))<|WC.ret<|fin h4 _ out true (g3.trans g4) rfl rfl (by rw [hg];rfl) (fun t ht=>by rw [hg] at ht;exact Option.some.inj ht)
  ·have hg:zl w=none:=by
    cases hq:zl w with
    | none=>rfl
    | some t =>
     rcases xd hq with q | q
     ·exact absurd q.1 h45
     ·rw [hN t q.2.2.2 q.2.2.1] at he;exact absurd q.2.2.2 he
   refine WD.run rfl<|dbn rfl rfl (seF he)<|dpt rfl rfl<|dmv rfl<|dmv rfl<|WD.nil (by repeat (first | exact trivial | refine ⟨by with_reducible assumption,?_⟩))<|WC.ret<|fin h4 _ out false (g3.trans g4) rfl rfl (by rw [hg];rfl) (fun t ht=>by rw [hg] at ht;cases ht)
end
end Abs
end Go.Proofs.YthgcjbniipfnbaaGreatDoor
namespace Go.Proofs.YthgcjbniipfnbaaGreatDoor
namespace Abs
set_option linter.unusedVariables false
set_option linter.unusedSimpArgs false
open Go.RowKit
attribute [local irreducible] WO WC WD StepK Ans Does Runs DoesD
def manyL:List Int:=[2,2,3,2,2,3,4,4,3,2,2]
theorem vh (w:List Nat):∀ (l:List (List Nat)) (k:Nat),-1≤zk w l k∧zk w l k<k+l.length
 | [],k=>by simp [zk];omega
 | t::r,k=>by
  rw [vD]
  have:=vh w r (k+1)
  split
  ·simp;omega
  ·simp;omega
noncomputable def y8 (ws:List (List Nat)):Option OpV :=
 let d:=zk (ws.getD 0 []) nmL 0
 let p:=ws.getD 1 []
 let a:=zf (ws.getD 2 [])
 let b:=zf (ws.getD 3 [])
 if d<0 then none else if (ws.length:Int)≠manyL.getD d.toNat 0 then none else
 if d=2∨d=5 then some ⟨d,p,ws.getD 2 [],0,0,[]⟩ else
 if d=6 then (if 0≤a∧0≤b then some ⟨d,p,[],a,b,[]⟩ else none) else
 if d=7 then (if (zl (ws.getD 3 [])).isSome=true∧0≤a then some ⟨d,p,[],a,0,(zl (ws.getD 3 [])).getD []⟩ else none) else
 if d=8 then (if 0≤a then some ⟨d,p,[],0,a,[]⟩ else none) else some ⟨d,p,[],0,0,[]⟩
section
variable {C:Cfg} (S:StdL C)
include S
theorem iE (h:Heap) (hw:Wf h):Ans C 52 [] h fun v h'=>Sl h' 1 v (zB nmL)∧Grow h h':=by
 have hF:C.F 52=some a52:=S.f rfl
 unfold a52 at hF
 refine Ans.fn (fun _ _=>S.s _ _ _ rfl) hF rfl rfl hw fun h2 g=>?_
 clear hF
 refine WC.seqO<|omv rfl<|WO.nil<|WC.seqO<|WO.ops (StepK.buildSl rfl rfl) ?_
 have g3:=g.push (.cells (nmL.map V.str) (.tip [] 0 (some 9)))
 have sy:Sl (h2.push (.cells (nmL.map V.str) (.tip [] 0 (some 9)))) 1 (.slice (some (h2.size,0)) 11 11) (zB nmL):=wN (Cl.new _ _ _) rfl
 have hs:=g.size
 change WO C _ _ (h2.push (.cells (nmL.map V.str) (.tip [] 0 (some 9)))) _
 generalize h2.push (.cells (nmL.map V.str) (.tip [] 0 (some 9)))=h3 at *
 refine omv rfl<|WO.nil<|WC.ret ⟨trivial,g3.wf,.slice (some (h2.size,0)) 11 11,rfl,fun h4 g4=>⟨sy.grow g4,g3.trans g4⟩,fun hq=>?_⟩
 simp [V.scopd] at hq;omega
theorem oE (h:Heap) (hw:Wf h):Ans C 24 [] h fun v h'=>Sl h' 1 v (zB plL)∧Grow h h':=by
 have hF:C.F 24=some a24:=S.f rfl
 unfold a24 at hF
 refine Ans.fn (fun _ _=>S.s _ _ _ rfl) hF rfl rfl hw fun h2 g=>?_
 clear hF
 refine WC.seqO<|omv rfl<|WO.nil<|WC.seqO<|WO.ops (StepK.buildSl rfl rfl) ?_
 have g3:=g.push (.cells (plL.map V.str) (.tip [] 0 (some 9)))
 have sy:Sl (h2.push (.cells (plL.map V.str) (.tip [] 0 (some 9)))) 1 (.slice (some (h2.size,0)) 14 14) (zB plL):=wN (Cl.new _ _ _) rfl
 have hs:=g.size
 change WO C _ _ (h2.push (.cells (plL.map V.str) (.tip [] 0 (some 9)))) _
 generalize h2.push (.cells (plL.map V.str) (.tip [] 0 (some 9)))=h3 at *
 refine omv rfl<|WO.nil<|WC.ret ⟨trivial,g3.wf,.slice (some (h2.size,0)) 14 14,rfl,fun h4 g4=>⟨sy.grow g4,g3.trans g4⟩,fun hq=>?_⟩
 simp [V.scopd] at hq;omega
def jD (ws:List (List Nat)) (v:V):Prop:=∃ (o:OpV) (b:Bool),v=.tuple [.agg o.cs,.bool b]∧b=(y8 ws).isSome∧∀ o',y8 ws=some o'→o=o'
omit S in
theorem vn {h:Heap} {x:V} {ws:List (List Nat)} (sx:Sl h 1 x (zB ws)) {i:Nat} (hi:i<ws.length):∃ b o,yw 1 x (jv i)=some (.ptr (some (b,o)))∧h.rd b o=some (.str (ws.getD i [])):=by
 obtain ⟨c,o,k1,k2⟩:=sx.at (i:=i) (by simpa using hi)
 rw [List.getElem_map] at k2
 refine ⟨c,o,k1,?_⟩
 rw [List.getD_eq_getElem?_getD,List.getElem?_eq_getElem hi]
 exact kq k2 (j:=0) rfl
theorem iB (h:Heap) (hw:Wf h) (x:V) (ws:List (List Nat)) (sx:Sl h 1 x (zB ws)) (h1:1≤ws.length) (ok:we ws):Ans C 25 [x] h fun v h'=>jD ws v∧Grow h h':=by
 have hF:C.F 25=some a25:=S.f rfl
 unfold a25 at hF
 refine Ans.fn (fun _ _=>S.s _ _ _ rfl) hF rfl rfl hw fun h2 g=>?_
 clear hF
 have hlen:zw x=some ws.length:=by have:=sx.len;simpa using this
 have okd:∀ i,Byt (ws.getD i [])∧(ws.getD i []).length≤1000000:=fun i=>by
  rw [List.getD_eq_getElem?_getD]
  cases hq:ws[i]? with
  | none=>exact ⟨Byt.nil,by simp⟩
  | some t=>exact ok t (List.mem_of_getElem? hq)
 have hs2:=g.size
 refine WC.seqO<|WO.ops StepK.alloc ?_
 have c2:=Cl.new h2 OpV.z.cs none
 have g3:=g.push (.cells OpV.z.cs (.tip [] 0 none))
 have z3:(h2.push (.cells OpV.z.cs (.tip [] 0 none))).size=h2.size+1:=rfl
 change WO C _ _ (h2.push (.cells OpV.z.cs (.tip [] 0 none))) _
 generalize h2.push (.cells OpV.z.cs (.tip [] 0 none))=h3 at *
 generalize h2.size=p2 at *
 obtain ⟨cb,co,k1,k2⟩:=vn (sx.grow g3) (i:=0) (by omega)
 refine omv rfl<|WO.nil<|WC.seqD<|dmv rfl<|WD.pure (StepK.idxSl rfl rfl k1) rfl<|WD.load1 rfl k2<|WD.alloc rfl StepK.alloc ?_
 have c4:=Cl.new h3 OpV.z.cs none
 have gp:=(Grow.refl g3.wf).push (.cells OpV.z.cs (.tip [] 0 none))
 have hnew:(h3.push (.cells OpV.z.cs (.tip [] 0 none))).get h3.size=some (.cells OpV.z.cs (.tip [] 0 none)):=zg _ _
 have z4:(h3.push (.cells OpV.z.cs (.tip [] 0 none))).size=h3.size+1:=rfl
 change WD C _ _ _ _ (h3.push (.cells OpV.z.cs (.tip [] 0 none))) _
 have g4:=g3.trans gp
 replace c2:=c2.grow gp
 replace k2:=gp.rd k2
 generalize h3.push (.cells OpV.z.cs (.tip [] 0 none))=h4 at *
 generalize h3.size=p4 at *
 refine WD.call (by first | exact ⟨hnew,k2,trivial⟩ | exact ⟨k2,trivial⟩ | exact ⟨hnew,trivial⟩) rfl rfl (iE S h4 g4.wf) ?_
 rintro y h5 ⟨sy,g5⟩
 have k25:=g5.rd k2
 have hn5:=g5.ext _ _ hnew
 refine WD.call (by first | exact ⟨hn5,k25,trivial⟩ | exact ⟨k25,trivial⟩ | exact ⟨hn5,trivial⟩) rfl rfl (rn S h5 (g4.trans g5).wf y nmL _ sy (by decide)) ?_
 rintro _ h6 ⟨rfl,g6⟩
 have hn6:=g6.ext _ _ hn5
 have k26:=g6.rd k25
 have g46:=g5.trans g6
 have g16:=g4.trans g46
 have hdl:=vh (ws.getD 0 []) nmL 0
 generalize hd:zk (ws.getD 0 []) nmL 0=d at *
 replace c2:=c2.grow g46
 replace c4:=c4.grow g46
 obtain ⟨h7,w7,r7,c7,z7⟩:=c4.sets g16.wf (i:=0) (us:=({ OpV.z with op:=d }:OpV).cs) (by simp [OpV.cs,OpV.z]) (by simp [OpV.cs,V.one,OpV.z])
 have r7':Cl h7 p4 ({ OpV.z with op:=d }:OpV).cs:=r7
 refine dbu rfl rfl ?_
 refine WD.opC (by first | exact ⟨hn6,k26,trivial⟩ | exact ⟨k26,trivial⟩ | exact ⟨hn6,trivial⟩ | exact trivial) rfl (StepK.store (v:=.agg ({ OpV.z with op:=d }:OpV).cs) rfl rfl rfl w7) ?_
 have g7:Grow h h7:=c7.newGrow g16 hw (by simp;omega)
 replace c2:=c2.chg c7 (by simp;omega)
 refine WD.nil (by first | exact trivial) ?_
 refine WC.seqO<|WO.ops (StepK.buildSl rfl rfl) ?_
 have cm:=Cl.new h7 (manyL.map jv) none
 have gm:=(Grow.refl g7.wf).push (.cells (manyL.map jv) (.tip [] 0 none))
 have z8:(h7.push (.cells (manyL.map jv) (.tip [] 0 none))).size=h7.size+1:=rfl
 change WO C _ _ (h7.push (.cells (manyL.map jv) (.tip [] 0 none))) _
 have g8:=g7.trans gm
 replace c2:=c2.grow gm
 replace r7':=r7'.grow gm
 generalize h7.push (.cells (manyL.map jv) (.tip [] 0 none))=h8 at *
 generalize h7.size=m at *
 have s7:=g8.size
 -- the memory at any later time
 let I:Heap→OpV→Prop:=fun h' o=>Cl h' p2 OpV.z.cs∧Cl h' p4 o.cs∧Grow h h'
 have hI:I h8 { OpV.z with op:=d }:=⟨c2,r7',g8⟩
 have ret:∀ (e':List (Nat × V)) (h' h9:Heap) (o o1:OpV) (b:Bool),I h' o1→h'.wr p2 0 o.cs=some h9→Env.get e' 2=some (.ptr (some (p2,0)))→Env.get e' 3=some (.bool b)→b=(y8 ws).isSome→(∀ o',y8 ws=some o'→o=o') →
   Fin .ret∧Wf h9∧∃ v,yo e' h9 [.cell 2 (some 6),.tmp 3]=some v∧(∀ h4,Grow h9 h4→jD ws v∧Grow h h4)∧(v.scopd h.size=true→jD ws v∧Grow h h):=by
  intro e' h' h9 o o1 b ⟨q1,q2,q3⟩ hwr e2 e3 hb ho
  obtain ⟨h9',w9,r9,c9,z9⟩:=q1.sets q3.wf (i:=0) (us:=o.cs) (by simp [OpV.cs,OpV.z]) (by simp [OpV.cs,V.one])
  obtain rfl:h9'=h9:=Option.some.inj (w9.symm.trans hwr)
  have r9':Cl h9' p2 o.cs:=r9
  have g9:Grow h h9':=c9.newGrow q3 hw (by simp;omega)
  refine ⟨trivial,g9.wf,.tuple [.agg o.cs,.bool b],?_,fun h4 g4=>⟨⟨o,b,rfl,hb,ho⟩,g9.trans g4⟩,fun _=>⟨⟨o,b,rfl,hb,ho⟩,Grow.refl hw⟩⟩
  simp only [yo,yE,wO,e2,e3,xi,r9'.rds (k:=6) rfl,zq]
 have wr:∀ (h':Heap) (o1 o:OpV),I h' o1→∃ h9,h'.wr p2 0 o.cs=some h9:=fun h' o1 o ⟨q1,q2,q3⟩=>by
  obtain ⟨h9,w9,_⟩:=q1.sets q3.wf (i:=0) (us:=o.cs) (by simp [OpV.cs,OpV.z]) (by simp [OpV.cs,V.one])
  exact ⟨h9,w9⟩
 have st:∀ h' o (i:Nat) (v:V) (o':OpV),I h' o→V.one v=true→i<6→o.cs.set i v=o'.cs→∃ h1,h'.wr p4 i [v]=some h1∧I h1 o':=fun h' o i v o' ⟨q1,q2,q3⟩ hv hi he=>by
  obtain ⟨h1,w1,r1,r2,r3⟩:=q2.set q3.wf (i:=i) hi hv
  exact ⟨h1,w1,q1.chg r2 (by simp;omega),he ▸ r1,r2.newGrow q3 hw (by simp;omega)⟩
 have gw:∀ h' h'' o,I h' o→Grow h' h''→I h'' o:=fun h' h'' o ⟨q1,q2,q3⟩ g=>⟨q1.grow g,q2.grow g,q3.trans g⟩
 have wd:∀ h' o i,I h' o→i<ws.length→∃ b o',yw 1 x (jv i)=some (.ptr (some (b,o')))∧h'.rd b o'=some (.str (ws.getD i [])):=fun h' o i ⟨q1,q2,q3⟩ hi=>vn (sx.grow q3) hi
 refine omv rfl<|WO.nil<|WC.seq<|WC.seqO<|ofa rfl<|old rfl (r7'.rd (i:=0) rfl) ?_
 have no:y8 ws=none→∀ (e':List (Nat × V)) (h' h9:Heap) (o1:OpV),I h' o1→h'.wr p2 0 OpV.z.cs=some h9→Env.get e' 2=some (.ptr (some (p2,0)))→Env.get e' 3=some (.bool false) →
   Fin .ret∧Wf h9∧∃ v,yo e' h9 [.cell 2 (some 6),.tmp 3]=some v∧(∀ h4,Grow h9 h4→jD ws v∧Grow h h4)∧(v.scopd h.size=true→jD ws v∧Grow h h):=fun hg e' h' h9 o1 i1 w1 e2 e3 =>
  ret e' h' h9 OpV.z o1 false i1 w1 e2 e3 (by rw [hg];rfl) (fun o' q=>by rw [hg] at q;cases q)
 obtain ⟨h9,w9⟩:=wr h8 _ OpV.z hI
 by_cases h0:d<0
 ·have hg:y8 ws=none:=by simp only [y8,hd,if_pos h0]
  exact obn rfl rfl (ltT h0)<|WO.nil<|WC.cond rfl (fun hc=>WC.seqO<|obu rfl rfl<|WO.op (StepK.store (v:=.agg OpV.z.cs) rfl rfl rfl w9)<|omv rfl<|WO.nil<|WC.ret<|no hg _ h8 h9 _ hI w9 rfl rfl) (fun hc=>by cases hc)
 refine obn rfl rfl (ltF h0)<|WO.nil<|WC.cond rfl (fun hc=>by cases hc) (fun hc=>WC.skip ?_)
 have hd11:d.toNat<11:=by have:=hdl.2;simp [nmL] at this;omega
 have im:yw 1 (.slice (some (m,0)) 11 11) (jv d)=some (.ptr (some (m,d.toNat))):=by
  simp only [yw,yp];rw [if_pos ⟨by omega,by omega⟩];simp
 have rm:h8.rd m d.toNat=some (jv (manyL.getD d.toNat 0)):=cm.rd (by
  rw [List.getElem?_map,List.getD_eq_getElem?_getD,List.getElem?_eq_getElem (show d.toNat<manyL.length from hd11)];rfl)
 refine WC.seq<|WC.seqO<|omv rfl<|ols rfl hlen<|omv rfl<|ofa rfl<|old rfl (r7'.rd (i:=0) rfl)<|WO.ops (StepK.idxSl rfl rfl im)<|old rfl rm ?_
 by_cases hm:(ws.length:Int)≠manyL.getD d.toNat 0
 ·have hg:y8 ws=none:=by simp only [y8,hd,if_neg h0,if_pos hm]
  exact obn rfl rfl (neT hm)<|WO.nil<|WC.cond rfl (fun hc=>WC.seqO<|obu rfl rfl<|WO.op (StepK.store (v:=.agg OpV.z.cs) rfl rfl rfl w9)<|omv rfl<|WO.nil<|WC.ret<|no hg _ h8 h9 _ hI w9 rfl rfl) (fun hc=>by cases hc)
 have hm':(ws.length:Int)=manyL.getD d.toNat 0:=Decidable.not_not.1 hm
 refine obn rfl rfl (neF hm')<|WO.nil<|WC.cond rfl (fun hc=>by cases hc) (fun hc=>WC.skip ?_)
 have hl2:2≤ws.length:=by
  have q:∀ i:_root_.Fin 11,2≤manyL.getD i.val 0:=by decide
  have:=q ⟨_,hd11⟩
  simp only at this
  omega
 obtain ⟨b1,o1,i1,j1⟩:=wd h8 _ 1 hI hl2
 obtain ⟨h10,w10,I10⟩:=st h8 _ 1 (.str (ws.getD 1 [])) ⟨d,ws.getD 1 [],[],0,0,[]⟩ hI rfl (by decide) rfl
 have g1010:Grow h h10:=I10.2.2
 refine WC.seqO<|omv rfl<|WO.ops (StepK.idxSl rfl rfl i1)<|old rfl j1<|ofa rfl<|WO.op (StepK.store rfl rfl rfl w10)<|WO.nil<|WC.seqO<|omv rfl<|WO.nil ?_
 clear w9 h9
 generalize hp:ws.getD 1 []=pth at *
 generalize ha:zf (ws.getD 2 [])=na at *
 generalize hb':zf (ws.getD 3 [])=nb at *
 refine WC.seqV (M:=fun e' h'=>∃ (o:OpV) (is:Bool),Cov [(2,.ptr (some (p2,0))),(4,.ptr (some (p4,0))),(6,.bool is)] e'∧I h' o∧(is && (decide (0≤o.off) && decide (0≤o.len)))=(y8 ws).isSome∧∀ o',y8 ws=some o'→o=o') ?_ ?_
 rotate_left
 ·rintro e11 h11 ⟨o,is,k11,I11,hbs,hos⟩
  refine WC.cov k11 ?_
  obtain ⟨h12,w12⟩:=wr h11 _ o I11
  have q2:Cl h11 p4 o.cs:=I11.2.1
  have ro:h11.rd p4 (0+3)=some (jv o.off):=q2.rd (i:=3) rfl
  have rl:h11.rd p4 (0+4)=some (jv o.len):=q2.rd (i:=4) rfl
  have rN:h11.rds p4 0 6=some o.cs:=q2.rds rfl
  have q2':Cl h12 p4 o.cs:=by
   obtain ⟨h13,w13,r13,c13,z13⟩:=I11.1.sets I11.2.2.wf (i:=0) (us:=o.cs) (by simp [OpV.cs,OpV.z]) (by simp [OpV.cs,V.one])
   obtain rfl:h13=h12:=Option.some.inj (w13.symm.trans w12)
   exact q2.chg c13 (by simp;omega)
  have rN':h12.rds p4 0 6=some o.cs:=q2'.rds rfl
  have ro':h12.rd p4 (0+3)=some (jv o.off):=q2'.rd (i:=3) rfl
  have rl':h12.rd p4 (0+4)=some (jv o.len):=q2'.rd (i:=4) rfl
  have fin:=fun e' b (e2:Env.get e' 2=some (.ptr (some (p2,0)))) (e3:Env.get e' 3=some (.bool b)) hb=>ret e' h11 h12 o o b I11 w12 e2 e3 hb hos
  refine WC.seqD<|WD.loadN rfl rN<|dmv rfl<|dmv rfl ?_
  cases his:is with
  | false =>
   rw [his] at hbs
   refine WD.skipn rfl rfl rfl<|WD.skipn rfl rfl rfl<|WD.skipn rfl rfl rfl<|dpf rfl rfl<|dmv rfl<|WD.skipn rfl rfl rfl<|WD.skipn rfl rfl rfl<|WD.skipn rfl rfl rfl<|dpf rfl rfl<|WD.opC (by repeat (first | exact trivial | refine ⟨by with_reducible assumption,?_⟩)) rfl (StepK.store (v:=.agg o.cs) rfl rfl rfl w12)<|dmv rfl<|WD.nil (by repeat (first | exact trivial | refine ⟨by with_reducible assumption,?_⟩))<|WC.ret<|fin _ false rfl rfl (by rw [←hbs];rfl)
  | true =>
   rw [his] at hbs
   refine WD.run rfl<|dfa rfl<|WD.run rfl<|WD.load1 rfl ro<|WD.run rfl ?_
   by_cases h3:0≤o.off
   ·refine dbn rfl rfl (geT h3)<|dpt rfl rfl<|dmv rfl<|WD.run rfl<|dfa rfl<|WD.run rfl<|WD.load1 rfl rl<|WD.run rfl ?_
    by_cases h4:0≤o.len
    ·refine dbn rfl rfl (geT h4)<|dpt rfl rfl<|WD.opC (by repeat (first | exact trivial | refine ⟨by with_reducible assumption,?_⟩)) rfl (StepK.store (v:=.agg o.cs) rfl rfl rfl w12)<|dmv rfl<|WD.nil (by repeat (first | exact trivial | refine ⟨by with_reducible assumption,?_⟩))<|WC.ret<|fin _ true rfl rfl (by rw [←hbs,decide_eq_true h3,decide_eq_true h4];rfl)
    ·refine dbn rfl rfl (geF h4)<|dpt rfl rfl<|WD.opC (by repeat (first | exact trivial | refine ⟨by with_reducible assumption,?_⟩)) rfl (StepK.store (v:=.agg o.cs) rfl rfl rfl w12)<|dmv rfl<|WD.nil (by repeat (first | exact trivial | refine ⟨by with_reducible assumption,?_⟩))<|WC.ret<|fin _ false rfl rfl (by rw [←hbs,decide_eq_true h3,decide_eq_false h4];rfl)
   ·refine dbn rfl rfl (geF h3)<|dpt rfl rfl<|dmv rfl<|WD.skipn rfl rfl rfl<|WD.skipn rfl rfl rfl<|WD.skipn rfl rfl rfl<|dpf rfl rfl<|WD.opC (by repeat (first | exact trivial | refine ⟨by with_reducible assumption,?_⟩)) rfl (StepK.store (v:=.agg o.cs) rfl rfl rfl w12)<|dmv rfl<|WD.nil (by repeat (first | exact trivial | refine ⟨by with_reducible assumption,?_⟩))<|WC.ret<|fin _ false rfl rfl (by rw [←hbs,decide_eq_false h3];rfl)
 have r10:h10.rd p4 (0+0)=some (jv d):=I10.2.1.rd (i:=0) rfl
 refine WC.seq<|WC.ops<|ofa rfl<|old rfl r10<|WO.nil<|WC.block<|?_
 have hmd:∀ {n:Int},manyL.getD d.toNat 0=n→(ws.length:Int)=n:=fun e=>by rw [hm',e]
 refine WC.seqV (M:=fun e' h'=>Cov [(0,x),(34,jv d),(35,.bool (decide (d=2∨d=5))),(2,.ptr (some (p2,0))),(4,.ptr (some (p4,0))),(6,.bool true)] e'∧h'=h10) ?_ ?_
 ·by_cases h2:d=2
  ·rw [decide_eq_true (show d=2∨d=5 from .inl h2)]
   exact WC.seqO<|obn rfl rfl (eqT h2)<|omv rfl<|WO.nil<|WC.cond rfl (fun hc=>WC.skip ⟨Cov.cons rfl (Cov.cons rfl (Cov.cons rfl (Cov.cons rfl (Cov.cons rfl (Cov.cons rfl (Cov.nil _)))))),rfl⟩) (fun hc=>by cases hc)
  ·refine WC.seqO<|obn rfl rfl (eqF h2)<|omv rfl<|WO.nil<|WC.cond rfl (fun hc=>by cases hc) (fun hc=>?_)
   by_cases h5:d=5
   ·rw [decide_eq_true (show d=2∨d=5 from .inr h5)]
    exact WC.ops<|obn rfl rfl (eqT h5)<|omv rfl<|WO.nil ⟨Cov.cons rfl (Cov.cons rfl (Cov.cons rfl (Cov.cons rfl (Cov.cons rfl (Cov.cons rfl (Cov.nil _)))))),rfl⟩
   ·rw [decide_eq_false (show ¬ (d=2∨d=5) from fun q=>by omega)]
    exact WC.ops<|obn rfl rfl (eqF h5)<|omv rfl<|WO.nil ⟨Cov.cons rfl (Cov.cons rfl (Cov.cons rfl (Cov.cons rfl (Cov.cons rfl (Cov.cons rfl (Cov.nil _)))))),rfl⟩
 rintro e7 h7' ⟨k7,rfl⟩
 refine WC.cov k7 ?_
 refine WC.cond rfl (fun hc=>?_) (fun hc=>?_)
 ·have h25:=of_decide_eq_true hc
  have hl3:(ws.length:Int)=3:=by
   rcases h25 with q | q
   ·exact hmd (by rw [q];rfl)
   ·exact hmd (by rw [q];rfl)
  have hR:y8 ws=some ⟨d,pth,ws.getD 2 [],0,0,[]⟩:=by simp only [y8,hd,if_neg h0,if_neg hm,hp,ha,hb',if_pos h25]
  obtain ⟨c1,o1',i2,j2⟩:=wd _ _ 2 I10 (by omega)
  obtain ⟨h11,w11,I11⟩:=st _ _ 2 (.str (ws.getD 2 [])) ⟨d,pth,ws.getD 2 [],0,0,[]⟩ I10 rfl (by decide) rfl
  exact WC.ops<|omv rfl<|WO.ops (StepK.idxSl rfl rfl i2)<|old rfl j2<|ofa rfl<|WO.op (StepK.store rfl rfl rfl w11)<|WO.nil ⟨_,true,Cov.cons rfl (Cov.cons rfl (Cov.cons rfl (Cov.nil _))),I11,by rw [hR];rfl,fun o' q=>by rw [hR] at q;exact Option.some.inj q⟩
 have h25:=of_decide_eq_false hc
 refine WC.seqO ?_
 by_cases h6':d=6
 ·have hl4:(ws.length:Int)=4:=hmd (by rw [h6'];rfl)
  have hR:y8 ws=if 0≤na∧0≤nb then some ⟨d,pth,[],na,nb,[]⟩ else none:=by simp only [y8,hd,if_neg h0,if_neg hm,hp,ha,hb',if_neg h25,if_pos h6']
  refine obn rfl rfl (eqT h6')<|omv rfl<|WO.nil<|WC.cond rfl (fun hc=>WC.seqO ?_) (fun hc=>by cases hc)
  obtain ⟨c1,o1',i2,j2⟩:=wd _ _ 2 I10 (by omega)
  refine omv rfl<|WO.ops (StepK.idxSl rfl rfl i2)<|old rfl j2 ?_
  refine WO.call rfl rfl (xy S _ I10.2.2.wf _ (okd 2).1 (okd 2).2) ?_
  rintro _ h11 ⟨rfl,g11⟩
  rw [ha]
  obtain ⟨h12,w12,I12⟩:=st h11 _ 3 (jv na) ⟨d,pth,[],na,0,[]⟩ (gw _ _ _ I10 g11) rfl (by decide) rfl
  refine ofa rfl<|WO.op (StepK.store rfl rfl rfl w12)<|WO.nil<|WC.ops ?_
  obtain ⟨c3,o3,i3,j3⟩:=wd _ _ 3 I12 (by omega)
  refine omv rfl<|WO.ops (StepK.idxSl rfl rfl i3)<|old rfl j3 ?_
  refine WO.call rfl rfl (xy S _ I12.2.2.wf _ (okd 3).1 (okd 3).2) ?_
  rintro _ h13 ⟨rfl,g13⟩
  rw [hb']
  obtain ⟨h14,w14,I14⟩:=st h13 _ 4 (jv nb) ⟨d,pth,[],na,nb,[]⟩ (gw _ _ _ I12 g13) rfl (by decide) rfl
  refine ofa rfl<|WO.op (StepK.store rfl rfl rfl w14)<|WO.nil ⟨_,true,Cov.cons rfl (Cov.cons rfl (Cov.cons rfl (Cov.nil _))),I14,?_,fun o' q=>?_⟩
  ·rw [hR];by_cases q1:0≤na <;> by_cases q2:0≤nb <;> simp [q1,q2]
  ·rw [hR] at q;split at q
   ·exact Option.some.inj q
   ·cases q
 refine obn rfl rfl (eqF h6')<|omv rfl<|WO.nil<|WC.cond rfl (fun hc=>by cases hc) (fun hc=>WC.seqO ?_)
 by_cases h7':d=7
 ·have hl4:(ws.length:Int)=4:=hmd (by rw [h7'];rfl)
  have hR:y8 ws=if (zl (ws.getD 3 [])).isSome=true∧0≤na then some ⟨d,pth,[],na,0,(zl (ws.getD 3 [])).getD []⟩ else none:=by simp only [y8,hd,if_neg h0,if_neg hm,hp,ha,hb',if_neg h25,if_neg h6',if_pos h7']
  refine obn rfl rfl (eqT h7')<|omv rfl<|WO.nil<|WC.cond rfl (fun hc=>WC.seqO ?_) (fun hc=>by cases hc)
  obtain ⟨c1,o1',i2,j2⟩:=wd _ _ 2 I10 (by omega)
  refine omv rfl<|WO.ops (StepK.idxSl rfl rfl i2)<|old rfl j2 ?_
  refine WO.call rfl rfl (xy S _ I10.2.2.wf _ (okd 2).1 (okd 2).2) ?_
  rintro _ h11 ⟨rfl,g11⟩
  rw [ha]
  obtain ⟨h12,w12,I12⟩:=st h11 _ 3 (jv na) ⟨d,pth,[],na,0,[]⟩ (gw _ _ _ I10 g11) rfl (by decide) rfl
  refine ofa rfl<|WO.op (StepK.store rfl rfl rfl w12)<|WO.nil<|WC.seqO ?_
  obtain ⟨c3,o3,i3,j3⟩:=wd _ _ 3 I12 (by omega)
  refine omv rfl<|WO.ops (StepK.idxSl rfl rfl i3)<|old rfl j3 ?_
  refine WO.call rfl rfl (oz S _ I12.2.2.wf _ (okd 3).1 (okd 3).2) ?_
  rintro _ h13 ⟨⟨dt,rfl,hdt⟩,g13⟩
  obtain ⟨h14,w14,I14⟩:=st h13 _ 5 (.str dt) ⟨d,pth,[],na,0,dt⟩ (gw _ _ _ I12 g13) rfl (by decide) rfl
  refine omv rfl<|oex rfl rfl<|oex rfl rfl<|omv rfl<|omv rfl<|WO.nil<|WC.seqO<|omv rfl<|ofa rfl<|WO.op (StepK.store rfl rfl rfl w14)<|WO.nil<|WC.ops<|omv rfl<|omv rfl<|WO.nil ⟨_,(zl (ws.getD 3 [])).isSome,Cov.cons rfl (Cov.cons rfl (Cov.cons rfl (Cov.nil _))),I14,?_,fun o' q=>?_⟩
  ·rw [hR];by_cases q1:0≤na <;> cases q2:(zl (ws.getD 3 [])).isSome <;> simp [q1]
  ·rw [hR] at q;split at q
   ·rename_i q2
    rw [←Option.some.inj q]
    cases hq:zl (ws.getD 3 []) with
    | none=>rw [hq] at q2;simp at q2
    | some t=>rw [hdt t hq];rfl
   ·cases q
 refine obn rfl rfl (eqF h7')<|omv rfl<|WO.nil<|WC.cond rfl (fun hc=>by cases hc) (fun hc=>WC.seqO ?_)
 by_cases h8':d=8
 ·have hl4:(ws.length:Int)=3:=hmd (by rw [h8'];rfl)
  have hR:y8 ws=if 0≤na then some ⟨d,pth,[],0,na,[]⟩ else none:=by simp only [y8,hd,if_neg h0,if_neg hm,hp,ha,hb',if_neg h25,if_neg h6',if_neg h7',if_pos h8']
  refine obn rfl rfl (eqT h8')<|omv rfl<|WO.nil<|WC.cond rfl (fun hc=>WC.ops ?_) (fun hc=>by cases hc)
  obtain ⟨c1,o1',i2,j2⟩:=wd _ _ 2 I10 (by omega)
  refine omv rfl<|WO.ops (StepK.idxSl rfl rfl i2)<|old rfl j2 ?_
  refine WO.call rfl rfl (xy S _ I10.2.2.wf _ (okd 2).1 (okd 2).2) ?_
  rintro _ h11 ⟨rfl,g11⟩
  rw [ha]
  obtain ⟨h12,w12,I12⟩:=st h11 _ 4 (jv na) ⟨d,pth,[],0,na,[]⟩ (gw _ _ _ I10 g11) rfl (by decide) rfl
  refine ofa rfl<|WO.op (StepK.store rfl rfl rfl w12)<|WO.nil ⟨_,true,Cov.cons rfl (Cov.cons rfl (Cov.cons rfl (Cov.nil _))),I12,?_,fun o' q=>?_⟩
  ·rw [hR];by_cases q1:0≤na <;> simp [q1]
  ·rw [hR] at q;split at q
   ·exact Option.some.inj q
   ·cases q
 have hR:y8 ws=some ⟨d,pth,[],0,0,[]⟩:=by simp only [y8,hd,if_neg h0,if_neg hm,hp,ha,hb',if_neg h25,if_neg h6',if_neg h7',if_neg h8']
 exact obn rfl rfl (eqF h8')<|omv rfl<|WO.nil<|WC.cond rfl (fun hc=>by cases hc) (fun hc=>WC.skip ⟨_,true,Cov.cons rfl (Cov.cons rfl (Cov.cons rfl (Cov.nil _))),I10,by rw [hR];rfl,fun o' q=>by rw [hR] at q;exact Option.some.inj q⟩)
end
end Abs
end Go.Proofs.YthgcjbniipfnbaaGreatDoor
namespace Go.Proofs.YthgcjbniipfnbaaGreatDoor
namespace Abs
set_option linter.unusedVariables false
set_option linter.unusedSimpArgs false
open Go.RowKit
attribute [local irreducible] WO WC WD StepK Ans Does Runs DoesD
def snL:List (List Nat):=[[],[],[115,110,97,112],[114,111,108,108,98,97,99,107],[100,101,115,116,114,111,121]]
noncomputable def zo (ws:List (List Nat)):Option ItV :=
 let w0:=ws.getD 0 []
 let k:=zk w0 snL 0
 if 2≤k then (if ws.length=2 then some { ItV.z with op:=k,name:=ws.getD (ws.length-1) [] } else none) else
 if w0=[115,101,101]∧2<ws.length then (match y8 (ws.drop 2) with
  | some o=>if o.op=6∨o.op=9∨o.op=10 then some { ItV.z with op:=5,name:=ws.getD 1 [],o:=o } else none
  | none=>none) else
 if w0=[115,116,101,112]∧ws.length=3 then (if 0≤zf (ws.getD 1 [])∧0≤zf (ws.getD 2 []) then some { ItV.z with op:=7,now:=zf (ws.getD 1 []),n:=zf (ws.getD 2 []) } else none) else
 if w0=[115,112,111,105,108]∧ws.length=4 then (if (zl (ws.getD 3 [])).isSome=true∧0≤zf (ws.getD 1 [])∧0≤zf (ws.getD 2 []) then some { ItV.z with op:=9,dev:=zf (ws.getD 1 []),at':=zf (ws.getD 2 []),data:=(zl (ws.getD 3 [])).getD [] } else none) else
 if w0=[108,111,115,101]∧ws.length=2 then (if 0≤zf (ws.getD 1 []) then some { ItV.z with op:=10,n:=zf (ws.getD 1 []) } else none) else none
def RnR (ws:List (List Nat)) (v:V):Prop:=∃ (x:ItV) (b:Bool),v=.tuple [.agg x.cs,.bool b]∧b=(zo ws).isSome∧∀ x',zo ws=some x'→x=x'
theorem WC.seqB {C:Cfg} {ops:List AOp} {t:Nat} {a b:AC} {e E:List (Nat × V)} {h:Heap} {Q:Ex→List (Nat × V)→Heap→Prop} (c:Bool)
  (hx:WO C ops e h fun e' h'=>h'=h∧Cov E e'∧Env.get e' t=some (.bool c)) (h1:c=true→WC C a E h Q) (h2:c=false→WC C b E h Q):WC C (.seq (.ops ops) (.cond (.t t) a b)) e h Q:=by
 refine WC.seqO (WO.mono hx fun e' h' ⟨q1,q2,q3⟩=>?_)
 subst q1
 exact WC.cond (t:=c) q3 (fun q=>WC.cov q2 (h1 q)) (fun q=>WC.cov q2 (h2 q))
section
variable {C:Cfg} (S:StdL C)
include S
theorem gI (h:Heap) (hw:Wf h) (x:V) (ws:List (List Nat)) (sx:Sl h 1 x (zB ws)) (h1:1≤ws.length) (hmx:ws.length≤1000000) (ok:we ws):Ans C 26 [x] h fun v h'=>RnR ws v∧Grow h h':=by
 have hF:C.F 26=some a26:=S.f rfl
 unfold a26 at hF
 refine Ans.fn (fun _ _=>S.s _ _ _ rfl) hF rfl rfl hw fun h2 g=>?_
 clear hF
 have hlen:zw x=some ws.length:=by have:=sx.len;simpa using this
 have okd:∀ i,Byt (ws.getD i [])∧(ws.getD i []).length≤1000000:=fun i=>by
  rw [List.getD_eq_getElem?_getD]
  cases hq:ws[i]? with
  | none=>exact ⟨Byt.nil,by simp⟩
  | some t=>exact ok t (List.mem_of_getElem? hq)
 have hs2:=g.size
 refine WC.seqO<|WO.ops StepK.alloc ?_
 have c2:=Cl.new h2 ItV.z.cs none
 have g3:=g.push (.cells ItV.z.cs (.tip [] 0 none))
 have z3:(h2.push (.cells ItV.z.cs (.tip [] 0 none))).size=h2.size+1:=rfl
 change WO C _ _ (h2.push (.cells ItV.z.cs (.tip [] 0 none))) _
 generalize h2.push (.cells ItV.z.cs (.tip [] 0 none))=h3 at *
 generalize h2.size=p2 at *
 refine omv rfl<|WO.nil<|WC.seqO<|obu rfl rfl<|WO.ops StepK.alloc ?_
 have c4:=Cl.new h3 ItV.z.cs none
 have gp:=(Grow.refl g3.wf).push (.cells ItV.z.cs (.tip [] 0 none))
 have z4:(h3.push (.cells ItV.z.cs (.tip [] 0 none))).size=h3.size+1:=rfl
 change WO C _ _ (h3.push (.cells ItV.z.cs (.tip [] 0 none))) _
 have g4:=g3.trans gp
 replace c2:=c2.grow gp
 generalize h3.push (.cells ItV.z.cs (.tip [] 0 none))=h4 at *
 generalize h3.size=p4 at *
 obtain ⟨h5,w5,r5,c5,z5⟩:=c4.sets g4.wf (i:=0) (us:=ItV.z.cs) (by simp [ItV.cs]) (by simp [ItV.cs,V.one,ItV.z,OpV.z])
 have r5':Cl h5 p4 ItV.z.cs:=r5
 have g5:Grow h h5:=c5.newGrow g4 hw (by simp;omega)
 replace c2:=c2.chg c5 (by simp;omega)
 refine WO.op (StepK.store (v:=.agg ItV.z.cs) rfl rfl rfl w5)<|WO.nil<|WC.seqO<|WO.ops (StepK.buildSl rfl rfl) ?_
 have gm:=(Grow.refl g5.wf).push (.cells (snL.map V.str) (.tip [] 0 (some 9)))
 have sy:Sl (h5.push (.cells (snL.map V.str) (.tip [] 0 (some 9)))) 1 (.slice (some (h5.size,0)) 5 5) (zB snL):=wN (Cl.new _ _ _) rfl
 change WO C _ _ (h5.push (.cells (snL.map V.str) (.tip [] 0 (some 9)))) _
 have g6:=g5.trans gm
 replace c2:=c2.grow gm
 replace r5':=r5'.grow gm
 generalize h5.push (.cells (snL.map V.str) (.tip [] 0 (some 9)))=h6 at *
 let I:Heap→Prop:=fun h'=>Cl h' p2 ItV.z.cs∧Cl h' p4 ItV.z.cs∧Grow h h'
 have gw:∀ h' h'',I h'→Grow h' h''→I h'':=fun h' h'' ⟨q1,q2,q3⟩ g=>⟨q1.grow g,q2.grow g,q3.trans g⟩
 have wd:∀ h' i,Grow h h'→i<ws.length→∃ b o',yw 1 x (jv i)=some (.ptr (some (b,o')))∧h'.rd b o'=some (.str (ws.getD i [])):=fun h' i q3 hi=>vn (sx.grow q3) hi
 have ret:∀ (e':List (Nat × V)) (h' h9:Heap) (y:ItV) (b:Bool),I h'→h'.wr p2 0 y.cs=some h9→Env.get e' 2=some (.ptr (some (p2,0)))→Env.get e' 3=some (.bool b)→b=(zo ws).isSome→(∀ o',zo ws=some o'→y=o') →
   Fin .ret∧Wf h9∧∃ v,yo e' h9 [.cell 2 (some 14),.tmp 3]=some v∧(∀ h4,Grow h9 h4→RnR ws v∧Grow h h4)∧(v.scopd h.size=true→RnR ws v∧Grow h h):=by
  intro e' h' h9 o b ⟨q1,q2,q3⟩ hwr e2 e3 hb ho
  obtain ⟨h9',w9,r9,c9,z9⟩:=q1.sets q3.wf (i:=0) (us:=o.cs) (by simp [ItV.cs]) (by simp [ItV.cs,V.one])
  obtain rfl:h9'=h9:=Option.some.inj (w9.symm.trans hwr)
  have r9':Cl h9' p2 o.cs:=r9
  have g9:Grow h h9':=c9.newGrow q3 hw (by simp;omega)
  refine ⟨trivial,g9.wf,.tuple [.agg o.cs,.bool b],?_,fun h4 g4=>⟨⟨o,b,rfl,hb,ho⟩,g9.trans g4⟩,fun _=>⟨⟨o,b,rfl,hb,ho⟩,Grow.refl hw⟩⟩
  simp only [yo,yE,wO,e2,e3,xi,r9'.rds (k:=14) rfl,zq]
 have wr:∀ (h':Heap) (y:ItV),I h'→∃ h9,h'.wr p2 0 y.cs=some h9∧(∀ {b cs},Cl h' b cs→b≠p2→Cl h9 b cs)∧Grow h h9:=fun h' y ⟨q1,q2,q3⟩=>by
  obtain ⟨h9,w9,r9,c9,z9⟩:=q1.sets q3.wf (i:=0) (us:=y.cs) (by simp [ItV.cs]) (by simp [ItV.cs,V.one])
  exact ⟨h9,w9,fun c hb=>c.chg c9 (by simpa using hb),c9.newGrow q3 hw (by simp;omega)⟩
 have I6:I h6:=⟨c2,r5',g6⟩
 obtain ⟨cb,co,k1,k2⟩:=wd h6 0 g6 (by omega)
 refine omv rfl<|WO.ops (StepK.idxSl rfl rfl k1)<|old rfl k2 ?_
 refine WO.call rfl rfl (rn S h6 g6.wf _ snL _ sy (by decide)) ?_
 rintro _ h7 ⟨rfl,g7⟩
 have I7:=gw _ _ I6 g7
 have g17:=I7.2.2
 clear c2 c4 r5' r5 c5 w5 I6 sy gm g5 g6 g7 g4 gp g3
 generalize hk:zk (ws.getD 0 []) snL 0=k at *
 refine omv rfl<|WO.nil<|WC.seq<|WC.seqO<|omv rfl ?_
 by_cases hk2:2≤k
 ·have hR:zo ws=if ws.length=2 then some { ItV.z with op:=k,name:=ws.getD (ws.length-1) [] } else none:=by simp only [zo,hk,if_pos hk2]
  obtain ⟨b1,o1,i1,j1⟩:=wd h7 (ws.length-1) g17 (by omega)
  obtain ⟨h9,w9,_,_⟩:=wr h7 { ItV.z with op:=k,name:=ws.getD (ws.length-1) [] } I7
  have hsub:zi .sub (jv ws.length) (jv 1)=some (jv ((ws.length-1:Nat):Int)):=by
   show some (V.int .i64 (IntKind.i64.wrap _))=_
   rw [StepK.wrap64 (by omega) (by omega)]
   congr 2;omega
  refine obn rfl rfl (geT hk2)<|WO.nil<|WC.cond rfl (fun hc=>WC.seqO ?_) (fun hc=>by cases hc)
  refine omv rfl<|omv rfl<|omv rfl<|ols rfl hlen<|obn rfl rfl hsub<|WO.ops (StepK.idxSl rfl rfl i1)<|old rfl j1<|obu rfl rfl<|omv rfl<|ols rfl hlen ?_
  by_cases hl:ws.length=2
  ·exact obn rfl rfl (eqT (by omega))<|WO.op (StepK.store (v:=.agg ({ ItV.z with op:=k,name:=ws.getD (ws.length-1) [] }:ItV).cs) rfl rfl rfl w9)<|omv rfl<|WO.nil<|WC.ret<|ret _ h7 h9 _ true I7 w9 rfl rfl (by rw [hR,if_pos hl];rfl) (fun o' q=>by rw [hR,if_pos hl] at q;exact Option.some.inj q)
  ·exact obn rfl rfl (eqF (by omega))<|WO.op (StepK.store (v:=.agg ({ ItV.z with op:=k,name:=ws.getD (ws.length-1) [] }:ItV).cs) rfl rfl rfl w9)<|omv rfl<|WO.nil<|WC.ret<|ret _ h7 h9 _ false I7 w9 rfl rfl (by rw [hR,if_neg hl];rfl) (fun o' q=>by rw [hR,if_neg hl] at q;cases q)
 refine obn rfl rfl (geF hk2)<|WO.nil<|WC.cond rfl (fun hc=>by cases hc) (fun hc=>WC.skip ?_)
 obtain ⟨b0,o0,i0,j0⟩:=wd h7 0 g17 (by omega)
 -- see
 refine WC.seqV (M:=fun e' h'=>Cov [(0,x),(2,.ptr (some (p2,0))),(4,.ptr (some (p4,0)))] e'∧h'=h7∧¬ (ws.getD 0 []=[115,101,101]∧2<ws.length)) ?_ ?_
 ·refine WC.seqB (E:=[(0,x),(2,.ptr (some (p2,0))),(4,.ptr (some (p4,0)))]) (decide (ws.getD 0 []=[115,101,101]∧2<ws.length)) ?_ (fun hc=>?_) (fun hc=>WC.skip ⟨Cov.refl _,rfl,of_decide_eq_false hc⟩)
  ·refine omv rfl<|WO.ops (StepK.idxSl rfl rfl i0)<|old rfl j0 ?_
   by_cases e0:ws.getD 0 []=[115,101,101]
   ·refine obn rfl rfl (seT e0)<|omv rfl<|WO.run rfl<|omv rfl<|WO.run rfl<|ols rfl hlen<|WO.run rfl ?_
    by_cases hl:2<ws.length
    ·exact obn rfl rfl (gtT (by omega))<|opt rfl rfl<|WO.nil ⟨rfl,Cov.cons rfl (Cov.cons rfl (Cov.cons rfl (Cov.nil _))),by rw [decide_eq_true (show _∧_ from ⟨e0,hl⟩)];rfl⟩
    ·exact obn rfl rfl (gtF (by omega))<|opt rfl rfl<|WO.nil ⟨rfl,Cov.cons rfl (Cov.cons rfl (Cov.cons rfl (Cov.nil _))),by rw [decide_eq_false (fun q=>hl q.2)];rfl⟩
   ·refine obn rfl rfl (seF e0)<|omv rfl<|WO.skip rfl rfl<|WO.skip rfl rfl<|WO.skip rfl rfl<|opf rfl rfl<|WO.nil ⟨rfl,Cov.cons rfl (Cov.cons rfl (Cov.cons rfl (Cov.nil _))),by rw [decide_eq_false (fun q=>e0 q.1)];rfl⟩
  ·have hs:=of_decide_eq_true hc
   have hR:zo ws=match y8 (ws.drop 2) with
     | some o=>if o.op=6∨o.op=9∨o.op=10 then some { ItV.z with op:=5,name:=ws.getD 1 [],o:=o } else none
     | none=>none:=by simp only [zo,hk,if_neg hk2,if_pos hs]
   obtain ⟨v2,d1,d2⟩:=(sx.grow g17).drop1 (i:=2) (by simp;omega)
   rw [←List.map_drop] at d2
   refine WC.seqO<|omv rfl<|WO.ops (StepK.sliceSl rfl rfl rfl rfl d1) ?_
   refine WO.call rfl rfl (iB S h7 g17.wf v2 (ws.drop 2) d2 (by simp;omega) (fun w hw=>ok w (List.mem_of_mem_drop hw))) ?_
   rintro _ h8 ⟨⟨o,b,rfl,hb,ho⟩,g8⟩
   have I8:=gw _ _ I7 g8
   refine omv rfl<|oex rfl rfl<|oex rfl rfl<|WO.ops StepK.alloc ?_
   have c6:=Cl.new h8 OpV.z.cs none
   have gp:=(Grow.refl I8.2.2.wf).push (.cells OpV.z.cs (.tip [] 0 none))
   change WO C _ _ (h8.push (.cells OpV.z.cs (.tip [] 0 none))) _
   have I9:=gw _ _ I8 gp
   have s8:=I8.2.2.size
   have hp28:=I8.1.lt I8.2.2.wf
   have hp48:=I8.2.1.lt I8.2.2.wf
   generalize h8.push (.cells OpV.z.cs (.tip [] 0 none))=h9 at *
   obtain ⟨h10,w10,r10,c10,z10⟩:=c6.sets I9.2.2.wf (i:=0) (us:=o.cs) (by simp [OpV.cs,OpV.z]) (by simp [OpV.cs,V.one])
   have r10':Cl h10 h8.size o.cs:=r10
   have I10:I h10:=⟨I9.1.chg c10 (by simp;omega),I9.2.1.chg c10 (by simp;omega),c10.newGrow I9.2.2 hw (by simp;omega)⟩
   generalize h8.size=p6 at *
   refine WO.op (StepK.store (v:=.agg o.cs) rfl rfl rfl w10)<|omv rfl<|WO.nil ?_
   obtain ⟨b1,o1,i1,j1⟩:=wd h10 1 I10.2.2 (by omega)
   let y:ItV:={ ItV.z with op:=5,name:=ws.getD 1 [],o:=o }
   obtain ⟨h11,w11,kp,g11⟩:=wr h10 y I10
   have j1':h11.rd b1 o1=some (.str (ws.getD 1 [])):=by
    obtain ⟨b',o',e1,e2⟩:=wd h11 1 g11 (by omega)
    cases i1.symm.trans e1;exact e2
   have hp6:p6≠p2:=by omega
   have ro:h10.rd p6 (0+0)=some (jv o.op):=r10'.rd (i:=0) rfl
   have ro':h11.rd p6 (0+0)=some (jv o.op):=(kp r10' hp6).rd (i:=0) rfl
   have rN:h10.rds p6 0 6=some o.cs:=r10'.rds rfl
   have rN':h11.rds p6 0 6=some o.cs:=(kp r10' hp6).rds rfl
   have fin:=fun e' b (e2:Env.get e' 2=some (.ptr (some (p2,0)))) (e3:Env.get e' 3=some (.bool b)) hb=>ret e' h10 h11 y b I10 w11 e2 e3 hb (fun o' q=>by
    rw [hR] at q
    cases hq:y8 (ws.drop 2) with
    | none=>rw [hq] at q;cases q
    | some o2 =>
     rw [hq] at q
     dsimp only at q
     split at q
     ·rw [←Option.some.inj q,←ho o2 hq]
     ·cases q)
   have hn:∀ bb:Bool,(b && (decide (o.op=6) || (decide (o.op=9) || decide (o.op=10))))=bb→bb=(zo ws).isSome:=by
    intro bb hbb
    rw [hR,←hbb]
    cases hq:y8 (ws.drop 2) with
    | none=>rw [hq] at hb;rw [hb];rfl
    | some o2 =>
     rw [hq] at hb
     rw [hb,ho o2 hq]
     by_cases q6:o2.op=6 <;> by_cases q9:o2.op=9 <;> by_cases q10:o2.op=10 <;> simp [q6,q9,q10]
   refine WC.seqD<|dmv rfl<|WD.pure (StepK.idxSl rfl rfl i1) rfl<|WD.load1 rfl j1<|WD.loadN rfl rN<|dbu rfl rfl<|dmv rfl<|dmv rfl ?_
   cases hbb:b with
   | false =>
    exact WD.skipn rfl rfl rfl<|WD.skipn rfl rfl rfl<|WD.skipn rfl rfl rfl<|WD.skipn rfl rfl rfl<|WD.skipun rfl rfl<|WD.skipun rfl rfl<|WD.skipun rfl rfl<|WD.skipn rfl rfl rfl<|WD.skipn rfl rfl rfl<|WD.skipun rfl rfl<|WD.skipun rfl rfl<|WD.skipun rfl rfl<|WD.skipn rfl rfl rfl<|dpf rfl rfl<|WD.opC (by repeat (first | exact trivial | refine ⟨by first | with_reducible assumption | assumption,?_⟩)) rfl (StepK.store (v:=.agg y.cs) rfl rfl rfl w11)<|dmv rfl<|WD.nil (by repeat (first | exact trivial | refine ⟨by first | with_reducible assumption | assumption,?_⟩))<|WC.ret<|fin _ false rfl rfl (hn _ (by rw [hbb];rfl))
   | true =>
    refine WD.run rfl<|dfa rfl<|WD.run rfl<|WD.load1 rfl ro<|WD.run rfl ?_
    by_cases q6:o.op=6
    ·exact dbn rfl rfl (eqT q6)<|WD.run rfl<|dmv rfl<|WD.skipn rfl rfl rfl<|WD.skipn rfl rfl rfl<|WD.skipn rfl rfl rfl<|WD.run rfl<|dpt rfl rfl<|WD.run rfl<|dmv rfl<|WD.skipn rfl rfl rfl<|WD.skipn rfl rfl rfl<|WD.skipn rfl rfl rfl<|WD.run rfl<|dpt rfl rfl<|dpt rfl rfl<|WD.opC (by repeat (first | exact trivial | refine ⟨by first | with_reducible assumption | assumption,?_⟩)) rfl (StepK.store (v:=.agg y.cs) rfl rfl rfl w11)<|dmv rfl<|WD.nil (by repeat (first | exact trivial | refine ⟨by first | with_reducible assumption | assumption,?_⟩))<|WC.ret<|fin _ true rfl rfl (hn _ (by rw [hbb,decide_eq_true q6];rfl))
    refine dbn rfl rfl (eqF q6)<|WD.run rfl<|dmv rfl<|WD.run rfl<|dfa rfl<|WD.run rfl<|WD.load1 rfl ro<|WD.run rfl ?_
    by_cases q9:o.op=9
    ·exact dbn rfl rfl (eqT q9)<|WD.run rfl<|dpf rfl rfl<|WD.run rfl<|dmv rfl<|WD.skipn rfl rfl rfl<|WD.skipn rfl rfl rfl<|WD.skipn rfl rfl rfl<|WD.run rfl<|dpt rfl rfl<|dpt rfl rfl<|WD.opC (by repeat (first | exact trivial | refine ⟨by first | with_reducible assumption | assumption,?_⟩)) rfl (StepK.store (v:=.agg y.cs) rfl rfl rfl w11)<|dmv rfl<|WD.nil (by repeat (first | exact trivial | refine ⟨by first | with_reducible assumption | assumption,?_⟩))<|WC.ret<|fin _ true rfl rfl (hn _ (by rw [hbb,decide_eq_false q6,decide_eq_true q9];rfl))
    refine dbn rfl rfl (eqF q9)<|WD.run rfl<|dpf rfl rfl<|WD.run rfl<|dmv rfl<|WD.run rfl<|dfa rfl<|WD.run rfl<|WD.load1 rfl ro<|WD.run rfl ?_
    by_cases q10:o.op=10
    ·exact dbn rfl rfl (eqT q10)<|WD.run rfl<|dpf rfl rfl<|dpt rfl rfl<|WD.opC (by repeat (first | exact trivial | refine ⟨by first | with_reducible assumption | assumption,?_⟩)) rfl (StepK.store (v:=.agg y.cs) rfl rfl rfl w11)<|dmv rfl<|WD.nil (by repeat (first | exact trivial | refine ⟨by first | with_reducible assumption | assumption,?_⟩))<|WC.ret<|fin _ true rfl rfl (hn _ (by rw [hbb,decide_eq_false q6,decide_eq_false q9,decide_eq_true q10];rfl))
    ·exact dbn rfl rfl (eqF q10)<|WD.run rfl<|dpf rfl rfl<|dpt rfl rfl<|WD.opC (by repeat (first | exact trivial | refine ⟨by first | with_reducible assumption | assumption,?_⟩)) rfl (StepK.store (v:=.agg y.cs) rfl rfl rfl w11)<|dmv rfl<|WD.nil (by repeat (first | exact trivial | refine ⟨by first | with_reducible assumption | assumption,?_⟩))<|WC.ret<|fin _ false rfl rfl (hn _ (by rw [hbb,decide_eq_false q6,decide_eq_false q9,decide_eq_false q10];rfl))
 rintro e8 h8' ⟨k8,hE,hsee⟩
 rw [hE]
 clear hE
 refine WC.cov k8 ?_
 refine WC.seqV (M:=fun e' h'=>Cov [(0,x),(2,.ptr (some (p2,0))),(4,.ptr (some (p4,0)))] e'∧h'=h7∧¬ (ws.getD 0 []=[115,116,101,112]∧ws.length=3)) ?_ ?_
 ·refine WC.seqB (E:=[(0,x),(2,.ptr (some (p2,0))),(4,.ptr (some (p4,0)))]) (decide (ws.getD 0 []=[115,116,101,112]∧ws.length=3)) ?_ (fun hc=>?_) (fun hc=>WC.skip ⟨Cov.refl _,rfl,of_decide_eq_false hc⟩)
  ·refine omv rfl<|WO.ops (StepK.idxSl rfl rfl i0)<|old rfl j0 ?_
   by_cases e0:ws.getD 0 []=[115,116,101,112]
   ·refine obn rfl rfl (seT e0)<|omv rfl<|WO.run rfl<|omv rfl<|WO.run rfl<|ols rfl hlen<|WO.run rfl ?_
    by_cases hl:ws.length=3
    ·exact obn rfl rfl (eqT (by omega))<|opt rfl rfl<|WO.nil ⟨rfl,Cov.cons rfl (Cov.cons rfl (Cov.cons rfl (Cov.nil _))),by rw [decide_eq_true (show _∧_ from ⟨e0,hl⟩)];rfl⟩
    ·exact obn rfl rfl (eqF (by omega))<|opt rfl rfl<|WO.nil ⟨rfl,Cov.cons rfl (Cov.cons rfl (Cov.cons rfl (Cov.nil _))),by rw [decide_eq_false (fun q=>hl q.2)];rfl⟩
   ·refine obn rfl rfl (seF e0)<|omv rfl<|WO.skip rfl rfl<|WO.skip rfl rfl<|WO.skip rfl rfl<|opf rfl rfl<|WO.nil ⟨rfl,Cov.cons rfl (Cov.cons rfl (Cov.cons rfl (Cov.nil _))),by rw [decide_eq_false (fun q=>e0 q.1)];rfl⟩
  ·have hs:=of_decide_eq_true hc
   have hl3:=hs.2
   generalize hA:zf (ws.getD 1 [])=A
   generalize hB:zf (ws.getD 2 [])=B
   have hR:zo ws=if 0≤A∧0≤B then some { ItV.z with op:=7,now:=A,n:=B } else none:=by simp only [zo,hk,if_neg hk2,if_neg hsee,if_pos hs,hA,hB]
   obtain ⟨b1,o1,i1,j1⟩:=wd h7 1 g17 (by omega)
   obtain ⟨b2,o2,i2,j2⟩:=wd h7 2 g17 (by omega)
   have hq2:=I7.1.lt g17.wf
   have hq4:=I7.2.1.lt g17.wf
   have s7:=g17.size
   refine WC.seqD<|dmv rfl<|WD.pure (StepK.idxSl rfl rfl i1) rfl<|WD.load1 rfl j1<|dmv rfl<|WD.pure (StepK.idxSl rfl rfl i2) rfl<|WD.load1 rfl j2<|WD.alloc rfl StepK.alloc ?_
   have hnew:(h7.push (.cells ItV.z.cs (.tip [] 0 none))).get h7.size=some (.cells ItV.z.cs (.tip [] 0 none)):=zg _ _
   have gp:=(Grow.refl g17.wf).push (.cells ItV.z.cs (.tip [] 0 none))
   have c8:=Cl.new h7 ItV.z.cs none
   change WD C _ _ _ _ (h7.push (.cells ItV.z.cs (.tip [] 0 none))) _
   have I8:=gw _ _ I7 gp
   have j18:=gp.rd j1
   have j28:=gp.rd j2
   generalize h7.push (.cells ItV.z.cs (.tip [] 0 none))=h8 at *
   refine WD.call (by repeat (first | exact trivial | refine ⟨by first | with_reducible assumption | assumption,?_⟩)) rfl rfl (xy S h8 I8.2.2.wf _ (okd 1).1 (okd 1).2) ?_
   rintro _ h9 ⟨rfl,g9⟩
   rw [hA]
   have I9:=gw _ _ I8 g9
   have j19:=g9.rd j18
   have j29:=g9.rd j28
   have hnew9:=g9.ext _ _ hnew
   refine WD.call (by repeat (first | exact trivial | refine ⟨by first | with_reducible assumption | assumption,?_⟩)) rfl rfl (xy S h9 I9.2.2.wf _ (okd 2).1 (okd 2).2) ?_
   rintro _ h10 ⟨rfl,g10⟩
   rw [hB]
   have I10:=gw _ _ I9 g10
   have j110:=g10.rd j19
   have j210:=g10.rd j29
   have hnew10:=g10.ext _ _ hnew9
   let y:ItV:={ ItV.z with op:=7,now:=A,n:=B }
   obtain ⟨h11,w11,r11,c11,z11⟩:=((c8.grow g9).grow g10).sets I10.2.2.wf (i:=0) (us:=y.cs) (by simp [ItV.cs]) (by simp [ItV.cs,V.one])
   have r11':Cl h11 h7.size y.cs:=r11
   have I11:I h11:=⟨I10.1.chg c11 (by simp;omega),I10.2.1.chg c11 (by simp;omega),c11.newGrow I10.2.2 hw (by simp;omega)⟩
   refine dbu rfl rfl<|WD.opC (by repeat (first | exact trivial | refine ⟨by first | with_reducible assumption | assumption,?_⟩)) rfl (StepK.store (v:=.agg y.cs) rfl rfl rfl w11)<|WD.nil (by repeat (first | exact trivial | refine ⟨by first | with_reducible assumption | assumption,?_⟩)) ?_
   obtain ⟨h12,w12,kp,g12⟩:=wr h11 y I11
   have r12':=kp r11' (by omega)
   have ra:h11.rd h7.size (0+8)=some (jv A):=r11'.rd (i:=8) rfl
   have rb:h11.rd h7.size (0+9)=some (jv B):=r11'.rd (i:=9) rfl
   have rN:h11.rds h7.size 0 14=some y.cs:=r11'.rds rfl
   have ra':h12.rd h7.size (0+8)=some (jv A):=r12'.rd (i:=8) rfl
   have rb':h12.rd h7.size (0+9)=some (jv B):=r12'.rd (i:=9) rfl
   have rN':h12.rds h7.size 0 14=some y.cs:=r12'.rds rfl
   have fin:=fun e' b (e2:Env.get e' 2=some (.ptr (some (p2,0)))) (e3:Env.get e' 3=some (.bool b)) (hb:b=decide (0≤A∧0≤B))=>ret e' h11 h12 y b I11 w12 e2 e3 (by rw [hR,hb];by_cases q:0≤A∧0≤B <;> simp [q]) (fun o' q=>by
    rw [hR] at q;split at q
    ·exact Option.some.inj q
    ·cases q)
   refine WC.seqD<|WD.loadN rfl rN<|dfa rfl<|WD.load1 rfl ra ?_
   by_cases h3:0≤A
   ·refine dbn rfl rfl (geT h3)<|dmv rfl<|WD.run rfl<|dfa rfl<|WD.run rfl<|WD.load1 rfl rb<|WD.run rfl ?_
    by_cases h4:0≤B
    ·exact dbn rfl rfl (geT h4)<|dpt rfl rfl<|WD.opC (by repeat (first | exact trivial | refine ⟨by first | with_reducible assumption | assumption,?_⟩)) rfl (StepK.store (v:=.agg y.cs) rfl rfl rfl w12)<|dmv rfl<|WD.nil (by repeat (first | exact trivial | refine ⟨by first | with_reducible assumption | assumption,?_⟩))<|WC.ret<|fin _ true rfl rfl (by rw [decide_eq_true (show _∧_ from ⟨h3,h4⟩)])
    ·exact dbn rfl rfl (geF h4)<|dpt rfl rfl<|WD.opC (by repeat (first | exact trivial | refine ⟨by first | with_reducible assumption | assumption,?_⟩)) rfl (StepK.store (v:=.agg y.cs) rfl rfl rfl w12)<|dmv rfl<|WD.nil (by repeat (first | exact trivial | refine ⟨by first | with_reducible assumption | assumption,?_⟩))<|WC.ret<|fin _ false rfl rfl (by rw [decide_eq_false (fun q=>h4 q.2)])
   ·exact dbn rfl rfl (geF h3)<|dmv rfl<|WD.skipn rfl rfl rfl<|WD.skipn rfl rfl rfl<|WD.skipn rfl rfl rfl<|dpf rfl rfl<|WD.opC (by repeat (first | exact trivial | refine ⟨by first | with_reducible assumption | assumption,?_⟩)) rfl (StepK.store (v:=.agg y.cs) rfl rfl rfl w12)<|dmv rfl<|WD.nil (by repeat (first | exact trivial | refine ⟨by first | with_reducible assumption | assumption,?_⟩))<|WC.ret<|fin _ false rfl rfl (by rw [decide_eq_false (fun q=>h3 q.1)])
 rintro e9 h8' ⟨k9,hE,hstep⟩
 rw [hE]
 clear hE
 refine WC.cov k9 ?_
 refine WC.seqV (M:=fun e' h'=>Cov [(0,x),(2,.ptr (some (p2,0))),(4,.ptr (some (p4,0)))] e'∧h'=h7∧¬ (ws.getD 0 []=[115,112,111,105,108]∧ws.length=4)) ?_ ?_
 ·refine WC.seqB (E:=[(0,x),(2,.ptr (some (p2,0))),(4,.ptr (some (p4,0)))]) (decide (ws.getD 0 []=[115,112,111,105,108]∧ws.length=4)) ?_ (fun hc=>?_) (fun hc=>WC.skip ⟨Cov.refl _,rfl,of_decide_eq_false hc⟩)
  ·refine omv rfl<|WO.ops (StepK.idxSl rfl rfl i0)<|old rfl j0 ?_
   by_cases e0:ws.getD 0 []=[115,112,111,105,108]
   ·refine obn rfl rfl (seT e0)<|omv rfl<|WO.run rfl<|omv rfl<|WO.run rfl<|ols rfl hlen<|WO.run rfl ?_
    by_cases hl:ws.length=4
    ·exact obn rfl rfl (eqT (by omega))<|opt rfl rfl<|WO.nil ⟨rfl,Cov.cons rfl (Cov.cons rfl (Cov.cons rfl (Cov.nil _))),by rw [decide_eq_true (show _∧_ from ⟨e0,hl⟩)];rfl⟩
    ·exact obn rfl rfl (eqF (by omega))<|opt rfl rfl<|WO.nil ⟨rfl,Cov.cons rfl (Cov.cons rfl (Cov.cons rfl (Cov.nil _))),by rw [decide_eq_false (fun q=>hl q.2)];rfl⟩
   ·refine obn rfl rfl (seF e0)<|omv rfl<|WO.skip rfl rfl<|WO.skip rfl rfl<|WO.skip rfl rfl<|opf rfl rfl<|WO.nil ⟨rfl,Cov.cons rfl (Cov.cons rfl (Cov.cons rfl (Cov.nil _))),by rw [decide_eq_false (fun q=>e0 q.1)];rfl⟩
  ·have hs:=of_decide_eq_true hc
   have hl4:=hs.2
   generalize hA:zf (ws.getD 1 [])=A
   generalize hB:zf (ws.getD 2 [])=B
   have hR:zo ws=if (zl (ws.getD 3 [])).isSome=true∧0≤A∧0≤B then some { ItV.z with op:=9,dev:=A,at':=B,data:=(zl (ws.getD 3 [])).getD [] } else none:=by simp only [zo,hk,if_neg hk2,if_neg hsee,if_neg hstep,if_pos hs,hA,hB]
   obtain ⟨b3,o3,i3,j3⟩:=wd h7 3 g17 (by omega)
   refine WC.seqO<|omv rfl<|WO.ops (StepK.idxSl rfl rfl i3)<|old rfl j3 ?_
   refine WO.call rfl rfl (oz S h7 g17.wf _ (okd 3).1 (okd 3).2) ?_
   rintro _ h17 ⟨⟨dt,rfl,hdt⟩,g77⟩
   have I17:=gw _ _ I7 g77
   have g18:=I17.2.2
   refine omv rfl<|oex rfl rfl<|oex rfl rfl<|omv rfl<|omv rfl<|WO.nil ?_
   obtain ⟨b1,o1,i1,j1⟩:=wd h17 1 g18 (by omega)
   obtain ⟨b2,o2,i2,j2⟩:=wd h17 2 g18 (by omega)
   have hq2:=I17.1.lt g18.wf
   have hq4:=I17.2.1.lt g18.wf
   have s7:=g18.size
   refine WC.seqD<|dmv rfl<|WD.pure (StepK.idxSl rfl rfl i1) rfl<|WD.load1 rfl j1<|dmv rfl<|WD.pure (StepK.idxSl rfl rfl i2) rfl<|WD.load1 rfl j2<|dmv rfl<|WD.alloc rfl StepK.alloc ?_
   have hnew:(h17.push (.cells ItV.z.cs (.tip [] 0 none))).get h17.size=some (.cells ItV.z.cs (.tip [] 0 none)):=zg _ _
   have gp:=(Grow.refl g18.wf).push (.cells ItV.z.cs (.tip [] 0 none))
   have c8:=Cl.new h17 ItV.z.cs none
   change WD C _ _ _ _ (h17.push (.cells ItV.z.cs (.tip [] 0 none))) _
   have I8:=gw _ _ I17 gp
   have j18:=gp.rd j1
   have j28:=gp.rd j2
   generalize h17.push (.cells ItV.z.cs (.tip [] 0 none))=h8 at *
   refine WD.call (by repeat (first | exact trivial | refine ⟨by first | with_reducible assumption | assumption,?_⟩)) rfl rfl (xy S h8 I8.2.2.wf _ (okd 1).1 (okd 1).2) ?_
   rintro _ h9 ⟨rfl,g9⟩
   rw [hA]
   have I9:=gw _ _ I8 g9
   have j19:=g9.rd j18
   have j29:=g9.rd j28
   have hnew9:=g9.ext _ _ hnew
   refine WD.call (by repeat (first | exact trivial | refine ⟨by first | with_reducible assumption | assumption,?_⟩)) rfl rfl (xy S h9 I9.2.2.wf _ (okd 2).1 (okd 2).2) ?_
   rintro _ h10 ⟨rfl,g10⟩
   rw [hB]
   have I10:=gw _ _ I9 g10
   have j110:=g10.rd j19
   have j210:=g10.rd j29
   have hnew10:=g10.ext _ _ hnew9
   let y:ItV:={ ItV.z with op:=9,dev:=A,at':=B,data:=dt }
   obtain ⟨h11,w11,r11,c11,z11⟩:=((c8.grow g9).grow g10).sets I10.2.2.wf (i:=0) (us:=y.cs) (by simp [ItV.cs]) (by simp [ItV.cs,V.one])
   have r11':Cl h11 h17.size y.cs:=r11
   have I11:I h11:=⟨I10.1.chg c11 (by simp;omega),I10.2.1.chg c11 (by simp;omega),c11.newGrow I10.2.2 hw (by simp;omega)⟩
   refine dbu rfl rfl<|dbu rfl rfl<|WD.opC (by repeat (first | exact trivial | refine ⟨by first | with_reducible assumption | assumption,?_⟩)) rfl (StepK.store (v:=.agg y.cs) rfl rfl rfl w11)<|WD.nil (by repeat (first | exact trivial | refine ⟨by first | with_reducible assumption | assumption,?_⟩)) ?_
   obtain ⟨h12,w12,kp,g12⟩:=wr h11 y I11
   have r12':=kp r11' (by omega)
   have ra:h11.rd h17.size (0+10+0)=some (jv A):=r11'.rd (i:=10) rfl
   have rb:h11.rd h17.size (0+10+1)=some (jv B):=r11'.rd (i:=11) rfl
   have rN:h11.rds h17.size 0 14=some y.cs:=r11'.rds rfl
   have ra':h12.rd h17.size (0+10+0)=some (jv A):=r12'.rd (i:=10) rfl
   have rb':h12.rd h17.size (0+10+1)=some (jv B):=r12'.rd (i:=11) rfl
   have rN':h12.rds h17.size 0 14=some y.cs:=r12'.rds rfl
   have fin:=fun e' b (e2:Env.get e' 2=some (.ptr (some (p2,0)))) (e3:Env.get e' 3=some (.bool b)) (hb:b=((zl (ws.getD 3 [])).isSome && decide (0≤A∧0≤B)))=>ret e' h11 h12 y b I11 w12 e2 e3 (by rw [hR,hb];cases (zl (ws.getD 3 [])).isSome <;> by_cases q:0≤A∧0≤B <;> simp [q]) (fun o' q=>by
    rw [hR] at q;split at q
    ·rename_i q2
     rw [←Option.some.inj q]
     cases hq:zl (ws.getD 3 []) with
     | none=>rw [hq] at q2;simp at q2
     | some t=>rw [show y={ ItV.z with op:=9,dev:=A,at':=B,data:=dt } from rfl,hdt t hq];rfl
    ·cases q)
   refine WC.seqD<|WD.loadN rfl rN<|dmv rfl<|dmv rfl ?_
   cases hbb:(zl (ws.getD 3 [])).isSome with
   | false =>
    rw [hbb] at fin
    exact WD.skipn rfl rfl rfl<|WD.skipn rfl rfl rfl<|WD.skipn rfl rfl rfl<|WD.skipn rfl rfl rfl<|dpf rfl rfl<|dmv rfl<|WD.skipn rfl rfl rfl<|WD.skipn rfl rfl rfl<|WD.skipn rfl rfl rfl<|WD.skipn rfl rfl rfl<|dpf rfl rfl<|WD.opC (by repeat (first | exact trivial | refine ⟨by first | with_reducible assumption | assumption,?_⟩)) rfl (StepK.store (v:=.agg y.cs) rfl rfl rfl w12)<|dmv rfl<|WD.nil (by repeat (first | exact trivial | refine ⟨by first | with_reducible assumption | assumption,?_⟩))<|WC.ret<|fin _ false rfl rfl rfl
   | true =>
    rw [hbb] at fin
    refine WD.run rfl<|dfa rfl<|WD.run rfl<|dfa rfl<|WD.run rfl<|WD.load1 rfl ra<|WD.run rfl ?_
    by_cases h3:0≤A
    ·refine dbn rfl rfl (geT h3)<|dpt rfl rfl<|dmv rfl<|WD.run rfl<|dfa rfl<|WD.run rfl<|dfa rfl<|WD.run rfl<|WD.load1 rfl rb<|WD.run rfl ?_
     by_cases h4:0≤B
     ·exact dbn rfl rfl (geT h4)<|dpt rfl rfl<|WD.opC (by repeat (first | exact trivial | refine ⟨by first | with_reducible assumption | assumption,?_⟩)) rfl (StepK.store (v:=.agg y.cs) rfl rfl rfl w12)<|dmv rfl<|WD.nil (by repeat (first | exact trivial | refine ⟨by first | with_reducible assumption | assumption,?_⟩))<|WC.ret<|fin _ true rfl rfl (by rw [decide_eq_true (show _∧_ from ⟨h3,h4⟩)];rfl)
     ·exact dbn rfl rfl (geF h4)<|dpt rfl rfl<|WD.opC (by repeat (first | exact trivial | refine ⟨by first | with_reducible assumption | assumption,?_⟩)) rfl (StepK.store (v:=.agg y.cs) rfl rfl rfl w12)<|dmv rfl<|WD.nil (by repeat (first | exact trivial | refine ⟨by first | with_reducible assumption | assumption,?_⟩))<|WC.ret<|fin _ false rfl rfl (by rw [decide_eq_false (fun q=>h4 q.2)];rfl)
    ·exact dbn rfl rfl (geF h3)<|dpt rfl rfl<|dmv rfl<|WD.skipn rfl rfl rfl<|WD.skipn rfl rfl rfl<|WD.skipn rfl rfl rfl<|WD.skipn rfl rfl rfl<|dpf rfl rfl<|WD.opC (by repeat (first | exact trivial | refine ⟨by first | with_reducible assumption | assumption,?_⟩)) rfl (StepK.store (v:=.agg y.cs) rfl rfl rfl w12)<|dmv rfl<|WD.nil (by repeat (first | exact trivial | refine ⟨by first | with_reducible assumption | assumption,?_⟩))<|WC.ret<|fin _ false rfl rfl (by rw [decide_eq_false (fun q=>h3 q.1)];rfl)
 rintro e10 h8' ⟨k10,hE,hspoil⟩
 rw [hE]
 clear hE
 refine WC.cov k10 ?_
 refine WC.seqV (M:=fun e' h'=>Cov [(0,x),(2,.ptr (some (p2,0))),(4,.ptr (some (p4,0)))] e'∧h'=h7∧¬ (ws.getD 0 []=[108,111,115,101]∧ws.length=2)) ?_ ?_
 ·refine WC.seqB (E:=[(0,x),(2,.ptr (some (p2,0))),(4,.ptr (some (p4,0)))]) (decide (ws.getD 0 []=[108,111,115,101]∧ws.length=2)) ?_ (fun hc=>?_) (fun hc=>WC.skip ⟨Cov.refl _,rfl,of_decide_eq_false hc⟩)
  ·refine omv rfl<|WO.ops (StepK.idxSl rfl rfl i0)<|old rfl j0 ?_
   by_cases e0:ws.getD 0 []=[108,111,115,101]
   ·refine obn rfl rfl (seT e0)<|omv rfl<|WO.run rfl<|omv rfl<|WO.run rfl<|ols rfl hlen<|WO.run rfl ?_
    by_cases hl:ws.length=2
    ·exact obn rfl rfl (eqT (by omega))<|opt rfl rfl<|WO.nil ⟨rfl,Cov.cons rfl (Cov.cons rfl (Cov.cons rfl (Cov.nil _))),by rw [decide_eq_true (show _∧_ from ⟨e0,hl⟩)];rfl⟩
    ·exact obn rfl rfl (eqF (by omega))<|opt rfl rfl<|WO.nil ⟨rfl,Cov.cons rfl (Cov.cons rfl (Cov.cons rfl (Cov.nil _))),by rw [decide_eq_false (fun q=>hl q.2)];rfl⟩
   ·refine obn rfl rfl (seF e0)<|omv rfl<|WO.skip rfl rfl<|WO.skip rfl rfl<|WO.skip rfl rfl<|opf rfl rfl<|WO.nil ⟨rfl,Cov.cons rfl (Cov.cons rfl (Cov.cons rfl (Cov.nil _))),by rw [decide_eq_false (fun q=>e0 q.1)];rfl⟩
  ·have hs:=of_decide_eq_true hc
   have hl2:=hs.2
   generalize hA:zf (ws.getD 1 [])=A
   have hR:zo ws=if 0≤A then some { ItV.z with op:=10,n:=A } else none:=by simp only [zo,hk,if_neg hk2,if_neg hsee,if_neg hstep,if_neg hspoil,if_pos hs,hA]
   obtain ⟨b1,o1,i1,j1⟩:=wd h7 1 g17 (by omega)
   refine WC.seqO<|omv rfl<|WO.ops (StepK.idxSl rfl rfl i1)<|old rfl j1 ?_
   refine WO.call rfl rfl (xy S h7 g17.wf _ (okd 1).1 (okd 1).2) ?_
   rintro _ h8 ⟨rfl,g8⟩
   rw [hA]
   have I8:=gw _ _ I7 g8
   have hq2:=I8.1.lt I8.2.2.wf
   have hq4:=I8.2.1.lt I8.2.2.wf
   have s8:=I8.2.2.size
   refine obu rfl rfl<|WO.ops StepK.alloc ?_
   have c9:=Cl.new h8 ItV.z.cs none
   have gp:=(Grow.refl I8.2.2.wf).push (.cells ItV.z.cs (.tip [] 0 none))
   change WO C _ _ (h8.push (.cells ItV.z.cs (.tip [] 0 none))) _
   have I9:=gw _ _ I8 gp
   generalize h8.push (.cells ItV.z.cs (.tip [] 0 none))=h9 at *
   let y:ItV:={ ItV.z with op:=10,n:=A }
   obtain ⟨h11,w11,r11,c11,z11⟩:=c9.sets I9.2.2.wf (i:=0) (us:=y.cs) (by simp [ItV.cs]) (by simp [ItV.cs,V.one])
   have r11':Cl h11 h8.size y.cs:=r11
   have I11:I h11:=⟨I9.1.chg c11 (by simp;omega),I9.2.1.chg c11 (by simp;omega),c11.newGrow I9.2.2 hw (by simp;omega)⟩
   refine WO.op (StepK.store (v:=.agg y.cs) rfl rfl rfl w11)<|WO.nil ?_
   obtain ⟨h12,w12,kp,g12⟩:=wr h11 y I11
   have r12':=kp r11' (by omega)
   have ra:h11.rd h8.size (0+9)=some (jv A):=r11'.rd (i:=9) rfl
   have rN:h11.rds h8.size 0 14=some y.cs:=r11'.rds rfl
   have ra':h12.rd h8.size (0+9)=some (jv A):=r12'.rd (i:=9) rfl
   have rN':h12.rds h8.size 0 14=some y.cs:=r12'.rds rfl
   refine WC.seqD<|WD.loadN rfl rN<|dfa rfl<|WD.load1 rfl ra<|dbn rfl rfl (show zi .geq (jv A) (jv 0)=some (.bool (decide (0≤A))) from rfl)<|WD.opC (by repeat (first | exact trivial | refine ⟨by first | with_reducible assumption | assumption,?_⟩)) rfl (StepK.store (v:=.agg y.cs) rfl rfl rfl w12)<|dmv rfl<|WD.nil (by repeat (first | exact trivial | refine ⟨by first | with_reducible assumption | assumption,?_⟩))<|WC.ret<|ret _ h11 h12 y (decide (0≤A)) I11 w12 rfl rfl (by rw [hR];by_cases q:0≤A <;> simp [q]) (fun o' q=>by
    rw [hR] at q;split at q
    ·exact Option.some.inj q
    ·cases q)
 rintro e11 h8' ⟨k11,hE,hlose⟩
 rw [hE]
 clear hE
 refine WC.cov k11 ?_
 have hR:zo ws=none:=by simp only [zo,hk,if_neg hk2,if_neg hsee,if_neg hstep,if_neg hspoil,if_neg hlose]
 obtain ⟨h9,w9,kp,g9⟩:=wr h7 ItV.z I7
 exact WC.seqO<|WO.ops (StepK.loadN rfl (I7.2.1.rds rfl))<|WO.op (StepK.store (v:=.agg ItV.z.cs) rfl rfl rfl w9)<|omv rfl<|WO.nil<|WC.ret<|ret _ h7 h9 ItV.z false I7 w9 rfl rfl (by rw [hR];rfl) (fun o' q=>by rw [hR] at q;cases q)
end
end Abs
end Go.Proofs.YthgcjbniipfnbaaGreatDoor
namespace Go.Proofs.YthgcjbniipfnbaaGreatDoor
namespace Abs
set_option linter.unusedVariables false
set_option linter.unusedSimpArgs false
open Go.RowKit
attribute [local irreducible] WO WC WD StepK Ans Does Runs DoesD
noncomputable def yK (s:List Nat):ItV × Int :=
 let ws:=zy s
 if ws=[] then (ItV.z,15) else
 let k:=zk (ws.getD 0 []) plL 0
 if 0≤k∧ws.length=1 then ({ ItV.z with op:=k },0) else
 match y8 ws with
 | some o=>({ ItV.z with o:=o },0)
 | none=>match zo ws with
  | some x=>(x,0)
  | none=>(ItV.z,15)
theorem fL {s:List Nat} {n:Nat} (hb:Byt s) (hl:s.length≤n):∀ w∈zy s,Byt w∧w.length≤n:=by
 unfold zy
 split
 ·intro w hw;cases hw
 ·exact sU hb hl
theorem ol:∀ s:List Nat,(ze s).length≤s.length+1
 | []=>by simp [ze]
 | c::r=>by
  have:=ol r
  unfold ze
  split
  ·simp;omega
  ·split
   ·simp
   ·rename_i q;rw [q] at this;simp at this ⊢;omega
theorem gu (s:List Nat):(zy s).length≤s.length+1:=by
 unfold zy
 split
 ·simp
 ·exact ol s
section
variable {C:Cfg} (S:StdL C)
include S
theorem gG (h:Heap) (hw:Wf h) (s:List Nat) (hb:Byt s) (hs:s.length≤900000):Ans C 9 [.str s] h fun v h'=>v=.tuple [.agg (yK s).1.cs,jv (yK s).2]∧Grow h h':=by
 have hF:C.F 9=some a9:=S.f rfl
 unfold a9 at hF
 refine Ans.val (fun _ _=>S.s _ _ _ rfl) hF rfl rfl hw fun h2 g=>?_
 clear hF
 have ok:we (zy s):=fL hb (by omega)
 have hwl:=gu s
 have hs2:=g.size
 refine WC.seqO<|WO.ops StepK.alloc ?_
 have c2:=Cl.new h2 ItV.z.cs none
 have g3:=g.push (.cells ItV.z.cs (.tip [] 0 none))
 have z3:(h2.push (.cells ItV.z.cs (.tip [] 0 none))).size=h2.size+1:=rfl
 change WO C _ _ (h2.push (.cells ItV.z.cs (.tip [] 0 none))) _
 generalize h2.push (.cells ItV.z.cs (.tip [] 0 none))=h3 at *
 generalize h2.size=p2 at *
 refine omv rfl<|WO.nil<|WC.seqO<|obu rfl rfl<|WO.ops StepK.alloc ?_
 have c4:=Cl.new h3 ItV.z.cs none
 have gp:=(Grow.refl g3.wf).push (.cells ItV.z.cs (.tip [] 0 none))
 have z4:(h3.push (.cells ItV.z.cs (.tip [] 0 none))).size=h3.size+1:=rfl
 change WO C _ _ (h3.push (.cells ItV.z.cs (.tip [] 0 none))) _
 have g4:=g3.trans gp
 replace c2:=c2.grow gp
 generalize h3.push (.cells ItV.z.cs (.tip [] 0 none))=h4 at *
 generalize h3.size=p4 at *
 obtain ⟨h5,w5,r5,c5,z5⟩:=c4.sets g4.wf (i:=0) (us:=ItV.z.cs) (by simp [ItV.cs]) (by simp [ItV.cs,V.one,ItV.z,OpV.z])
 have r5':Cl h5 p4 ItV.z.cs:=r5
 have g5:Grow h h5:=c5.newGrow g4 hw (by simp;omega)
 replace c2:=c2.chg c5 (by simp;omega)
 let I:Heap→Prop:=fun h'=>Cl h' p2 ItV.z.cs∧Cl h' p4 ItV.z.cs∧Grow h h'
 have I5:I h5:=⟨c2,r5',g5⟩
 have gw:∀ h' h'',I h'→Grow h' h''→I h'':=fun h' h'' ⟨q1,q2,q3⟩ g=>⟨q1.grow g,q2.grow g,q3.trans g⟩
 have wr:∀ (h':Heap) (y:ItV),I h'→∃ h9,h'.wr p2 0 y.cs=some h9∧Cl h9 p2 y.cs∧Grow h h9:=fun h' y ⟨q1,q2,q3⟩=>by
  obtain ⟨h9,w9,r9,c9,z9⟩:=q1.sets q3.wf (i:=0) (us:=y.cs) (by simp [ItV.cs]) (by simp [ItV.cs,V.one])
  have r9':Cl h9 p2 y.cs:=r9
  exact ⟨h9,w9,r9',c9.newGrow q3 hw (by simp;omega)⟩
 have rt:∀ (e':List (Nat × V)) (h':Heap) (y:ItV) (c:Int),Env.get e' 2=some (.ptr (some (p2,0)))→Env.get e' 3=some (jv c)→Cl h' p2 y.cs→yo e' h' [.cell 2 (some 14),.tmp 3]=some (.tuple [.agg y.cs,jv c]):=by
  intro e' h' y c e2 e3 cc
  simp only [yo,yE,wO,e2,e3,xi,cc.rds (k:=14) rfl,zq]
 refine WO.op (StepK.store (v:=.agg ItV.z.cs) rfl rfl rfl w5)<|WO.nil<|WC.seqO<|omv rfl ?_
 clear c2 c4 r5 r5' c5 w5
 refine WO.call rfl rfl (fJ S h5 g5.wf s hb (by omega)) ?_
 rintro x h6 ⟨gx,g6⟩
 have I6:=gw _ _ I5 g6
 have sx:Sl h6 1 x (zB (zy s)):=gx.sl
 have hlen:zw x=some (zy s).length:=by have:=sx.len;simpa using this
 generalize hws:zy s=ws at *
 refine omv rfl<|WO.nil<|WC.seq<|WC.seqO<|omv rfl<|ols rfl hlen ?_
 by_cases h0:ws=[]
 ·have hR:yK s=(ItV.z,15):=by simp only [yK,hws,if_pos h0]
  obtain ⟨h9,w9,r9,g9⟩:=wr h6 ItV.z I6
  rw [hR]
  exact obn rfl rfl (eqT (by rw [h0];rfl))<|WO.nil<|WC.cond rfl (fun hc=>WC.seqO<|WO.ops (StepK.loadN rfl (I6.2.1.rds rfl))<|WO.op (StepK.store (v:=.agg ItV.z.cs) rfl rfl rfl w9)<|omv rfl<|WO.nil<|WC.ret ⟨trivial,g9,rt _ h9 ItV.z 15 rfl rfl r9⟩) (fun hc=>by cases hc)
 have hl1:1≤ws.length:=List.length_pos_iff.2 h0
 refine obn rfl rfl (eqF (by omega))<|WO.nil<|WC.cond rfl (fun hc=>by cases hc) (fun hc=>WC.skip ?_)
 obtain ⟨b0,o0,i0,j0⟩:=vn sx (i:=0) (by omega)
 refine WC.seqD<|dmv rfl<|WD.pure (StepK.idxSl rfl rfl i0) rfl<|WD.load1 rfl j0 ?_
 refine WD.call (by repeat (first | exact trivial | refine ⟨by with_reducible assumption,?_⟩)) rfl rfl (oE S h6 I6.2.2.wf) ?_
 rintro y h7 ⟨sy,g7⟩
 have I7:=gw _ _ I6 g7
 have j07:=g7.rd j0
 refine WD.call (by repeat (first | exact trivial | refine ⟨by with_reducible assumption,?_⟩)) rfl rfl (rn S h7 I7.2.2.wf y plL _ sy (by decide)) ?_
 rintro _ h8 ⟨rfl,g8⟩
 have I8:=gw _ _ I7 g8
 have j08:=g8.rd j07
 have sx8:=(sx.grow g7).grow g8
 generalize hk:zk (ws.getD 0 []) plL 0=k at *
 refine dmv rfl<|WD.nil (by repeat (first | exact trivial | refine ⟨by with_reducible assumption,?_⟩)) ?_
 refine WC.seqV (M:=fun e' h'=>Cov [(2,.ptr (some (p2,0))),(4,.ptr (some (p4,0))),(5,x)] e'∧h'=h8∧¬ (0≤k∧ws.length=1)) ?_ ?_
 ·by_cases hk0:0≤k
  ·refine WC.seqO<|omv rfl<|obn rfl rfl (geT hk0)<|omv rfl<|WO.run rfl<|omv rfl<|WO.run rfl<|ols rfl hlen<|WO.run rfl ?_
   by_cases hl:ws.length=1
   ·have hR:yK s=({ ItV.z with op:=k },0):=by simp only [yK,hws,if_neg h0,hk,if_pos (show 0≤k∧ws.length=1 from ⟨hk0,hl⟩)]
    obtain ⟨h9,w9,r9,g9⟩:=wr h8 { ItV.z with op:=k } I8
    rw [hR]
    exact obn rfl rfl (eqT (by omega))<|opt rfl rfl<|WO.nil<|WC.cond rfl (fun hc=>WC.seqO<|omv rfl<|obu rfl rfl<|WO.op (StepK.store (v:=.agg ({ ItV.z with op:=k }:ItV).cs) rfl rfl rfl w9)<|omv rfl<|WO.nil<|WC.ret ⟨trivial,g9,rt _ h9 _ 0 rfl rfl r9⟩) (fun hc=>by cases hc)
   ·exact obn rfl rfl (eqF (by omega))<|opt rfl rfl<|WO.nil<|WC.cond rfl (fun hc=>by cases hc) (fun hc=>WC.skip ⟨Cov.cons rfl (Cov.cons rfl (Cov.cons rfl (Cov.nil _))),rfl,fun q=>hl q.2⟩)
  ·exact WC.seqO<|omv rfl<|obn rfl rfl (geF hk0)<|omv rfl<|WO.skip rfl rfl<|WO.skip rfl rfl<|WO.skip rfl rfl<|opf rfl rfl<|WO.nil<|WC.cond rfl (fun hc=>by cases hc) (fun hc=>WC.skip ⟨Cov.cons rfl (Cov.cons rfl (Cov.cons rfl (Cov.nil _))),rfl,fun q=>hk0 q.1⟩)
 rintro e9 h8' ⟨k9,hE,hpl⟩
 rw [hE]
 clear hE
 refine WC.cov k9 ?_
 have hR0:yK s=match y8 ws with
   | some o=>({ ItV.z with o:=o },0)
   | none=>match zo ws with
    | some x=>(x,0)
    | none=>(ItV.z,15):=by simp only [yK,hws,if_neg h0,hk,if_neg hpl]
 refine WC.seqO<|omv rfl ?_
 refine WO.call rfl rfl (iB S h8 I8.2.2.wf x ws sx8 hl1 ok) ?_
 rintro _ h9 ⟨⟨o,b,rfl,hbb,ho⟩,g9⟩
 have I9:=gw _ _ I8 g9
 have hq2:=I9.1.lt I9.2.2.wf
 have hq4:=I9.2.1.lt I9.2.2.wf
 have s9:=I9.2.2.size
 refine omv rfl<|oex rfl rfl<|oex rfl rfl<|WO.ops StepK.alloc ?_
 have c7:=Cl.new h9 OpV.z.cs none
 have gq:=(Grow.refl I9.2.2.wf).push (.cells OpV.z.cs (.tip [] 0 none))
 change WO C _ _ (h9.push (.cells OpV.z.cs (.tip [] 0 none))) _
 have I10:=gw _ _ I9 gq
 have sx10:=(sx8.grow g9).grow gq
 generalize h9.push (.cells OpV.z.cs (.tip [] 0 none))=h10 at *
 obtain ⟨h11,w11,r11,c11,z11⟩:=c7.sets I10.2.2.wf (i:=0) (us:=o.cs) (by simp [OpV.cs,OpV.z]) (by simp [OpV.cs,V.one])
 have r11':Cl h11 h9.size o.cs:=r11
 have I11:I h11:=⟨I10.1.chg c11 (by simp;omega),I10.2.1.chg c11 (by simp;omega),c11.newGrow I10.2.2 hw (by simp;omega)⟩
 have s89:=g9.size
 have g811:Grow h8 h11:=c11.newGrow (g9.trans gq) I8.2.2.wf (by simpa using s89)
 have sx11:=sx8.grow g811
 refine WO.op (StepK.store (v:=.agg o.cs) rfl rfl rfl w11)<|omv rfl<|WO.nil<|WC.seq<|WC.seqO<|omv rfl<|WO.nil ?_
 cases hop:y8 ws with
 | some o2 =>
  rw [hop] at hbb hR0
  have ho2:=ho o2 hop
  subst hbb
  subst ho2
  obtain ⟨h12,w12,r12,g12⟩:=wr h11 { ItV.z with o:=o } I11
  rw [hR0]
  exact WC.cond rfl (fun hc=>WC.seqO<|WO.ops (StepK.loadN rfl (r11'.rds rfl))<|obu rfl rfl<|WO.op (StepK.store (v:=.agg ({ ItV.z with o:=o }:ItV).cs) rfl rfl rfl w12)<|omv rfl<|WO.nil<|WC.ret ⟨trivial,g12,rt _ h12 _ 0 rfl rfl r12⟩) (fun hc=>by cases hc)
 | none =>
  rw [hop] at hbb hR0
  subst hbb
  refine WC.cond rfl (fun hc=>by cases hc) (fun hc=>WC.skip<|WC.seqO<|omv rfl ?_)
  refine WO.call rfl rfl (gI S h11 I11.2.2.wf x ws sx11 hl1 (by omega) ok) ?_
  rintro _ h12 ⟨⟨y2,b2,rfl,hb2,ho2⟩,g12⟩
  have I12:=gw _ _ I11 g12
  have hq22:=I12.1.lt I12.2.2.wf
  have hq42:=I12.2.1.lt I12.2.2.wf
  have s12:=I12.2.2.size
  refine omv rfl<|oex rfl rfl<|oex rfl rfl<|WO.ops StepK.alloc ?_
  have c13:=Cl.new h12 ItV.z.cs none
  have gr:=(Grow.refl I12.2.2.wf).push (.cells ItV.z.cs (.tip [] 0 none))
  change WO C _ _ (h12.push (.cells ItV.z.cs (.tip [] 0 none))) _
  have I13:=gw _ _ I12 gr
  generalize h12.push (.cells ItV.z.cs (.tip [] 0 none))=h13 at *
  obtain ⟨h14,w14,r14,c14,z14⟩:=c13.sets I13.2.2.wf (i:=0) (us:=y2.cs) (by simp [ItV.cs]) (by simp [ItV.cs,V.one])
  have r14':Cl h14 h12.size y2.cs:=r14
  have I14:I h14:=⟨I13.1.chg c14 (by simp;omega),I13.2.1.chg c14 (by simp;omega),c14.newGrow I13.2.2 hw (by simp;omega)⟩
  refine WO.op (StepK.store (v:=.agg y2.cs) rfl rfl rfl w14)<|omv rfl<|WO.nil<|WC.seq<|WC.seqO<|omv rfl<|WO.nil ?_
  cases hrn:zo ws with
  | some y3 =>
   rw [hrn] at hb2 hR0
   have ho3:=ho2 y3 hrn
   subst hb2
   subst ho3
   obtain ⟨h15,w15,r15,g15⟩:=wr h14 y2 I14
   rw [hR0]
   exact WC.cond rfl (fun hc=>WC.seqO<|WO.ops (StepK.loadN rfl (r14'.rds rfl))<|WO.op (StepK.store (v:=.agg y2.cs) rfl rfl rfl w15)<|omv rfl<|WO.nil<|WC.ret ⟨trivial,g15,rt _ h15 _ 0 rfl rfl r15⟩) (fun hc=>by cases hc)
  | none =>
   rw [hrn] at hb2 hR0
   subst hb2
   obtain ⟨h15,w15,r15,g15⟩:=wr h14 ItV.z I14
   rw [hR0]
   exact WC.cond rfl (fun hc=>by cases hc) (fun hc=>WC.skip<|WC.seqO<|WO.ops (StepK.loadN rfl (I14.2.1.rds rfl))<|WO.op (StepK.store (v:=.agg ItV.z.cs) rfl rfl rfl w15)<|omv rfl<|WO.nil<|WC.ret ⟨trivial,g15,rt _ h15 _ 15 rfl rfl r15⟩)
end
end Abs
end Go.Proofs.YthgcjbniipfnbaaGreatDoor
