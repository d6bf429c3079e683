/- Shell's reference: Print. Shell, plainly: what is parsed is no longer than its line. Shell: ShellPrints walked. -/
import Derived.Test.YthgcjbniipfnbaaGreatDoorH34
import Derived.Test.YthgcjbniipfnbaaGreatDoorH27
namespace Go.Proofs.YthgcjbniipfnbaaGreatDoor
namespace Abs
set_option linter.unusedVariables false
set_option linter.unusedSimpArgs false
open Go.RowKit
attribute [local irreducible] WO WC WD StepK Ans Does Runs DoesD
noncomputable def wt (x:ItV):List (List Nat):=[zm (zK x.o),[115,101,101,32]++x.name++[32]++zm (zK x.o),[115,110,97,112,32]++x.name,[114,111,108,108,98,97,99,107,32]++x.name,[100,101,115,116,114,111,121,32]++x.name,
 [115,116,101,112,32]++zc x.now++[32]++zc x.n,[115,112,111,105,108,32]++zc x.dev++[32]++zc x.at'++[32]++zu x.data,[108,111,115,101,32]++zc x.n]
noncomputable def uS (x:ItV):List (List Nat):=wt x++plL
theorem eF {x:ItV} (h:zC (yF x)=(x,0)):yF x∈uS x:=by
 obtain ⟨h0,h1,h5,_⟩:=mG h
 clear h
 unfold yF zV uS wt
 rw [if_neg (by omega)]
 by_cases e0:x.op=0
 ·rw [if_pos e0];simp
 rw [if_neg e0]
 have hdc:(x.op=1∨x.op=6∨x.op=8∨x.op=11∨x.op=12∨x.op=13)∨x.op=2∨x.op=3∨x.op=4∨x.op=5∨x.op=7∨x.op=9∨x.op=10:=by omega
 rcases hdc with q | q | q | q | q | q | q | q
 ·rw [if_neg (by omega),if_neg (by omega),if_neg (by omega),if_neg (by omega),if_neg (by omega)]
  refine List.mem_append_right _ ?_
  rcases q with q | q | q | q | q | q <;> rw [q] <;> decide
 ·rw [if_pos (.inl q),q]
  refine List.mem_append_left _ (List.mem_cons_of_mem _ (List.mem_cons_of_mem _ ?_))
  exact List.mem_cons_self
 ·rw [if_pos (.inr (.inl q)),q]
  refine List.mem_append_left _ (List.mem_cons_of_mem _ (List.mem_cons_of_mem _ (List.mem_cons_of_mem _ ?_)))
  exact List.mem_cons_self
 ·rw [if_pos (.inr (.inr q)),q]
  refine List.mem_append_left _ (List.mem_cons_of_mem _ (List.mem_cons_of_mem _ (List.mem_cons_of_mem _ (List.mem_cons_of_mem _ ?_))))
  exact List.mem_cons_self
 ·rw [if_neg (by omega),if_pos q,q]
  refine List.mem_append_left _ (List.mem_cons_of_mem _ ?_)
  have hne:zK x.o≠[]:=by unfold zK;rw [if_neg (by have:=h5 q;omega)];simp
  cases hq:zK x.o with
  | nil=>exact absurd hq hne
  | cons a r =>
   have:zm (thL.getD (Int.toNat 5) []::x.name::a::r)=[115,101,101,32]++x.name++[32]++zm (a::r):=by
    show [115,101,101]++32::(x.name++32::zm (a::r))=_
    simp
   rw [this];exact List.mem_cons_self
 ·rw [if_neg (by omega),if_neg (by omega),if_pos q,q]
  refine List.mem_append_left _ (List.mem_cons_of_mem _ (List.mem_cons_of_mem _ (List.mem_cons_of_mem _ (List.mem_cons_of_mem _ (List.mem_cons_of_mem _ ?_)))))
  have:zm [thL.getD (Int.toNat 7) [],zc x.now,zc x.n]=[115,116,101,112,32]++zc x.now++[32]++zc x.n:=by
   show [115,116,101,112]++32::(zc x.now++32::zc x.n)=_
   simp
  rw [this];exact List.mem_cons_self
 ·rw [if_neg (by omega),if_neg (by omega),if_neg (by omega),if_pos q,q]
  refine List.mem_append_left _ (List.mem_cons_of_mem _ (List.mem_cons_of_mem _ (List.mem_cons_of_mem _ (List.mem_cons_of_mem _ (List.mem_cons_of_mem _ (List.mem_cons_of_mem _ ?_))))))
  have:zm [thL.getD (Int.toNat 9) [],zc x.dev,zc x.at',zu x.data]=[115,112,111,105,108,32]++zc x.dev++[32]++zc x.at'++[32]++zu x.data:=by
   show [115,112,111,105,108]++32::(zc x.dev++32::(zc x.at'++32::zu x.data))=_
   simp
  rw [this];exact List.mem_cons_self
 ·rw [if_neg (by omega),if_neg (by omega),if_neg (by omega),if_neg (by omega),if_pos q,q]
  refine List.mem_append_left _ (List.mem_cons_of_mem _ (List.mem_cons_of_mem _ (List.mem_cons_of_mem _ (List.mem_cons_of_mem _ (List.mem_cons_of_mem _ (List.mem_cons_of_mem _ (List.mem_cons_of_mem _ ?_)))))))
  exact List.mem_cons_self
theorem ep {o:OpV} (ok:jE o):Byt (zm (zK o))∧(zm (zK o)).length≤30000:=by
 refine ⟨pQ _ fun t ht=>(oH ok t ht).1,?_⟩
 have h1:=sf (zK o) fun t ht=>(oH ok t ht).2
 have h2:=nQ o
 have:(zK o).length*(7000+1)≤4*7001:=Nat.mul_le_mul_right _ h2
 omega
theorem ag {x:ItV} (ok:qg x):∀ t∈uS x,Byt t∧t.length≤60000:=by
 have I1:=zQ ok.n1.1 ok.n1.2
 have I2:=zQ ok.n2.1 ok.n2.2
 have I3:=zQ ok.n3.1 ok.n3.2
 have I4:=zQ ok.n4.1 ok.n4.2
 have I5:=xX x.data
 have L:=ok.l1
 have O:=ep ok.o
 have O2:=O.2
 have B:∀ l:List Nat,(∀ c∈l,c<256)→Byt l:=fun l h=>h
 have b1:=xf x.now
 have b2:=xf x.n
 have b3:=xf x.dev
 have b4:=xf x.at'
 have b5:=o4 ok.b2
 intro t ht
 unfold uS wt at ht
 rcases List.mem_append.1 ht with ht | ht
 ·simp only [List.mem_cons,List.not_mem_nil,or_false] at ht
  rcases ht with rfl | rfl | rfl | rfl | rfl | rfl | rfl | rfl
  ·exact ⟨O.1,by omega⟩
  ·exact ⟨(((B _ (by decide)).app ok.b1).app (B _ (by decide))).app O.1,by simp;omega⟩
  ·exact ⟨(B _ (by decide)).app ok.b1,by simp;omega⟩
  ·exact ⟨(B _ (by decide)).app ok.b1,by simp;omega⟩
  ·exact ⟨(B _ (by decide)).app ok.b1,by simp;omega⟩
  ·exact ⟨(((B _ (by decide)).app b1).app (B _ (by decide))).app b2,by simp;omega⟩
  ·exact ⟨(((((B _ (by decide)).app b3).app (B _ (by decide))).app b4).app (B _ (by decide))).app b5,by simp;omega⟩
  ·exact ⟨(B _ (by decide)).app b2,by simp;omega⟩
 ·have:∀ t∈plL,(∀ c∈t,c<256)∧t.length≤60000:=by decide
  exact this t ht
section
variable {C:Cfg} (S:StdL C)
include S
set_option maxHeartbeats 4000000 in
theorem gN (h:Heap) (hw:Wf h) (x:ItV) (u:V) (k:Nat) (hu:zw u=some k) (ok:qg x):Ans C 14 [.agg (x.ck u)] h fun v h'=>v=.str (tp x k)∧Grow h h':=by
 have hF:C.F 14=some a14:=S.f rfl
 unfold a14 at hF
 refine Ans.val (fun _ _=>S.s _ _ _ rfl) hF rfl rfl hw fun h2 g=>?_
 clear hF
 have I1:=zQ ok.n1.1 ok.n1.2
 have I2:=zQ ok.n2.1 ok.n2.2
 have I3:=zQ ok.n3.1 ok.n3.2
 have I4:=zQ ok.n4.1 ok.n4.2
 have I5:=xX x.data
 have L:=ok.l1
 have O2:=(ep ok.o).2
 refine WC.seqO<|WO.ops (StepK.box rfl) ?_
 have c1:=Cl.new h2 (x.ck u) none
 have g3:=g.push (.cells (x.ck u) (.tip [] 0 none))
 change WO C _ _ (h2.push (.cells (x.ck u) (.tip [] 0 none))) _
 generalize h2.push (.cells (x.ck u) (.tip [] 0 none))=h3 at *
 generalize h2.size=p1 at *
 refine omv rfl<|WO.nil ?_
 have rI:∀ h',Grow h3 h'→h'.rds p1 0 14=some (x.ck u):=fun h' q=>(c1.grow q).rds rfl
 have rO:∀ h',Grow h3 h'→h'.rds p1 (0+1) 6=some x.o.cs:=fun h' q=>by have:=(c1.grow q).rdsAt (o:=1) (n:=6) (by simp [ItV.ck]);rw [this];rfl
 have rN:∀ h',Grow h3 h'→h'.rd p1 (0+7)=some (.str x.name):=fun h' q=>(c1.grow q).rd (i:=7) rfl
 have r8:∀ h',Grow h3 h'→h'.rd p1 (0+8)=some (jv x.now):=fun h' q=>(c1.grow q).rd (i:=8) rfl
 have r9:∀ h',Grow h3 h'→h'.rd p1 (0+9)=some (jv x.n):=fun h' q=>(c1.grow q).rd (i:=9) rfl
 have rA:∀ h',Grow h3 h'→h'.rd p1 (0+10+0)=some (jv x.dev):=fun h' q=>(c1.grow q).rd (i:=10) rfl
 have rB:∀ h',Grow h3 h'→h'.rd p1 (0+10+1)=some (jv x.at'):=fun h' q=>(c1.grow q).rd (i:=11) rfl
 have rD:∀ h',Grow h3 h'→h'.rd p1 (0+12)=some (.str x.data):=fun h' q=>(c1.grow q).rd (i:=12) rfl
 have R3:=Grow.refl g3.wf
 refine WC.seqD<|dfa rfl<|WD.loadN rfl (rO _ R3)<|dfa rfl<|WD.load1 rfl (rN _ R3)<|dbn rfl rfl (zZ (c:=[115,101,101,32]++x.name) rfl (by simp;omega))<|dbn rfl rfl (zZ (c:=[115,101,101,32]++x.name++[32]) rfl (by simp;omega))<|dfa rfl<|WD.loadN rfl (rO _ R3) <|
  dfa rfl<|WD.load1 rfl (rN _ R3)<|dbn rfl rfl (zZ (c:=[115,110,97,112,32]++x.name) rfl (by simp;omega))<|dfa rfl<|WD.load1 rfl (rN _ R3)<|dbn rfl rfl (zZ (c:=[114,111,108,108,98,97,99,107,32]++x.name) rfl (by simp;omega))<|dfa rfl<|WD.load1 rfl (rN _ R3)<|dbn rfl rfl (zZ (c:=[100,101,115,116,114,111,121,32]++x.name) rfl (by simp;omega)) <|
  dfa rfl<|WD.load1 rfl (r8 _ R3)<|dfa rfl<|WD.load1 rfl (r9 _ R3)<|dfa rfl<|dfa rfl<|WD.load1 rfl (rA _ R3)<|dfa rfl<|dfa rfl<|WD.load1 rfl (rB _ R3)<|dfa rfl<|WD.load1 rfl (rD _ R3)<|dfa rfl<|WD.load1 rfl (r9 _ R3) ?_
 refine WD.call (by repeat (first | exact trivial | refine ⟨rO _ R3,?_⟩ | refine ⟨rN _ R3,?_⟩ | refine ⟨r8 _ R3,?_⟩ | refine ⟨r9 _ R3,?_⟩ | refine ⟨rA _ R3,?_⟩ | refine ⟨rB _ R3,?_⟩ | refine ⟨rD _ R3,?_⟩)) rfl rfl (qP S h3 g3.wf x.o ok.o) ?_
 rintro _ h4 ⟨rfl,g4⟩
 refine WD.call (by repeat (first | exact trivial | refine ⟨rO _ g4,?_⟩ | refine ⟨rN _ g4,?_⟩ | refine ⟨r8 _ g4,?_⟩ | refine ⟨r9 _ g4,?_⟩ | refine ⟨rA _ g4,?_⟩ | refine ⟨rB _ g4,?_⟩ | refine ⟨rD _ g4,?_⟩)) rfl rfl (qP S h4 g4.wf x.o ok.o) ?_
 rintro _ h5 ⟨rfl,g5⟩
 have g35:=g4.trans g5
 refine dbn rfl rfl (zZ (c:=[115,101,101,32]++x.name++[32]++zm (zK x.o)) rfl (by simp;omega)) ?_
 refine WD.call (by repeat (first | exact trivial | refine ⟨rO _ g35,?_⟩ | refine ⟨rN _ g35,?_⟩ | refine ⟨r8 _ g35,?_⟩ | refine ⟨r9 _ g35,?_⟩ | refine ⟨rA _ g35,?_⟩ | refine ⟨rB _ g35,?_⟩ | refine ⟨rD _ g35,?_⟩)) rfl rfl (yi S h5 g5.wf x.now ok.n1.1 ok.n1.2) ?_
 rintro _ h6 ⟨rfl,g6⟩
 have g36:=g35.trans g6
 refine dbn rfl rfl (zZ (c:=[115,116,101,112,32]++zc x.now) rfl (by simp;omega))<|dbn rfl rfl (zZ (c:=[115,116,101,112,32]++zc x.now++[32]) rfl (by simp;omega)) ?_
 refine WD.call (by repeat (first | exact trivial | refine ⟨rO _ g36,?_⟩ | refine ⟨rN _ g36,?_⟩ | refine ⟨r8 _ g36,?_⟩ | refine ⟨r9 _ g36,?_⟩ | refine ⟨rA _ g36,?_⟩ | refine ⟨rB _ g36,?_⟩ | refine ⟨rD _ g36,?_⟩)) rfl rfl (yi S h6 g6.wf x.n ok.n2.1 ok.n2.2) ?_
 rintro _ h7 ⟨rfl,g7⟩
 have g37:=g36.trans g7
 refine dbn rfl rfl (zZ (c:=[115,116,101,112,32]++zc x.now++[32]++zc x.n) rfl (by simp;omega)) ?_
 refine WD.call (by repeat (first | exact trivial | refine ⟨rO _ g37,?_⟩ | refine ⟨rN _ g37,?_⟩ | refine ⟨r8 _ g37,?_⟩ | refine ⟨r9 _ g37,?_⟩ | refine ⟨rA _ g37,?_⟩ | refine ⟨rB _ g37,?_⟩ | refine ⟨rD _ g37,?_⟩)) rfl rfl (yi S h7 g7.wf x.dev ok.n3.1 ok.n3.2) ?_
 rintro _ h8 ⟨rfl,g8⟩
 have g38:=g37.trans g8
 refine dbn rfl rfl (zZ (c:=[115,112,111,105,108,32]++zc x.dev) rfl (by simp;omega))<|dbn rfl rfl (zZ (c:=[115,112,111,105,108,32]++zc x.dev++[32]) rfl (by simp;omega)) ?_
 refine WD.call (by repeat (first | exact trivial | refine ⟨rO _ g38,?_⟩ | refine ⟨rN _ g38,?_⟩ | refine ⟨r8 _ g38,?_⟩ | refine ⟨r9 _ g38,?_⟩ | refine ⟨rA _ g38,?_⟩ | refine ⟨rB _ g38,?_⟩ | refine ⟨rD _ g38,?_⟩)) rfl rfl (yi S h8 g8.wf x.at' ok.n4.1 ok.n4.2) ?_
 rintro _ h9 ⟨rfl,g9⟩
 have g39:=g38.trans g9
 refine dbn rfl rfl (zZ (c:=[115,112,111,105,108,32]++zc x.dev++[32]++zc x.at') rfl (by simp;omega))<|dbn rfl rfl (zZ (c:=[115,112,111,105,108,32]++zc x.dev++[32]++zc x.at'++[32]) rfl (by simp;omega)) ?_
 refine WD.call (by repeat (first | exact trivial | refine ⟨rO _ g39,?_⟩ | refine ⟨rN _ g39,?_⟩ | refine ⟨r8 _ g39,?_⟩ | refine ⟨r9 _ g39,?_⟩ | refine ⟨rA _ g39,?_⟩ | refine ⟨rB _ g39,?_⟩ | refine ⟨rD _ g39,?_⟩)) rfl rfl (vR S h9 g9.wf x.data (by omega) ok.b2) ?_
 rintro _ h10 ⟨rfl,g10⟩
 have g310:=g39.trans g10
 refine dbn rfl rfl (zZ (c:=[115,112,111,105,108,32]++zc x.dev++[32]++zc x.at'++[32]++zu x.data) rfl (by simp;omega)) ?_
 refine WD.call (by repeat (first | exact trivial | refine ⟨rO _ g310,?_⟩ | refine ⟨rN _ g310,?_⟩ | refine ⟨r8 _ g310,?_⟩ | refine ⟨r9 _ g310,?_⟩ | refine ⟨rA _ g310,?_⟩ | refine ⟨rB _ g310,?_⟩ | refine ⟨rD _ g310,?_⟩)) rfl rfl (yi S h10 g10.wf x.n ok.n2.1 ok.n2.2) ?_
 rintro _ h11 ⟨rfl,g11⟩
 have g311:=g310.trans g11
 refine dbn rfl rfl (zZ (c:=[108,111,115,101,32]++zc x.n) rfl (by simp;omega))<|WD.alloc rfl (StepK.buildSl rfl rfl) ?_
 change WD C _ _ _ _ (h11.push (.cells ((wt x).map V.str) (.tip [] 0 (some 9)))) _
 have gp:=(Grow.refl g311.wf).push (.cells ((wt x).map V.str) (.tip [] 0 (some 9)))
 have hnew:(h11.push (.cells ((wt x).map V.str) (.tip [] 0 (some 9)))).get h11.size=some (.cells ((wt x).map V.str) (.tip [] 0 (some 9))):=zg _ _
 have sn:Own1 h11 (h11.push (.cells ((wt x).map V.str) (.tip [] 0 (some 9)))) (.slice (some (h11.size,0)) 8 8) (wt x):=qx g311.wf (Grow.refl g311.wf) (wt x) (some 9) 8 rfl
 generalize h11.push (.cells ((wt x).map V.str) (.tip [] 0 (some 9)))=h12 at *
 have g312:=g311.trans gp
 refine dmv rfl<|WD.nil ⟨hnew,(by repeat (first | exact trivial | refine ⟨rO _ g312,?_⟩ | refine ⟨rN _ g312,?_⟩ | refine ⟨r8 _ g312,?_⟩ | refine ⟨r9 _ g312,?_⟩ | refine ⟨rA _ g312,?_⟩ | refine ⟨rB _ g312,?_⟩ | refine ⟨rD _ g312,?_⟩))⟩ ?_
 refine WC.seqO<|omv rfl ?_
 refine WO.call rfl rfl (oE S h12 gp.wf) ?_
 rintro y h13 ⟨sy,g13⟩
 have g1113:=gp.trans g13
 obtain ⟨v,h14,a1,a2,a3⟩:=(sn.grow g13).app g311.wf g1113 sy (by simp [wt,plL])
 have g314:=g311.trans a3
 have g14:=g3.trans g314
 have sv:Sl h14 1 v (zB (uS x)):=a2.sl
 have hlen:zw v=some (uS x).length:=by have:=sv.len;simpa using this
 refine WO.ops (StepK.append rfl rfl a1)<|omv rfl<|WO.nil ?_
 clear sn hnew a1 a2
 have cok:=ag ok
 have hcl:(uS x).length=22:=rfl
 have inv:=@mG
 have lc:=@eF x
 generalize uS x=cs at *
 refine WC.seq<|WC.seq<|WC.ops<|omv rfl<|WO.nil<|WC.block ?_
 refine WC.loop (σ:=Nat) (fun j=>[(1,.ptr (some (p1,0))),(3,v),(4,jv j)]) (fun j h'=>j≤cs.length∧Grow h14 h'∧∀ i,i<j→¬ (zC (cs.getD i [])=(x,0)∧k=0)) (fun j=>cs.length-j) 0
  (Cov.cons rfl (Cov.cons rfl (Cov.cons rfl (Cov.nil _)))) ⟨Nat.zero_le _,Grow.refl g14.wf,fun i hi=>by omega⟩ ?_
 rintro j h15 ⟨hj,g15,hI⟩
 have g115:=g14.trans g15
 refine WC.seq<|WC.seqO<|omv rfl<|omv rfl<|ols rfl hlen ?_
 by_cases hlt:j<cs.length
 ·refine obn rfl rfl (ltT (by omega))<|WO.nil<|WC.cond rfl (fun hc=>WC.skip ?_) (fun hc=>by cases hc)
  obtain ⟨c,o,k1,k2⟩:=vn (sv.grow g15) (i:=j) hlt
  have cj:=cok (cs.getD j []) (by rw [List.getD_eq_getElem?_getD,List.getElem?_eq_getElem hlt];exact List.getElem_mem hlt)
  have hps:=oF (cs.getD j [])
  generalize hcj:cs.getD j []=t at *
  refine WC.seq<|WC.block<|WC.seqO<|omv rfl<|omv rfl<|WO.ops (StepK.idxSl rfl rfl k1)<|old rfl k2 ?_
  refine WO.call rfl rfl (gG S h15 g115.wf t cj.1 (by omega)) ?_
  rw [←hps]
  rintro _ h16 ⟨rfl,g16⟩
  have g116:=g115.trans g16
  have q16:=(g314.trans g15).trans g16
  have hp1:p1<h16.size:=(c1.grow q16).lt g116.wf
  refine omv rfl<|oex rfl rfl<|oex rfl rfl<|WO.ops StepK.alloc ?_
  have c2:=Cl.new h16 ItV.z.cs none
  have gq:=(Grow.refl g116.wf).push (.cells ItV.z.cs (.tip [] 0 none))
  change WO C _ _ (h16.push (.cells ItV.z.cs (.tip [] 0 none))) _
  have z17:(h16.push (.cells ItV.z.cs (.tip [] 0 none))).size=h16.size+1:=rfl
  have g1417:=(g15.trans g16).trans gq
  have s16:=(g15.trans g16).size
  generalize h16.push (.cells ItV.z.cs (.tip [] 0 none))=h17 at *
  generalize h16.size=p5 at *
  obtain ⟨h18,w18,r18,c18,z18⟩:=c2.sets g1417.wf (i:=0) (us:=(zC t).1.cs) (by simp [ItV.cs]) (by simp [ItV.cs,V.one])
  have r18':Cl h18 p5 ((zC t).1.ck (.slice none 0 0)):=r18
  have g18:Grow h14 h18:=c18.newGrow g1417 g14.wf (by simp;omega)
  have g118:=g14.trans g18
  refine WO.op (StepK.store (v:=.agg (zC t).1.cs) rfl rfl rfl w18)<|omv rfl<|WO.nil<|WC.seqO<|omv rfl ?_
  have next:∀ h',Grow h14 h'→¬ (zC t=(x,0)∧k=0)→∀ i,i<j+1→¬ (zC (cs.getD i [])=(x,0)∧k=0):=by
   intro h' _ q i hi
   by_cases e:i=j
   ·rw [e,hcj];exact q
   ·exact hI i (by omega)
  by_cases he:(zC t).2=0
  ·refine obn rfl rfl (eqT he)<|omv rfl<|WO.run rfl<|WO.ops (StepK.loadN rfl (rI _ (g314.trans g18)))<|WO.run rfl<|WO.ops (StepK.loadN rfl (r18'.rds rfl))<|WO.run rfl ?_
   refine WO.call rfl rfl (eg S h18 g118.wf x (zC t).1 u (.slice none 0 0) k 0 hu rfl) ?_
   rintro _ h19 ⟨rfl,g19⟩
   have g119:=g118.trans g19
   have g1419:=g18.trans g19
   by_cases hq:x=(zC t).1∧k+0=0
   ·have hpx:zC t=(x,0):=Prod.ext hq.1.symm he
    have hl:yF x=t:=(inv hpx).2.2.2
    rw [qo hq,kw ⟨by rw [hl];exact hpx,by have:=hq.2;omega⟩,hl]
    obtain ⟨c',o',k1',k2'⟩:=vn (sv.grow g1419) (i:=j) hlt
    rw [hcj] at k2'
    exact opt rfl rfl<|WO.nil<|WC.cond rfl (fun hc=>WC.seqO<|omv rfl<|omv rfl<|WO.ops (StepK.idxSl rfl rfl k1')<|old rfl k2'<|omv rfl<|WO.nil<|WC.ret ⟨trivial,g119,rfl⟩) (fun hc=>by cases hc)
   ·rw [yc hq]
    exact opt rfl rfl<|WO.nil<|WC.cond rfl (fun hc=>by cases hc) (fun hc=>WC.skip<|WC.ops<|omv rfl<|oad rfl rfl (by omega)<|omv rfl<|WO.nil ⟨j+1,Cov.cons rfl (Cov.cons rfl (Cov.cons rfl (Cov.nil _))),⟨hlt,g1419,next _ g1419 (fun q=>hq ⟨by rw [q.1],by have:=q.2;omega⟩)⟩,by omega⟩)
  ·exact obn rfl rfl (eqF he)<|omv rfl<|WO.skip rfl rfl<|WO.skip rfl rfl<|WO.skip rfl rfl<|opf rfl rfl<|WO.nil<|WC.cond rfl (fun hc=>by cases hc) (fun hc=>WC.skip<|WC.ops<|omv rfl<|oad rfl rfl (by omega)<|omv rfl<|WO.nil ⟨j+1,Cov.cons rfl (Cov.cons rfl (Cov.cons rfl (Cov.nil _))),⟨hlt,g18,next _ g18 (fun q=>he (by rw [q.1]))⟩,by omega⟩)
 ·rw [pH (fun q=>?_)]
  ·exact obn rfl rfl (ltF (by omega))<|WO.nil<|WC.cond rfl (fun hc=>by cases hc) (fun hc=>WC.exit<|WC.seqO<|omv rfl<|WO.nil<|WC.ret ⟨trivial,g115,rfl⟩)
  ·obtain ⟨i,hi,e⟩:=List.getElem_of_mem (lc q.1)
   refine hI i (by omega) ⟨?_,q.2⟩
   rw [List.getD_eq_getElem?_getD,List.getElem?_eq_getElem hi]
   show zC cs[i]=_
   rw [e];exact q.1
end
end Abs
end Go.Proofs.YthgcjbniipfnbaaGreatDoor
namespace Go.Proofs.YthgcjbniipfnbaaGreatDoor
namespace Abs
set_option linter.unusedVariables false
set_option linter.unusedSimpArgs false
def WsOk (ws:List (List Nat)):Prop:=∀ w∈ws,Byt w∧w.length≤600
theorem WsOk.d {ws:List (List Nat)} (h:WsOk ws) (i:Nat):Byt (ws.getD i [])∧(ws.getD i []).length≤600:=by
 rw [List.getD_eq_getElem?_getD]
 cases hq:ws[i]? with
 | none=>exact ⟨Byt.nil,by simp⟩
 | some t=>exact h t (List.mem_of_getElem? hq)
end Abs
end Go.Proofs.YthgcjbniipfnbaaGreatDoor
namespace Go.Proofs.YthgcjbniipfnbaaGreatDoor
namespace Abs
set_option linter.unusedVariables false
set_option linter.unusedSimpArgs false
open Go.RowKit
attribute [local irreducible] WO WC WD StepK Ans Does Runs DoesD
structure ItIn (x:ItV):Prop where
 b:Byt x.name∧Byt x.data∧Byt x.o.path∧Byt x.o.to∧Byt x.o.data
 n1:-9223372036854775808≤x.now∧x.now≤9223372036854775807
 n2:-9223372036854775808≤x.n∧x.n≤9223372036854775807
 n3:-9223372036854775808≤x.dev∧x.dev≤9223372036854775807
 n4:-9223372036854775808≤x.at'∧x.at'≤9223372036854775807
 n5:-9223372036854775808≤x.o.off∧x.o.off≤9223372036854775807
 n6:-9223372036854775808≤x.o.len∧x.o.len≤9223372036854775807
theorem ItIn.ok {x:ItV} (i:ItIn x) (h:x.name.length+x.data.length+x.o.path.length+x.o.to.length+x.o.data.length≤600):qg x :=
 ⟨⟨i.b.2.2.1,i.b.2.2.2.1,i.b.2.2.2.2,by omega,i.n5,i.n6⟩,i.b.1,i.b.2.1,by omega,i.n1,i.n2,i.n3,i.n4⟩
structure Zq (a:AnV):Prop where
 n0:-9223372036854775808≤a.code∧a.code≤9223372036854775807
 n1:-9223372036854775808≤a.n∧a.n≤9223372036854775807
 b1:Byt a.data
 b2:∀ w∈a.names,Byt w
theorem oq {C:Cfg} {P:Heap→Prop} (S:Zn C P) (h:Heap) (hw:Wf h) (hP:P h) (x:ItV) (u:V) (k:Nat) (hu:zw u=some k) (hk:k≤9223372036854775807) (ii:ItIn x) (a:AnV) (q:V) (sq:Sl h 1 q (zB a.names)) (ai:Zq a)
  (hl:x.name.length≤1000000000000000000∧x.data.length≤1000000000000000000∧x.o.path.length≤1000000000000000000∧x.o.to.length≤1000000000000000000∧x.o.data.length≤1000000000000000000∧a.data.length≤1000000000000000000∧a.names.length≤9223372036854775807) :
  Ans C 4 [.agg (x.ck u),.agg (a.cs q)] h fun v h'=>v=.bool true∧Grow h h':=by
 have hF:C.F 4=some a4:=S.f rfl
 unfold a4 at hF
 refine Ans.val (fun _ _=>S.s _ _ _ rfl) hF rfl rfl hw fun h2 g=>?_
 clear hF
 obtain ⟨l1,l2,l3,l4,l5,l6,l7⟩:=hl
 refine WC.seqO<|WO.ops (StepK.box rfl) ?_
 have c1:=Cl.new h2 (x.ck u) none
 have g3:=g.push (.cells (x.ck u) (.tip [] 0 none))
 change WO C _ _ (h2.push (.cells (x.ck u) (.tip [] 0 none))) _
 generalize h2.push (.cells (x.ck u) (.tip [] 0 none))=h3 at *
 refine WO.ops (StepK.box rfl) ?_
 have c2:=Cl.new h3 (a.cs q) none
 have gp:=(Grow.refl g3.wf).push (.cells (a.cs q) (.tip [] 0 none))
 have g4:=g3.trans gp
 change WO C _ _ (h3.push (.cells (a.cs q) (.tip [] 0 none))) _
 replace c1:=c1.grow gp
 generalize h3.push (.cells (a.cs q) (.tip [] 0 none))=h4 at *
 generalize h3.size=p2 at *
 generalize h2.size=p1 at *
 have rI:∀ h',Grow h4 h'→h'.rds p1 0 14=some (x.ck u):=fun h' z=>(c1.grow z).rds rfl
 have rJ:∀ h',Grow h4 h'→h'.rds p2 0 4=some (a.cs q):=fun h' z=>(c2.grow z).rds rfl
 have rQ:∀ h',Grow h4 h'→h'.rd p2 (0+3)=some q:=fun h' z=>(c2.grow z).rd (i:=3) rfl
 have hlen:zw q=some a.names.length:=by have:=sq.len;simpa using this
 have R4:=Grow.refl g4.wf
 -- live(),at any time
 have live:∀ h',Grow h h'→Ans C 7 [] h' fun v h''=>v=.bool true∧h'=h'':=fun h' z=>Ans.sum (S.live h' (S.grow _ _ hP z)) ⟨rfl,rfl⟩
 refine omv rfl<|WO.nil<|WC.seq<|WC.seqO<|ofa rfl<|old rfl (c1.rd (i:=7) rfl)<|olt rfl<|ofa rfl<|old rfl (c1.rd (i:=12) rfl)<|olt rfl<|oad rfl rfl (by omega)<|ofa rfl<|ofa rfl<|old rfl (c1.rd (i:=2) rfl)<|olt rfl<|oad rfl rfl (by omega)<|ofa rfl<|ofa rfl<|old rfl (c1.rd (i:=3) rfl)<|olt rfl<|oad rfl rfl (by omega)<|ofa rfl<|ofa rfl<|old rfl (c1.rd (i:=6) rfl)<|olt rfl<|oad rfl rfl (by omega)<|ofa rfl<|old rfl (c2.rd (i:=2) rfl)<|olt rfl<|oad rfl rfl (by omega) ?_
 by_cases hbig:300<x.name.length+x.data.length+x.o.path.length+x.o.to.length+x.o.data.length+a.data.length
 ·refine obn rfl rfl (gtT (by omega))<|omv rfl<|WO.skip rfl rfl<|WO.skip rfl rfl<|WO.skip rfl rfl<|WO.skip rfl rfl<|opt rfl rfl<|WO.nil<|WC.cond rfl (fun hc=>WC.seqO ?_) (fun hc=>by cases hc)
  refine WO.call rfl rfl (live h4 g4) ?_
  rintro _ _ ⟨rfl,rfl⟩
  exact omv rfl<|WO.nil<|WC.ret ⟨trivial,g4,rfl⟩
 refine obn rfl rfl (gtF (by omega))<|omv rfl<|WO.run rfl<|ofa rfl<|WO.run rfl<|old rfl (rQ _ R4)<|WO.run rfl<|ols rfl hlen<|WO.run rfl ?_
 by_cases hmany:20<a.names.length
 ·refine obn rfl rfl (gtT (by omega))<|opf rfl rfl<|WO.nil<|WC.cond rfl (fun hc=>WC.seqO ?_) (fun hc=>by cases hc)
  refine WO.call rfl rfl (live h4 g4) ?_
  rintro _ _ ⟨rfl,rfl⟩
  exact omv rfl<|WO.nil<|WC.ret ⟨trivial,g4,rfl⟩
 refine obn rfl rfl (gtF (by omega))<|opf rfl rfl<|WO.nil<|WC.cond rfl (fun hc=>by cases hc) (fun hc=>WC.skip ?_)
 refine WC.seq<|WC.seq<|WC.ops<|omv rfl<|WO.nil<|WC.block ?_
 refine WC.loop (σ:=Nat) (fun j=>[(2,.ptr (some (p1,0))),(3,.ptr (some (p2,0))),(5,jv j)]) (fun j h'=>j≤a.names.length∧h4=h'∧∀ i,i<j→(a.names.getD i []).length≤300) (fun j=>a.names.length-j) 0
  (Cov.cons rfl (Cov.cons rfl (Cov.cons rfl (Cov.nil _)))) ⟨Nat.zero_le _,rfl,fun i hi=>by omega⟩ ?_
 rintro j _ ⟨hj,rfl,hI⟩
 refine WC.seq<|WC.seqO<|omv rfl<|ofa rfl<|old rfl (rQ _ R4)<|ols rfl hlen ?_
 by_cases hlt:j<a.names.length
 ·refine obn rfl rfl (ltT (by omega))<|WO.nil<|WC.cond rfl (fun hc=>WC.skip ?_) (fun hc=>by cases hc)
  obtain ⟨c,o,k1,k2⟩:=vn (sq.grow g4) (i:=j) hlt
  refine WC.seq<|WC.block<|WC.seqO<|ofa rfl<|old rfl (rQ _ R4)<|omv rfl<|WO.ops (StepK.idxSl rfl rfl k1)<|old rfl k2<|olt rfl ?_
  by_cases hw3:300<(a.names.getD j []).length
  ·refine obn rfl rfl (gtT (by omega))<|WO.nil<|WC.cond rfl (fun hc=>WC.seqO ?_) (fun hc=>by cases hc)
   refine WO.call rfl rfl (live h4 g4) ?_
   rintro _ _ ⟨rfl,rfl⟩
   exact omv rfl<|WO.nil<|WC.ret ⟨trivial,g4,rfl⟩
  ·exact obn rfl rfl (gtF (by omega))<|WO.nil<|WC.cond rfl (fun hc=>by cases hc) (fun hc=>WC.skip<|WC.ops<|omv rfl<|oad rfl rfl (by omega)<|omv rfl<|WO.nil ⟨j+1,Cov.cons rfl (Cov.cons rfl (Cov.cons rfl (Cov.nil _))),⟨hlt,rfl,fun i hi=>by
    by_cases e:i=j
    ·subst e;omega
    ·exact hI i (by omega)⟩,by omega⟩)
 refine obn rfl rfl (ltF (by omega))<|WO.nil<|WC.cond rfl (fun hc=>by cases hc) (fun hc=>WC.exit ?_)
 have hjl:j=a.names.length:=by omega
 have ok:qg x:=ii.ok (by omega)
 have aok:jF a:=⟨ai.n0,ai.n1,ai.b1,fun w hw=>by
  obtain ⟨i,hi,e⟩:=List.getElem_of_mem hw
  have:=hI i (by omega)
  rw [List.getD_eq_getElem?_getD,List.getElem?_eq_getElem hi] at this
  refine ⟨ai.b2 w hw,?_⟩
  rw [←e];exact this,by omega,by omega⟩
 refine WC.seqD<|WD.loadN rfl (rI _ R4)<|WD.loadN rfl (rI _ R4) ?_
 refine WD.call (by repeat (first | exact trivial | refine ⟨rI _ R4,?_⟩ | refine ⟨rJ _ R4,?_⟩)) rfl rfl (gW S.toStdL h4 g4.wf x u k hu) ?_
 rintro _ h5 ⟨rfl,g5⟩
 refine WD.call (by repeat (first | exact trivial | refine ⟨rI _ g5,?_⟩ | refine ⟨rJ _ g5,?_⟩)) rfl rfl (fg S.toStdL h5 g5.wf x u k hu hk ok) ?_
 rintro _ h6 ⟨rfl,g6⟩
 have g46:=g5.trans g6
 refine WD.call (by repeat (first | exact trivial | refine ⟨rI _ g46,?_⟩ | refine ⟨rJ _ g46,?_⟩)) rfl rfl (gN S.toStdL h6 g6.wf x u k hu ok) ?_
 rintro _ h7 ⟨rfl,g7⟩
 have g47:=g46.trans g7
 have sq7:=(sq.grow g4).grow g47
 refine dbn rfl rfl (seT rfl)<|dmv rfl<|WD.run rfl<|WD.loadN rfl (rJ _ g47)<|WD.run rfl<|WD.loadN rfl (rJ _ g47)<|WD.run rfl ?_
 refine WD.call (by repeat (first | exact trivial | refine ⟨rI _ g47,?_⟩ | refine ⟨rJ _ g47,?_⟩)) rfl rfl (eR S.toStdL h7 g7.wf a q sq7 aok) ?_
 rintro _ h8 ⟨rfl,g8⟩
 have g48:=g47.trans g8
 refine WD.run rfl<|WD.call (by repeat (first | exact trivial | refine ⟨rI _ g48,?_⟩ | refine ⟨rJ _ g48,?_⟩)) rfl rfl (ef S.toStdL h8 g8.wf a q (sq7.grow g8) aok) ?_
 rintro _ h9 ⟨rfl,g9⟩
 have g49:=g48.trans g9
 have g19:=g4.trans g49
 refine WD.run rfl<|dbn rfl rfl (seT rfl)<|dpt rfl rfl<|dmv rfl<|WD.run rfl ?_
 refine WD.call (by repeat (first | exact trivial | refine ⟨rI _ g49,?_⟩ | refine ⟨rJ _ g49,?_⟩)) rfl rfl (live h9 g19) ?_
 rintro _ _ ⟨rfl,rfl⟩
 exact dpt rfl rfl<|dmv rfl<|WD.nil (by repeat (first | exact trivial | refine ⟨rI _ g49,?_⟩ | refine ⟨rJ _ g49,?_⟩))<|WC.ret ⟨trivial,g19,rfl⟩
end Abs
end Go.Proofs.YthgcjbniipfnbaaGreatDoor
