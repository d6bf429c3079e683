/- Shell: bytes out of base 16: what the line's bytes answers. Shell: the words of an op. Shell: what the words of an item do to it. Shell: what is seen of a snapshot; an item. Shell: an item out of a line's words. Shell: what item answers. Shell: what Parse answers. -/
import Derived.Test.YthgcjbniipfnbaaGreatDoorH6
import Derived.Test.YthgcjbniipfnbaaGreatDoorA38
namespace Go.Proofs.YthgcjbniipfnbaaGreatDoor
namespace Abs
set_option linter.unusedVariables false
set_option linter.unusedSimpArgs false
open Go.RowKit
attribute [local irreducible] WO WC WD StepK Ans Does Runs DoesD
theorem Cl.inj {h:Heap} {b:Nat} {cs ds:List V} (a:Cl h b cs) (c:Cl h b ds):cs=ds:=by
 obtain ⟨t1,q1⟩:=a
 obtain ⟨t2,q2⟩:=c
 rw [q1] at q2;cases q2;rfl
def bytOk (w t:List Nat):Prop:=(w=[45]∧t=[])∨(w≠[45]∧w≠[]∧Byt t∧hexF t=w)
open Classical in
noncomputable def bytG (w:List Nat):Option (List Nat):=if h:∃ t,bytOk w t then some h.choose else none
theorem bytG_some {w t:List Nat} (h:bytG w=some t):bytOk w t:=by
 unfold bytG at h
 split at h
 ·rename_i q;cases h;exact q.choose_spec
 ·cases h
theorem bytG_none {w:List Nat} (h:bytG w=none) (t:List Nat):¬ bytOk w t:=by
 unfold bytG at h
 split at h
 ·cases h
 ·rename_i q;exact fun r=>q ⟨t,r⟩
theorem by_feeds {C:Cfg} (S:StdL C) {h0 h8:Heap} {m p4 bY:Nat} {w:List Nat} {e:List (Nat × V)} (hw0:Wf h0) (hb:Byt w) (hl:w.length≤1000000) (J0:ByJ h0 h8 m p4 w e 0 h8) (c4:Cl h8 p4 [.slice none 0 0])
  (he:Env.get e 4=some (.ptr (some (p4,0)))) (cY:Cl h8 bY (bytesV w)) (nY:bY∉[p4,m+1]) (np:p4≠m+1) (hp4:h0.size≤p4) (hm:h0.size≤m) (h48:p4<h8.size) (hm8:m+1<h8.size) :
  Feeds C h8 (m+1) ((w.length+1) / 2) (fun i=>[.slice (some (bY,2*i)) (prt w.length i) (prt w.length i)]) (fun i h'=>ByJ h0 h8 m p4 w e i h'):=by
 refine ⟨J0,fun i hi h' j=>by_step S hw0 J0.gr.wf hb hl j hi he cY nY np hp4 hm h48 hm8,?_,?_,?_⟩
 ·intro i h1 h2 j g
  obtain ⟨x,out,j1,j2,j3,j4,j5,j6⟩:=j.l
  obtain ⟨nt,tm,q1,q2⟩:=j.lp
  exact ⟨j.gr.trans g,j.ch.growr g,⟨x,out,j1.grow g,j2.grow g,j3,j4,j5,j6⟩,nt,tm,g.ext _ _ q1,q2⟩
 ·exact fun i h1 n j=>⟨j.gr.low1 n,⟨j.ch.wf,j.ch.size,j.ch.keep⟩,j.l,j.lp⟩
 ·intro i h1 j hl
  obtain ⟨x,out,j1,j2,j3,j4,j5,j6⟩:=j.l
  have e1:=(j1.of_get (hl p4 h48)).inj c4
  cases e1
  obtain ⟨g1,⟨_,g2⟩ | ⟨b,S,ty,g2,_⟩⟩:=j2
  ·exact ⟨J0.gr,Chg.refl J0.gr.wf,⟨_,out,c4,by rw [g2];exact Grown.nil _ _ _,fun c _=>Off.nil c,j4,j5,j6⟩,J0.lp⟩
  ·cases g2
theorem bvs_flat (out:List Nat):(bvs out).flatten=out.map bv:=by
 induction out with
 | nil=>rfl
 | cons c r ih=>show [bv c]++(bvs r).flatten=_;rw [ih];rfl
theorem toStr_sl {h:Heap} {x:V} {out:List Nat} (s:Sl h 1 x (bvs out)) (hb:Byt out):toStrA h x=some (.str out):=by
 have h1:=s.len
 have h2:=s.cells
 rw [bvs_flat] at h2
 simp only [toStrA,h1,h2,u8s_bv out hb]
section
variable {C:Cfg} (S:StdL C)
include S
theorem bytes_ans (h:Heap) (hw:Wf h) (b W:Nat) (all:List (List Nat)) (i:Nat) (bad:Bool) (a:Lin h b W all i bad) (ok:AllOk all) :
  Ans C 49 [.ptr (some (b,0))] h fun v h'=>∃ d,v=.str d∧Lin h' b W all (wdI all i) ((bad || !wdOk all i) || (bytG (wdT all i)).isNone)∧(∀ t,bytG (wdT all i)=some t→d=t)∧Chg [b] h h':=by
 have hF:C.F 49=some a49:=S.f rfl
 unfold a49 at hF
 have hlt:=a.lt hw
 refine Ans.rngL S.hm (S.s _ _ _ rfl) hF rfl (by decide) ?_
 clear hF
 have g0:Grow h { h with low:=h.size }:=(Grow.refl hw).low1 _
 have fin:∀ (e':List (Nat × V)) (h1:Heap) (d:List Nat) (bd:Bool),Env.get e' 2=some (.str d)→Lin h1 b W all (wdI all i) bd→bd=((bad || !wdOk all i) || (bytG (wdT all i)).isNone)→(∀ t,bytG (wdT all i)=some t→d=t)→Chg [b] h h1 →
   ∃ vs,ressE e' h1 [.tmp 2]=some vs∧(∃ d,oneOf vs=.str d∧Lin { h1 with low:=min h.low h1.low } b W all (wdI all i) ((bad || !wdOk all i) || (bytG (wdT all i)).isNone)∧(∀ t,bytG (wdT all i)=some t→d=t)∧Chg [b] h { h1 with low:=min h.low h1.low }) ∧
    ((∀ b,b<h.size→h1.get b=h.get b)→(oneOf vs).scopd h.size=true→∃ d,oneOf vs=.str d∧Lin h b W all (wdI all i) ((bad || !wdOk all i) || (bytG (wdT all i)).isNone)∧(∀ t,bytG (wdT all i)=some t→d=t)∧Chg [b] h h):=by
  intro e' h1 d bd e2 l1 hbd hd c1
  subst hbd
  refine ⟨[.str d],by simp only [ressE,resE,e2],⟨d,rfl,⟨l1.l,l1.w,l1.n,l1.le⟩,hd,⟨c1.wf,c1.size,c1.keep⟩⟩,fun hs _=>⟨d,rfl,l1.back hs hlt.1 hlt.2,hd,Chg.refl hw⟩⟩
 generalize { h with low:=h.size }=h2 at *
 obtain ⟨hbt,hln⟩:=wdT_ok ok i
 refine WX.seqP<|WC.ops<|omv rfl<|WO.nil<|ThenX.on<|WX.seqP<|WC.ops<|omv rfl ?_
 refine WO.call rfl rfl (word_ans S h2 g0.wf b W all i bad (a.grow g0)) ?_
 rintro _ h3 ⟨rfl,a3,c3⟩
 replace c3:=Chg.growl g0 c3
 generalize wdT all i=w at *
 generalize wdI all i=j at *
 generalize (bad || !wdOk all i)=bd at *
 refine omv rfl<|WO.nil<|ThenX.on<|WX.seqP<|WC.seqO<|omv rfl ?_
 by_cases h45:w=[45]
 ·refine obn rfl rfl (seT h45)<|WO.nil<|WC.cond rfl (fun hc=>WC.seqO<|omv rfl<|WO.nil<|WC.ret ⟨fun id hc=>Ex.noConfusion hc,h3,rfl,?_⟩) (fun hc=>by cases hc)
  have hg:bytG w=some []:=by
   cases hq:bytG w with
   | none=>exact absurd (.inl ⟨h45,rfl⟩) (bytG_none hq [])
   | some t =>
    rcases bytG_some hq with q | q
    ·rw [q.2]
    ·exact absurd h45 q.1
  exact fin _ h3 [] bd rfl a3 (by rw [hg];simp) (fun t ht=>by rw [hg] at ht;exact Option.some.inj ht) c3
 refine obn rfl rfl (seF h45)<|WO.nil<|WC.cond rfl (fun hc=>by cases hc) (fun hc=>WC.skip<|ThenX.on ?_)
 refine WX.seqP<|WC.ops<|WO.ops StepK.alloc ?_
 have p4:=Cl.new h3 [.slice none 0 0] none
 have g4:=(Grow.refl c3.wf).push (.cells [.slice none 0 0] (.tip [] 0 none))
 have z4:(h3.push (.cells [.slice none 0 0] (.tip [] 0 none))).size=h3.size+1:=rfl
 change WO C _ _ (h3.push (.cells [.slice none 0 0] (.tip [] 0 none))) _
 generalize h3.push (.cells [.slice none 0 0] (.tip [] 0 none))=h4 at *
 refine WO.nil<|ThenX.on<|WX.seq<|WX.seqP<|WC.ops<|omv rfl<|WO.ops (StepK.toBytes rfl) ?_
 have cY:=Cl.new h4 (bytesV w) none
 have g45:=(Grow.refl g4.wf).push (.cells (bytesV w) (.tip [] 0 none))
 have z5:(h4.push (.cells (bytesV w) (.tip [] 0 none))).size=h4.size+1:=rfl
 change WO C _ _ (h4.push (.cells (bytesV w) (.tip [] 0 none))) _
 generalize h4.push (.cells (bytesV w) (.tip [] 0 none))=h5 at *
 refine WO.call rfl rfl (chunk_ans S h5 g45.wf (.oslice h4.size 0 w.length w.length 0) rfl) ?_
 rintro _ h7 ⟨q,q3,rfl,g57,cq,cq3,lq,lq3⟩
 have g37:=(g4.trans g45).trans g57
 have z7:=g57.size
 refine WO.nil<|ThenX.on<|WX.block<|WX.range g37.wf rfl rfl (fun h8 g8 z8 m8 l8 same8 _=>?_)
 have g38:=g37.trans g8
 have c48:=p4.grow ((g45.trans g57).trans g8)
 have cY8:=cY.grow (g57.trans g8)
 have cq8:=cq.grow g8
 have cq38:=cq3.grow g8
 have J0:ByJ h3 h8 h7.size h3.size w _ 0 h8:=⟨g38,Chg.refl g38.wf,⟨_,[],c48,Grown.nil _ _ _,fun c _=>Off.nil c,rfl,Byt.nil,fun t _ _=>by simp⟩,l8⟩
 have feeds:=by_feeds (C:=C) S c3.wf hbt hln J0 c48 rfl cY8 (by simp;omega) (by omega) (by omega) (by omega) (by omega) (by omega)
 have lq8:=cq.lt g57.wf
 have lq38:=cq3.lt g57.wf
 refine (chunk1_ans S h8 g38.wf (h7.size+1) q q3 h4.size w.length hln feeds (fun i h' j=>⟨j.gr.wf,cq8.chg j.ch (by simp;omega),cq38.chg j.ch (by simp;omega)⟩)).mono (fun r h9 J=>?_)
 clear feeds J0
 have m9:=J.ch.keep _ _ (by simp;omega) m8
 have gJ:=J.gr
 have s9:=J.ch.size
 obtain ⟨x,out,j1,j2,j3,j4,j5,j6⟩:=J.l
 obtain ⟨nt,tm,hg,hs⟩:=J.lp
 refine ⟨none,⟨_,_,_,_,_,_,hg,fun hc=>by cases hc⟩,?_⟩
 have gA:Grow h3 (h9.put (h7.size+1) .dead):=gJ.put (by omega) (by omega) c3.wf _
 have kA:Cl (h9.put (h7.size+1) .dead) h3.size [x]:=j1.putNe (by omega) _
 have oA:Grown (h9.put (h7.size+1) .dead) h3.size 1 x (bvs out):=j2.frame fun b o hq o2 l k z hx=>by
  rw [get_put,if_neg (j3 _ (by omega) _ _ _ _ _ hx)];exact hq
 have mA:(h9.put (h7.size+1) .dead).get h7.size=some .dfr:=by rw [get_put,if_neg (by omega)];exact m9
 have zA:(h9.put (h7.size+1) .dead).size=h9.size:=rfl
 clear hg
 generalize h9.put (h7.size+1) .dead=hA at *
 rw [show exOf none=Ex.normal from rfl]
 unfold AtX
 dsimp only
 refine ThenX.on ?_
 refine WX.plain ?_
 have fin2:∀ (e':List (Nat × V)) (hB:Heap) (bd':Bool),Env.get e' 2=some (.str out)→Lin hB b W all j bd'→bd'=(bd || (bytG w).isNone)→(∀ t,bytG w=some t→out=t)→Chg [b] h hB→hB.get h7.size=some .dfr →
   (∀ id,Ex.ret≠.exit id)∧∃ h2,runMarks [.yld h7.size] hB=some h2∧∃ vs,ressE e' h2 [.tmp 2]=some vs∧(∃ d,oneOf vs=.str d∧Lin { h2 with low:=min h.low h2.low } b W all j (bd || (bytG w).isNone)∧(∀ t,bytG w=some t→d=t)∧Chg [b] h { h2 with low:=min h.low h2.low }) ∧
    ((∀ b,b<h.size→h2.get b=h.get b)→(oneOf vs).scopd h.size=true→∃ d,oneOf vs=.str d∧Lin h b W all j (bd || (bytG w).isNone)∧(∀ t,bytG w=some t→d=t)∧Chg [b] h h):=by
  intro e' hB bd' e2 lB hbd hcan cB mB
  have hz:=c3.size
  have hm7:=Wf.lt cB.wf mB
  refine ⟨fun id hc=>Ex.noConfusion hc,hB.put h7.size .dead,by simp only [runMarks,mB],fin e' _ out bd' e2 ⟨lB.l.putNe (by omega) _,?_,lB.n,lB.le⟩ hbd hcan ⟨fun c hc=>?_,cB.size,fun c o hc hq=>?_⟩⟩
  ·rw [get_put,if_neg (by omega)];exact lB.w
  ·rw [get_put,if_neg (by have:hB.size≤c:=hc;omega)];exact cB.wf c hc
  ·rw [get_put,if_neg (by have:=Wf.lt hw hq;omega)];exact cB.keep c o hc hq
 have cA:Chg [b] h hA:=c3.growr gA
 have aA:=a3.grow gA
 have hb3:=(a3.lt c3.wf).1
 have ts:=toStr_sl oA.sl j5
 have hN:∀ t,hexF t=w→Byt t→out=t:=fun t q1 q2=>by
  rw [j6 t q2 q1,List.take_of_length_le]
  have:w.length=2*t.length:=by rw [←q1,hexF_len]
  omega
 obtain ⟨hB,w5,c5,ch5,s5⟩:=aA.l.set gA.wf (i:=1) (v:=.bool true) (by simp) rfl
 have lB:Lin hB b W all j true:=⟨c5,ch5.keep _ _ (by simpa using aA.n) aA.w,aA.n,aA.le⟩
 have cB:Chg [b] h hB:=cA.trans ch5 hw (Comes.refl _ _)
 have mB:=ch5.keep _ _ (by simp;omega) mA
 have kB:=kA.chg ch5 (by simp;omega)
 have oB:Grown hB h3.size 1 x (bvs out):=oA.frame fun c o hq o2 l k z hx=>ch5.keep _ _ (by have:=j3 b (by omega) _ _ _ _ _ hx;simpa using this) hq
 have tB:=toStr_sl oB.sl j5
 refine WC.seq<|WC.seqO<|omv rfl ?_
 by_cases h0:w=[]
 ·refine obn rfl rfl (seT h0) ?_
  (repeat (first | refine omv rfl ?_ | refine ols rfl (by first | with_reducible assumption | rfl) ?_ | refine ofa rfl ?_ | refine oad rfl rfl (by omega) ?_ | refine osb rfl rfl (by omega) ?_ | refine obn rfl rfl rfl ?_ | refine opt rfl rfl ?_ | refine opf rfl rfl ?_ | refine ont rfl ?_ | refine oeq rfl rfl rfl ?_ | refine oex rfl rfl ?_ | refine obu rfl rfl ?_ | refine ofd rfl rfl ?_ | refine olt rfl ?_ | refine onk rfl ?_ | refine old rfl (by first | with_reducible assumption | rfl) ?_ | refine WO.run rfl ?_ | refine WO.skip rfl rfl ?_ | refine WO.skipu rfl ?_))
  refine WO.nil<|WC.cond rfl (fun hc=>?_) (fun hc=>by cases hc)
  refine WC.ops<|omv rfl<|onk rfl<|ofa rfl<|WO.op (StepK.store rfl rfl rfl w5)<|WO.nil ?_
  have hg:bytG w=none:=by
   cases hq:bytG w with
   | none=>rfl
   | some t =>
    rcases bytG_some hq with q | q
    ·exact absurd q.1 h45
    ·exact absurd h0 q.2.1
  exact WC.seqO<|old rfl (kB.rd (i:=0) rfl)<|WO.ops (StepK.toStr rfl tB)<|omv rfl<|WO.nil<|WC.ret<|fin2 _ hB true rfl lB (by rw [hg];simp) (fun t ht=>by rw [hg] at ht;cases ht) cB mB
 refine obn rfl rfl (seF h0)<|omv rfl<|WO.run rfl<|old rfl (kA.rd (i:=0) rfl)<|WO.run rfl<|WO.ops (StepK.toStr rfl ts)<|WO.run rfl ?_
 refine WO.call rfl rfl (hex_ans S hA gA.wf out (by omega) j5) ?_
 rintro _ hC ⟨rfl,gC⟩
 have gAC:=gA.trans gC
 refine WO.run rfl<|omv rfl<|WO.run rfl ?_
 by_cases he:hexF out=w
 ·have hg:bytG w=some out:=by
   cases hq:bytG w with
   | none=>exact absurd (.inr ⟨h45,h0,j5,he⟩) (bytG_none hq out)
   | some t =>
    rcases bytG_some hq with q | q
    ·exact absurd q.1 h45
    ·rw [hN t q.2.2.2 q.2.2.1]
  have kC:=kA.grow gC
  have tC:=toStr_sl (oA.grow gC).sl j5
  exact obn rfl rfl (snF he)<|opf rfl rfl<|WO.nil<|WC.cond rfl (fun hc=>by cases hc) (fun hc=>WC.skip<|WC.seqO<|old rfl (kC.rd (i:=0) rfl)<|WO.ops (StepK.toStr rfl tC)<|omv rfl<|WO.nil<|WC.ret<|fin2 _ hC bd rfl (aA.grow gC) (by rw [hg];simp) (fun t ht=>by rw [hg] at ht;exact Option.some.inj ht) (cA.growr gC) (gC.ext _ _ mA))
 ·have hg:bytG w=none:=by
   cases hq:bytG w with
   | none=>rfl
   | some t =>
    rcases bytG_some hq with q | q
    ·exact absurd q.1 h45
    ·rw [hN t q.2.2.2 q.2.2.1] at he
     exact absurd q.2.2.2 he
  have aC:=aA.grow gC
  obtain ⟨hD,w6,c6,ch6,s6⟩:=aC.l.set gC.wf (i:=1) (v:=.bool true) (by simp) rfl
  have lD:Lin hD b W all j true:=⟨c6,ch6.keep _ _ (by simpa using aC.n) aC.w,aC.n,aC.le⟩
  have cD:Chg [b] h hD:=(cA.growr gC).trans ch6 hw (Comes.refl _ _)
  have mD:=ch6.keep _ _ (by simp;omega) (gC.ext _ _ mA)
  have kD:=(kA.grow gC).chg ch6 (by simp;omega)
  have oD:Grown hD h3.size 1 x (bvs out):=(oA.grow gC).frame fun c o hq o2 l k z hx=>ch6.keep _ _ (by have:=j3 b (by omega) _ _ _ _ _ hx;simpa using this) hq
  have tD:=toStr_sl oD.sl j5
  refine obn rfl rfl (snT he)<|opf rfl rfl<|WO.nil<|WC.cond rfl (fun hc=>?_) (fun hc=>by cases hc)
  refine WC.ops<|omv rfl<|onk rfl<|ofa rfl<|WO.op (StepK.store rfl rfl rfl w6)<|WO.nil ?_
  exact WC.seqO<|old rfl (kD.rd (i:=0) rfl)<|WO.ops (StepK.toStr rfl tD)<|omv rfl<|WO.nil<|WC.ret<|fin2 _ hD true rfl lD (by rw [hg];simp) (fun t ht=>by rw [hg] at ht;cases ht) cD mD
end
end Abs
end Go.Proofs.YthgcjbniipfnbaaGreatDoor
namespace Go.Proofs.YthgcjbniipfnbaaGreatDoor
namespace Abs
set_option linter.unusedVariables false
set_option linter.unusedSimpArgs false
open Go.RowKit
attribute [local irreducible] WO WC WD StepK Ans Does Runs DoesD
theorem Chg.newR {h h1 h2:Heap} {F G:List Nat} (c:Chg F h h1) (d:Chg G h1 h2) (hw:Wf h) (hG:∀ y∈G,h.size≤y):Chg F h h2 :=
 ⟨d.wf,Nat.le_trans c.size d.size,fun b o hb q=>d.keep b o (fun hq=>by have:=hG b hq;have:=Wf.lt hw q;omega) (c.keep b o hb q)⟩
/-! ### Where a line stands behind a word, a number, bytes: (place, bad) -/
def wS (all:List (List Nat)) (s:Nat × Bool):Nat × Bool:=(wdI all s.1,s.2 || !wdOk all s.1)
def nS (all:List (List Nat)) (s:Nat × Bool):Nat × Bool:=(wdI all s.1,(s.2 || !wdOk all s.1) || (numG (wdT all s.1)).isNone)
noncomputable def bS (all:List (List Nat)) (s:Nat × Bool):Nat × Bool:=(wdI all s.1,(s.2 || !wdOk all s.1) || (bytG (wdT all s.1)).isNone)
def nV (all:List (List Nat)) (i:Nat):Int:=(numG (wdT all i)).getD 0
noncomputable def bV (all:List (List Nat)) (i:Nat):List Nat:=(bytG (wdT all i)).getD []
structure OpV where
 op:Int
 path:List Nat
 to:List Nat
 off:Int
 len:Int
 data:List Nat
def OpV.cs (o:OpV):List V:=[jv o.op,.str o.path,.str o.to,jv o.off,jv o.len,.str o.data]
noncomputable def opS (all:List (List Nat)) (d:Int) (s:Nat × Bool):Nat × Bool :=
 let s1:=wS all s
 if d=2∨d=5 then wS all s1 else if d=6 then nS all (nS all s1) else if d=7 then bS all (nS all s1) else if d=8 then nS all s1 else s1
noncomputable def opG (all:List (List Nat)) (d:Int) (s:Nat × Bool):OpV :=
 let p:=wdT all s.1
 let s1:=wS all s
 let i2:=(nS all s1).1
 if d=2∨d=5 then ⟨d,p,wdT all s1.1,0,0,[]⟩ else if d=6 then ⟨d,p,[],nV all s1.1,nV all i2,[]⟩ else if d=7 then ⟨d,p,[],nV all s1.1,0,bV all i2⟩ else if d=8 then ⟨d,p,[],0,nV all s1.1,[]⟩ else ⟨d,p,[],0,0,[]⟩
section
variable {C:Cfg} (S:StdL C)
include S
theorem word_an (h:Heap) (hw:Wf h) (b W:Nat) (all:List (List Nat)) (s:Nat × Bool) (a:Lin h b W all s.1 s.2) :
  Ans C 38 [.ptr (some (b,0))] h fun v h'=>v=.str (wdT all s.1)∧Lin h' b W all (wS all s).1 (wS all s).2∧Chg [b] h h':=word_ans S h hw b W all s.1 s.2 a
theorem number_an (h:Heap) (hw:Wf h) (b W:Nat) (all:List (List Nat)) (s:Nat × Bool) (a:Lin h b W all s.1 s.2) (ok:AllOk all) :
  Ans C 47 [.ptr (some (b,0))] h fun v h'=>v=jv (nV all s.1)∧Lin h' b W all (nS all s).1 (nS all s).2∧Chg [b] h h':=number_ans S h hw b W all s.1 s.2 a ok
theorem bytes_an (h:Heap) (hw:Wf h) (b W:Nat) (all:List (List Nat)) (s:Nat × Bool) (a:Lin h b W all s.1 s.2) (ok:AllOk all) :
  Ans C 49 [.ptr (some (b,0))] h fun v h'=>∃ d,v=.str d∧((bS all s).2=false→d=bV all s.1)∧Lin h' b W all (bS all s).1 (bS all s).2∧Chg [b] h h' :=
 (bytes_ans S h hw b W all s.1 s.2 a ok).mono fun v h' ⟨d,q1,q2,q3,q4⟩=>⟨d,q1,fun q=>by
  unfold bS at q
  simp only [Bool.or_eq_false_iff] at q
  unfold bV
  cases hq:bytG (wdT all s.1) with
  | none=>rw [hq] at q;exact absurd q.2 (by simp)
  | some t=>exact q3 t hq,q2,q4⟩
theorem op_ans (h:Heap) (hw:Wf h) (b W:Nat) (all:List (List Nat)) (s:Nat × Bool) (a:Lin h b W all s.1 s.2) (ok:AllOk all) (d:Int) :
  Ans C 42 [.ptr (some (b,0)),jv d] h fun v h'=>(∃ o:OpV,v=.agg o.cs∧((opS all d s).2=false→o=opG all d s))∧Lin h' b W all (opS all d s).1 (opS all d s).2∧Chg [b] h h':=by
 have hF:C.F 42=some a42:=S.f rfl
 unfold a42 at hF
 have hl:=a.lt hw
 refine Ans.loc S.hm (S.s _ _ _ rfl) hF rfl rfl hw (fun h2 g hsz hge=>?_) ?_
 rotate_left
 ·exact fun v h1 hg q _=>⟨q.1,q.2.1.back hg hl.1 hl.2,Chg.refl hw⟩
 clear hF
 refine WC.seqO<|WO.ops StepK.alloc ?_
 have c4:=Cl.new h2 [jv 0,.str [],.str [],jv 0,jv 0,.str []] none
 have g3:=g.push (.cells [jv 0,.str [],.str [],jv 0,jv 0,.str []] (.tip [] 0 none))
 change WO C _ _ (h2.push (.cells [jv 0,.str [],.str [],jv 0,jv 0,.str []] (.tip [] 0 none))) _
 have z3:(h2.push (.cells [jv 0,.str [],.str [],jv 0,jv 0,.str []] (.tip [] 0 none))).size=h2.size+1:=rfl
 generalize h2.push (.cells [jv 0,.str [],.str [],jv 0,jv 0,.str []] (.tip [] 0 none))=h3 at *
 have hz2:=g.size
 generalize h2.size=p4 at *
 refine WO.nil<|WC.seqO<|omv rfl<|omv rfl ?_
 refine WO.call rfl rfl (word_an S h3 g3.wf b W all s (a.grow g3)) ?_
 rintro _ h4 ⟨rfl,a4,ch4⟩
 have k4:=Chg.growl g3 ch4
 replace c4:=c4.chg ch4 (by simp;omega)
 have s4:=ch4.size
 refine obu rfl rfl<|WO.ops StepK.alloc ?_
 have c5:=Cl.new h4 [jv 0,.str [],.str [],jv 0,jv 0,.str []] none
 have g5:=(Grow.refl k4.wf).push (.cells [jv 0,.str [],.str [],jv 0,jv 0,.str []] (.tip [] 0 none))
 change WO C _ _ (h4.push (.cells [jv 0,.str [],.str [],jv 0,jv 0,.str []] (.tip [] 0 none))) _
 generalize h4.push (.cells [jv 0,.str [],.str [],jv 0,jv 0,.str []] (.tip [] 0 none))=h5 at *
 replace c4:=c4.grow g5
 replace a4:=a4.grow g5
 have k5:=k4.growr g5
 have h45:p4<h4.size:=by omega
 have s5:=g5.size
 have hb4:h.size≤h4.size:=by omega
 generalize h4.size=p5 at *
 obtain ⟨h6,w6,c6,ch6,s6⟩:=c5.sets g5.wf (i:=0) (us:=[jv d,.str (wdT all s.1),.str [],jv 0,jv 0,.str []]) (by simp) rfl
 have c6':Cl h6 p5 [jv d,.str (wdT all s.1),.str [],jv 0,jv 0,.str []]:=c6
 have hb5:=hl.1
 have hW5:=hl.2
 have k6:Chg [b] h h6:=k5.newR ch6 hw (by simpa using hb4)
 have a6:=a4.chg ch6 (by simp;omega) (by simp;omega)
 have z6:=c4.chg ch6 (by simp;omega)
 refine WO.op (StepK.store (v:=.agg [jv d,.str (wdT all s.1),.str [],jv 0,jv 0,.str []]) rfl rfl rfl w6)<|WO.nil ?_
 -- the line and the op's block at any later time
 let I:Heap→Nat × Bool→OpV→Prop:=fun h' t o=>Cl h' p4 [jv 0,.str [],.str [],jv 0,jv 0,.str []]∧Cl h' p5 o.cs∧Lin h' b W all t.1 t.2∧Chg [b] h h'
 have hI:I h6 (wS all s) ⟨d,wdT all s.1,[],0,0,[]⟩:=⟨z6,c6',a6,k6⟩
 refine WC.seqV (M:=fun e' h'=>Cov [(4,.ptr (some (p4,0))),(5,.ptr (some (p5,0)))] e'∧∃ o,I h' (opS all d s) o∧((opS all d s).2=false→o=opG all d s)) ?_ ?_
 rotate_left
 ·rintro e7 h7 ⟨k7,o,⟨q1,q2,q3,q4⟩,q5⟩
  refine WC.cov k7 ?_
  obtain ⟨h8,w8,c8,ch8,s8⟩:=q1.sets q4.wf (i:=0) (us:=o.cs) (by simp [OpV.cs]) (by simp [OpV.cs,V.one])
  have r8:Cl h8 p4 o.cs:=c8
  have q6:Chg [b] h h8:=q4.newR ch8 hw (by simpa using hz2)
  have q7:=q3.chg ch8 (by simp;omega) (by simp;omega)
  exact WC.seqO<|WO.ops (StepK.loadN rfl (q2.rds rfl))<|WO.op (StepK.store (v:=.agg o.cs) rfl rfl rfl w8)<|WO.nil<|WC.ret ⟨trivial,.agg o.cs,retE_cells rfl (Cl.rds r8 rfl),fun n=>⟨⟨o,rfl,q5⟩,⟨q7.l,q7.w,q7.n,q7.le⟩,(q6.low n)⟩⟩
 -- a word,a number,bytes at any time
 have wd:∀ h' t o,I h' t o→Ans C 38 [.ptr (some (b,0))] h' fun v h1=>v=.str (wdT all t.1)∧I h1 (wS all t) o:=fun h' t o ⟨q1,q2,q3,q4⟩ =>
  (word_an S h' q4.wf b W all t q3).mono fun v h1 ⟨e,r1,r2⟩=>⟨e,q1.chg r2 (by simp;omega),q2.chg r2 (by simp;omega),r1,q4.trans r2 hw (Comes.refl _ _)⟩
 have nb:∀ h' t o,I h' t o→Ans C 47 [.ptr (some (b,0))] h' fun v h1=>v=jv (nV all t.1)∧I h1 (nS all t) o:=fun h' t o ⟨q1,q2,q3,q4⟩ =>
  (number_an S h' q4.wf b W all t q3 ok).mono fun v h1 ⟨e,r1,r2⟩=>⟨e,q1.chg r2 (by simp;omega),q2.chg r2 (by simp;omega),r1,q4.trans r2 hw (Comes.refl _ _)⟩
 have by':∀ h' t o,I h' t o→Ans C 49 [.ptr (some (b,0))] h' fun v h1=>∃ d,v=.str d∧((bS all t).2=false→d=bV all t.1)∧I h1 (bS all t) o:=fun h' t o ⟨q1,q2,q3,q4⟩ =>
  (bytes_an S h' q4.wf b W all t q3 ok).mono fun v h1 ⟨d,e,e2,r1,r2⟩=>⟨d,e,e2,q1.chg r2 (by simp;omega),q2.chg r2 (by simp;omega),r1,q4.trans r2 hw (Comes.refl _ _)⟩
 have st:∀ h' t o (i:Nat) (v:V) (o':OpV),I h' t o→V.one v=true→i<6→o.cs.set i v=o'.cs→∃ h1,h'.wr p5 i [v]=some h1∧I h1 t o':=fun h' t o i v o' ⟨q1,q2,q3,q4⟩ hv hi he=>by
  obtain ⟨h1,w1,r1,r2,r3⟩:=q2.set q4.wf (i:=i) hi hv
  exact ⟨h1,w1,q1.chg r2 (by simp;omega),he ▸ r1,q3.chg r2 (by simp;omega) (by simp;omega),q4.newR r2 hw (by simpa using hb4)⟩
 clear c4 c5 c6 c6' a4 a6 z6 ch4 ch6 k4 k5 k6 w6
 generalize hs1:wS all s=s1 at *
 refine WC.seq<|WC.ops<|omv rfl<|WO.nil<|WC.block<|?_
 refine WC.seqV (M:=fun e' h'=>Cov [(0,.ptr (some (b,0))),(10,jv d),(11,.bool (decide (d=2∨d=5))),(4,.ptr (some (p4,0))),(5,.ptr (some (p5,0)))] e'∧h'=h6) ?_ ?_
 ·by_cases h2:d=2
  ·rw [decide_eq_true (show d=2∨d=5 from .inl h2)]
   exact WC.seqO<|obn rfl rfl (eqT h2)<|omv rfl<|WO.nil<|WC.cond rfl (fun hc=>WC.skip ⟨Cov.cons rfl (Cov.cons rfl (Cov.cons rfl (Cov.cons rfl (Cov.cons rfl (Cov.nil _))))),rfl⟩) (fun hc=>by cases hc)
  ·refine WC.seqO<|obn rfl rfl (eqF h2)<|omv rfl<|WO.nil<|WC.cond rfl (fun hc=>by cases hc) (fun hc=>?_)
   by_cases h5:d=5
   ·rw [decide_eq_true (show d=2∨d=5 from .inr h5)]
    exact WC.ops<|obn rfl rfl (eqT h5)<|omv rfl<|WO.nil ⟨Cov.cons rfl (Cov.cons rfl (Cov.cons rfl (Cov.cons rfl (Cov.cons rfl (Cov.nil _))))),rfl⟩
   ·rw [decide_eq_false (show ¬ (d=2∨d=5) from fun q=>by omega)]
    exact WC.ops<|obn rfl rfl (eqF h5)<|omv rfl<|WO.nil ⟨Cov.cons rfl (Cov.cons rfl (Cov.cons rfl (Cov.cons rfl (Cov.cons rfl (Cov.nil _))))),rfl⟩
 rintro e7 h7 ⟨k7,rfl⟩
 refine WC.cov k7 ?_
 refine WC.cond rfl (fun hc=>?_) (fun hc=>?_)
 ·have h25:=of_decide_eq_true hc
  have eS:opS all d s=wS all s1:=by simp only [opS,hs1,if_pos h25]
  have eG:opG all d s=⟨d,wdT all s.1,wdT all s1.1,0,0,[]⟩:=by simp only [opG,hs1,if_pos h25]
  rw [eS,eG]
  refine WC.ops<|omv rfl ?_
  refine WO.call rfl rfl (wd _ s1 _ hI) ?_
  rintro _ h8 ⟨rfl,i8⟩
  obtain ⟨h9,w9,i9⟩:=st h8 _ _ 2 (.str (wdT all s1.1)) ⟨d,wdT all s.1,wdT all s1.1,0,0,[]⟩ i8 rfl (by decide) rfl
  exact ofa rfl<|WO.op (StepK.store rfl rfl rfl w9)<|WO.nil ⟨Cov.cons rfl (Cov.cons rfl (Cov.nil _)),_,i9,fun _=>rfl⟩
 have h25:=of_decide_eq_false hc
 refine WC.seqO ?_
 by_cases h6':d=6
 ·have eS:opS all d s=nS all (nS all s1):=by simp only [opS,hs1,if_neg h25,if_pos h6']
  have eG:opG all d s=⟨d,wdT all s.1,[],nV all s1.1,nV all (nS all s1).1,[]⟩:=by simp only [opG,hs1,if_neg h25,if_pos h6']
  rw [eS,eG]
  refine obn rfl rfl (eqT h6')<|omv rfl<|WO.nil<|WC.cond rfl (fun hc=>WC.ops<|omv rfl ?_) (fun hc=>by cases hc)
  refine WO.call rfl rfl (nb _ s1 _ hI) ?_
  rintro _ h8 ⟨rfl,i8⟩
  refine omv rfl ?_
  refine WO.call rfl rfl (nb _ _ _ i8) ?_
  rintro _ h9 ⟨rfl,i9⟩
  obtain ⟨h10,w10,i10⟩:=st h9 _ _ 3 (jv (nV all s1.1)) ⟨d,wdT all s.1,[],nV all s1.1,0,[]⟩ i9 rfl (by decide) rfl
  obtain ⟨h11,w11,i11⟩:=st h10 _ _ 4 (jv (nV all (nS all s1).1)) ⟨d,wdT all s.1,[],nV all s1.1,nV all (nS all s1).1,[]⟩ i10 rfl (by decide) rfl
  exact ofa rfl<|WO.op (StepK.store rfl rfl rfl w10)<|ofa rfl<|WO.op (StepK.store rfl rfl rfl w11)<|WO.nil ⟨Cov.cons rfl (Cov.cons rfl (Cov.nil _)),_,i11,fun _=>rfl⟩
 refine obn rfl rfl (eqF h6')<|omv rfl<|WO.nil<|WC.cond rfl (fun hc=>by cases hc) (fun hc=>WC.seqO ?_)
 by_cases h7':d=7
 ·have eS:opS all d s=bS all (nS all s1):=by simp only [opS,hs1,if_neg h25,if_neg h6',if_pos h7']
  have eG:opG all d s=⟨d,wdT all s.1,[],nV all s1.1,0,bV all (nS all s1).1⟩:=by simp only [opG,hs1,if_neg h25,if_neg h6',if_pos h7']
  rw [eS,eG]
  refine obn rfl rfl (eqT h7')<|omv rfl<|WO.nil<|WC.cond rfl (fun hc=>WC.ops<|omv rfl ?_) (fun hc=>by cases hc)
  refine WO.call rfl rfl (nb _ s1 _ hI) ?_
  rintro _ h8 ⟨rfl,i8⟩
  refine omv rfl ?_
  refine WO.call rfl rfl (by' _ _ _ i8) ?_
  rintro _ h9 ⟨x,rfl,hx,i9⟩
  obtain ⟨h10,w10,i10⟩:=st h9 _ _ 3 (jv (nV all s1.1)) ⟨d,wdT all s.1,[],nV all s1.1,0,[]⟩ i9 rfl (by decide) rfl
  obtain ⟨h11,w11,i11⟩:=st h10 _ _ 5 (.str x) ⟨d,wdT all s.1,[],nV all s1.1,0,x⟩ i10 rfl (by decide) rfl
  exact ofa rfl<|WO.op (StepK.store rfl rfl rfl w10)<|ofa rfl<|WO.op (StepK.store rfl rfl rfl w11)<|WO.nil ⟨Cov.cons rfl (Cov.cons rfl (Cov.nil _)),_,i11,fun q=>by rw [hx q]⟩
 refine obn rfl rfl (eqF h7')<|omv rfl<|WO.nil<|WC.cond rfl (fun hc=>by cases hc) (fun hc=>WC.seqO ?_)
 by_cases h8':d=8
 ·have eS:opS all d s=nS all s1:=by simp only [opS,hs1,if_neg h25,if_neg h6',if_neg h7',if_pos h8']
  have eG:opG all d s=⟨d,wdT all s.1,[],0,nV all s1.1,[]⟩:=by simp only [opG,hs1,if_neg h25,if_neg h6',if_neg h7',if_pos h8']
  rw [eS,eG]
  refine obn rfl rfl (eqT h8')<|omv rfl<|WO.nil<|WC.cond rfl (fun hc=>WC.ops<|omv rfl ?_) (fun hc=>by cases hc)
  refine WO.call rfl rfl (nb _ s1 _ hI) ?_
  rintro _ h8 ⟨rfl,i8⟩
  obtain ⟨h9,w9,i9⟩:=st h8 _ _ 4 (jv (nV all s1.1)) ⟨d,wdT all s.1,[],0,nV all s1.1,[]⟩ i8 rfl (by decide) rfl
  exact ofa rfl<|WO.op (StepK.store rfl rfl rfl w9)<|WO.nil ⟨Cov.cons rfl (Cov.cons rfl (Cov.nil _)),_,i9,fun _=>rfl⟩
 have eS:opS all d s=s1:=by simp only [opS,hs1,if_neg h25,if_neg h6',if_neg h7',if_neg h8']
 have eG:opG all d s=⟨d,wdT all s.1,[],0,0,[]⟩:=by simp only [opG,if_neg h25,if_neg h6',if_neg h7',if_neg h8']
 rw [eS,eG]
 exact obn rfl rfl (eqF h8')<|omv rfl<|WO.nil<|WC.cond rfl (fun hc=>by cases hc) (fun hc=>WC.skip ⟨Cov.cons rfl (Cov.cons rfl (Cov.nil _)),_,hI,fun _=>rfl⟩)
end
end Abs
end Go.Proofs.YthgcjbniipfnbaaGreatDoor
namespace Go.Proofs.YthgcjbniipfnbaaGreatDoor
namespace Abs
set_option linter.unusedVariables false
set_option linter.unusedSimpArgs false
open Go.RowKit
attribute [local irreducible] WO WC WD StepK Ans Does Runs DoesD
structure ItV where
 op:Int
 o:OpV
 name:List Nat
 now:Int
 n:Int
 dev:Int
 at':Int
 data:List Nat
def OpV.z:OpV:=⟨0,[],[],0,0,[]⟩
def ItV.z:ItV:=⟨0,OpV.z,[],0,0,0,0,[]⟩
def ItV.cs (x:ItV):List V:=[jv x.op,jv x.o.op,.str x.o.path,.str x.o.to,jv x.o.off,jv x.o.len,.str x.o.data,.str x.name,jv x.now,jv x.n,jv x.dev,jv x.at',.str x.data,.slice none 0 0]
structure LI (h0:Heap) (pb b W p:Nat) (all:List (List Nat)) (h:Heap) (t:Nat × Bool) (x:ItV):Prop where
 v:Cl h pb [.ptr (some (b,0))]
 it:Cl h p x.cs
 l:Lin h b W all t.1 t.2
 c:Chg [b,p] h0 h
structure LIok (h0:Heap) (pb b W p:Nat):Prop where
 hw:Wf h0
 hb:b<h0.size
 hW:W<h0.size
 hp:p<h0.size
 hv:pb<h0.size
 n1:p≠b
 n2:p≠W
 n3:p≠pb
 n4:pb≠b
theorem LI.set {h0:Heap} {pb b W p:Nat} {all:List (List Nat)} {h:Heap} {t:Nat × Bool} {x:ItV} (q:LI h0 pb b W p all h t x) (k:LIok h0 pb b W p) {i:Nat} {us:List V} (hi:i+us.length≤14) (hv:us.all V.one=true) (x':ItV) (he:splice x.cs i us=x'.cs) :
  ∃ h1,h.wr p i us=some h1∧LI h0 pb b W p all h1 t x':=by
 have n3:=k.n3
 have n1:=k.n1
 have n2:=k.n2
 obtain ⟨h1,w1,r1,r2,r3⟩:=q.it.sets q.c.wf (i:=i) (us:=us) (by simpa [ItV.cs] using hi) hv
 exact ⟨h1,w1,q.v.chg r2 (by simp;omega),he ▸ r1,q.l.chg r2 (by simp;omega) (by simp;omega),q.c.trans (r2.mono (by simp)) k.hw (Comes.refl _ _)⟩
theorem LI.on {h0:Heap} {pb b W p:Nat} {all:List (List Nat)} {h h1:Heap} {t t1:Nat × Bool} {x:ItV} (q:LI h0 pb b W p all h t x) (k:LIok h0 pb b W p) (c:Chg [b] h h1) (l:Lin h1 b W all t1.1 t1.2):LI h0 pb b W p all h1 t1 x:=by
 have n1:=k.n1
 have n4:=k.n4
 exact ⟨q.v.chg c (by simp;omega),q.it.chg c (by simp;omega),l,q.c.trans (c.mono (by simp)) k.hw (Comes.refl _ _)⟩
theorem LI.grow {h0:Heap} {pb b W p:Nat} {all:List (List Nat)} {h h1:Heap} {t:Nat × Bool} {x:ItV} (q:LI h0 pb b W p all h t x) (g:Grow h h1):LI h0 pb b W p all h1 t x :=
 ⟨q.v.grow g,q.it.grow g,q.l.grow g,q.c.growr g⟩
theorem LI.low {h0:Heap} {pb b W p:Nat} {all:List (List Nat)} {h:Heap} {t:Nat × Bool} {x:ItV} (q:LI h0 pb b W p all h t x) (n:Nat):LI h0 pb b W p all { h with low:=n } t x :=
 ⟨q.v,q.it,⟨q.l.l,q.l.w,q.l.n,q.l.le⟩,⟨q.c.wf,q.c.size,q.c.keep⟩⟩
theorem LI.back {h0:Heap} {pb b W p:Nat} {all:List (List Nat)} {h1 h:Heap} {t:Nat × Bool} {x:ItV} (q:LI h0 pb b W p all h1 t x) (k:LIok h0 pb b W p) (c:Chg [b,p] h0 h) (hg:∀ c,c<h.size→h1.get c=h.get c):LI h0 pb b W p all h t x:=by
 have s:=c.size
 have k1:=k.hb;have k2:=k.hW;have k3:=k.hp;have k4:=k.hv
 exact ⟨q.v.of_get (hg _ (by omega)),q.it.of_get (hg _ (by omega)),q.l.back hg (by omega) (by omega),c⟩
/-! ### What each thing takes: (the line behind it, the item) -/
abbrev Stp:=(Nat × Bool)→ItV→(Nat × Bool) × ItV
def nameS (all:List (List Nat)):Stp:=fun s x=>(wS all s,{ x with name:=wdT all s.1 })
noncomputable def seeS (all:List (List Nat)):Stp:=fun s x =>
 let s1:=wS all s
 let d:=fndF nmL (wdT all s1.1)
 let s2:=wS all s1
 if d=6∨d=9∨d=10 then (opS all d s2,{ x with name:=wdT all s.1,o:=opG all d s2 }) else ((s2.1,true),{ x with name:=wdT all s.1 })
def stepS (all:List (List Nat)):Stp:=fun s x=>(nS all (nS all s),{ x with now:=nV all s.1,n:=nV all (nS all s).1 })
noncomputable def spoilS (all:List (List Nat)):Stp:=fun s x=>(bS all (nS all (nS all s)),{ x with dev:=nV all s.1,at':=nV all (nS all s).1,data:=bV all (nS all (nS all s)).1 })
def loseS (all:List (List Nat)):Stp:=fun s x=>(nS all s,{ x with n:=nV all s.1 })
def DoesS (C:Cfg) (f:Nat) (F:List (List Nat)→Stp):Prop :=
 ∀ (h0:Heap) (pb b W p:Nat) (all:List (List Nat)) (h:Heap) (s:Nat × Bool) (x:ItV),LIok h0 pb b W p→LI h0 pb b W p all h s x→AllOk all →
  Ans C f [.ptr (some (pb,0)),.ptr (some (p,0))] h fun v h'=>∃ x',LI h0 pb b W p all h' (F all s x).1 x'∧((F all s x).1.2=false→x'=(F all s x).2)
section
variable {C:Cfg} (S:StdL C)
include S
theorem item1_ans:DoesS C 43 nameS:=by
 intro h0 pb b W p all h s x k q ok
 have hF:C.F 43=some a43:=S.f rfl
 unfold a43 at hF
 refine Ans.loc S.hm (S.s _ _ _ rfl) hF rfl rfl q.c.wf (fun h2 g hsz hge=>?_) ?_
 rotate_left
 ·exact fun v h1 hg ⟨x',r,e⟩ _=>⟨x',r.back k q.c hg,e⟩
 clear hF
 have q2:=q.grow g
 refine WC.ops<|old rfl (q2.v.rd (i:=0) rfl) ?_
 refine WO.call rfl rfl (word_an S h2 g.wf b W all s q2.l) ?_
 rintro _ h3 ⟨rfl,a3,c3⟩
 obtain ⟨h4,w4,q4⟩:=(q2.on k c3 a3).set k (i:=7) (us:=[.str (wdT all s.1)]) (by simp) rfl { x with name:=wdT all s.1 } rfl
 exact ofa rfl<|WO.op (StepK.store rfl rfl rfl w4)<|WO.nil ⟨trivial,.tuple [],rfl,fun n=>⟨_,q4.low n,fun _=>rfl⟩⟩
theorem item3_ans:DoesS C 46 stepS:=by
 intro h0 pb b W p all h s x k q ok
 have hF:C.F 46=some a46:=S.f rfl
 unfold a46 at hF
 refine Ans.loc S.hm (S.s _ _ _ rfl) hF rfl rfl q.c.wf (fun h2 g hsz hge=>?_) ?_
 rotate_left
 ·exact fun v h1 hg ⟨x',r,e⟩ _=>⟨x',r.back k q.c hg,e⟩
 clear hF
 have q2:=q.grow g
 have r2:h2.rd pb 0=some (.ptr (some (b,0))):=q2.v.rd (i:=0) rfl
 refine WC.draw<|WD.load1 rfl r2<|WD.load1 rfl r2 ?_
 refine WD.call (by repeat (first | exact trivial | refine ⟨by with_reducible assumption,?_⟩)) rfl rfl (number_an S h2 g.wf b W all s q2.l ok) ?_
 rintro _ h3 ⟨rfl,a3,c3⟩
 have q3:=q2.on k c3 a3
 have r3:h3.rd pb 0=some (.ptr (some (b,0))):=q3.v.rd (i:=0) rfl
 refine WD.call (by repeat (first | exact trivial | refine ⟨by with_reducible assumption,?_⟩)) rfl rfl (number_an S h3 q3.c.wf b W all _ q3.l ok) ?_
 rintro _ h4 ⟨rfl,a4,c4⟩
 have q4:=q3.on k c4 a4
 have r4:h4.rd pb 0=some (.ptr (some (b,0))):=q4.v.rd (i:=0) rfl
 obtain ⟨h5,w5,q5⟩:=q4.set k (i:=8) (us:=[jv (nV all s.1)]) (by simp) rfl { x with now:=nV all s.1 } rfl
 obtain ⟨h6,w6,q6⟩:=q5.set k (i:=9) (us:=[jv (nV all (nS all s).1)]) (by simp) rfl { x with now:=nV all s.1,n:=nV all (nS all s).1 } rfl
 have r5:h5.rd pb 0=some (.ptr (some (b,0))):=q5.v.rd (i:=0) rfl
 have r6:h6.rd pb 0=some (.ptr (some (b,0))):=q6.v.rd (i:=0) rfl
 refine dfa rfl<|WD.opC (by repeat (first | exact trivial | refine ⟨by with_reducible assumption,?_⟩)) rfl (StepK.store rfl rfl rfl w5)<|dfa rfl<|WD.opC (by repeat (first | exact trivial | refine ⟨by with_reducible assumption,?_⟩)) rfl (StepK.store rfl rfl rfl w6)<|WD.nil (by repeat (first | exact trivial | refine ⟨by with_reducible assumption,?_⟩)) ⟨trivial,.tuple [],rfl,fun n=>⟨_,q6.low n,fun _=>rfl⟩⟩
theorem item5_ans:DoesS C 50 loseS:=by
 intro h0 pb b W p all h s x k q ok
 have hF:C.F 50=some a50:=S.f rfl
 unfold a50 at hF
 refine Ans.loc S.hm (S.s _ _ _ rfl) hF rfl rfl q.c.wf (fun h2 g hsz hge=>?_) ?_
 rotate_left
 ·exact fun v h1 hg ⟨x',r,e⟩ _=>⟨x',r.back k q.c hg,e⟩
 clear hF
 have q2:=q.grow g
 refine WC.ops<|old rfl (q2.v.rd (i:=0) rfl) ?_
 refine WO.call rfl rfl (number_an S h2 g.wf b W all s q2.l ok) ?_
 rintro _ h3 ⟨rfl,a3,c3⟩
 obtain ⟨h4,w4,q4⟩:=(q2.on k c3 a3).set k (i:=9) (us:=[jv (nV all s.1)]) (by simp) rfl { x with n:=nV all s.1 } rfl
 exact ofa rfl<|WO.op (StepK.store rfl rfl rfl w4)<|WO.nil ⟨trivial,.tuple [],rfl,fun n=>⟨_,q4.low n,fun _=>rfl⟩⟩
theorem item4_ans:DoesS C 48 spoilS:=by
 intro h0 pb b W p all h s x k q ok
 have hF:C.F 48=some a48:=S.f rfl
 unfold a48 at hF
 refine Ans.loc S.hm (S.s _ _ _ rfl) hF rfl rfl q.c.wf (fun h2 g hsz hge=>?_) ?_
 rotate_left
 ·exact fun v h1 hg ⟨x',r,e⟩ _=>⟨x',r.back k q.c hg,e⟩
 clear hF
 have q2:=q.grow g
 have r2:h2.rd pb 0=some (.ptr (some (b,0))):=q2.v.rd (i:=0) rfl
 refine WC.draw<|WD.load1 rfl r2<|WD.load1 rfl r2<|WD.load1 rfl r2 ?_
 refine WD.call (by repeat (first | exact trivial | refine ⟨by with_reducible assumption,?_⟩)) rfl rfl (number_an S h2 g.wf b W all s q2.l ok) ?_
 rintro _ h3 ⟨rfl,a3,c3⟩
 have q3:=q2.on k c3 a3
 have r3:h3.rd pb 0=some (.ptr (some (b,0))):=q3.v.rd (i:=0) rfl
 refine WD.call (by repeat (first | exact trivial | refine ⟨by with_reducible assumption,?_⟩)) rfl rfl (number_an S h3 q3.c.wf b W all _ q3.l ok) ?_
 rintro _ h4 ⟨rfl,a4,c4⟩
 have q4:=q3.on k c4 a4
 have r4:h4.rd pb 0=some (.ptr (some (b,0))):=q4.v.rd (i:=0) rfl
 refine dbu rfl rfl ?_
 refine WD.call (by repeat (first | exact trivial | refine ⟨by with_reducible assumption,?_⟩)) rfl rfl (bytes_an S h4 q4.c.wf b W all _ q4.l ok) ?_
 rintro _ h5 ⟨d,rfl,hd,a5,c5⟩
 have q5:=q4.on k c5 a5
 have r5:h5.rd pb 0=some (.ptr (some (b,0))):=q5.v.rd (i:=0) rfl
 obtain ⟨h6,w6,q6⟩:=q5.set k (i:=10) (us:=[jv (nV all s.1),jv (nV all (nS all s).1)]) (by simp) rfl { x with dev:=nV all s.1,at':=nV all (nS all s).1 } rfl
 obtain ⟨h7,w7,q7⟩:=q6.set k (i:=12) (us:=[.str d]) (by simp) rfl { x with dev:=nV all s.1,at':=nV all (nS all s).1,data:=d } rfl
 have r6:h6.rd pb 0=some (.ptr (some (b,0))):=q6.v.rd (i:=0) rfl
 have r7:h7.rd pb 0=some (.ptr (some (b,0))):=q7.v.rd (i:=0) rfl
 refine dfa rfl<|WD.opC (by repeat (first | exact trivial | refine ⟨by with_reducible assumption,?_⟩)) rfl (StepK.store (v:=.agg [jv (nV all s.1),jv (nV all (nS all s).1)]) rfl rfl rfl w6)<|dfa rfl<|WD.opC (by repeat (first | exact trivial | refine ⟨by with_reducible assumption,?_⟩)) rfl (StepK.store rfl rfl rfl w7)<|WD.nil (by repeat (first | exact trivial | refine ⟨by with_reducible assumption,?_⟩)) ⟨trivial,.tuple [],rfl,fun n=>⟨_,q7.low n,fun hq=>by rw [hd hq];rfl⟩⟩
end
end Abs
end Go.Proofs.YthgcjbniipfnbaaGreatDoor
namespace Go.Proofs.YthgcjbniipfnbaaGreatDoor
namespace Abs
set_option linter.unusedVariables false
set_option linter.unusedSimpArgs false
open Go.RowKit
attribute [local irreducible] WO WC WD StepK Ans Does Runs DoesD
theorem StepK.sliceArr {e:List (Nat × V)} {h:Heap} {x:Opd} {a v:V} {n sz:Nat} {lo hi:Option Opd} {l' h2:Option V} (hx:evE e x=some a) (h1:evoE e lo=some l') (h3:evoE e hi=some h2) (h5:sliceArrA n sz a l' h2=some v):StepK e h (.sliceArr n sz x lo hi) v h:=by
 unfold StepK;intro tm hs;simp only [opK,hs.ev hx,hs.evo h1,hs.evo h3,h5]
theorem strs_flat (ts:List (List Nat)):(strs ts).flatten=ts.map V.str:=by
 induction ts with
 | nil=>rfl
 | cons c r ih=>show [V.str c]++(strs r).flatten=_;rw [ih];rfl
theorem sl_arr {h:Heap} {p n:Nat} {ts:List (List Nat)} (c:Cl h p (ts.map V.str)) (hn:ts.length=n):Sl h 1 (.slice (some (p,0)) n n) (strs ts):=by
 refine ⟨by simp,by simpa using hn.symm,Nat.le_refl _,fun _=>?_⟩
 rw [strs_flat]
 exact c.rds (by simp)
theorem LI.bad {h0:Heap} {pb b W p:Nat} {all:List (List Nat)} {h:Heap} {t:Nat × Bool} {x:ItV} (q:LI h0 pb b W p all h t x) (k:LIok h0 pb b W p) :
  ∃ h1,h.wr b 1 [.bool true]=some h1∧LI h0 pb b W p all h1 (t.1,true) x:=by
 obtain ⟨h1,w1,r1,r2,r3⟩:=q.l.l.set q.c.wf (i:=1) (v:=.bool true) (by simp) rfl
 exact ⟨h1,w1,q.on k r2 ⟨r1,r2.keep _ _ (by simpa using q.l.n) q.l.w,q.l.n,q.l.le⟩⟩
section
variable {C:Cfg} (S:StdL C)
include S
theorem see_ans (h0:Heap) (pb b W p:Nat) (all:List (List Nat)) (h:Heap) (s:Nat × Bool) (x:ItV) (k:LIok h0 pb b W p) (q:LI h0 pb b W p all h s x) (ok:AllOk all) :
  Ans C 45 [.ptr (some (b,0)),.ptr (some (p,0))] h fun v h'=>∃ x',LI h0 pb b W p all h' (seeS all s x).1 x'∧((seeS all s x).1.2=false→x'=(seeS all s x).2):=by
 have hF:C.F 45=some a45:=S.f rfl
 unfold a45 at hF
 refine Ans.loc S.hm (S.s _ _ _ rfl) hF rfl rfl q.c.wf (fun h2 g hsz hge=>?_) ?_
 rotate_left
 ·exact fun v h1 hg ⟨x',r,e⟩ _=>⟨x',r.back k q.c hg,e⟩
 clear hF
 have q2:=q.grow g
 refine WC.seqO<|omv rfl<|omv rfl ?_
 refine WO.call rfl rfl (word_an S h2 g.wf b W all s q2.l) ?_
 rintro _ h3 ⟨rfl,a3,c3⟩
 have q3:=q2.on k c3 a3
 obtain ⟨h4,w4,q4⟩:=q3.set k (i:=7) (us:=[.str (wdT all s.1)]) (by simp) rfl { x with name:=wdT all s.1 } rfl
 refine onk rfl<|ofa rfl<|WO.op (StepK.store rfl rfl rfl w4)<|WO.nil<|WC.seqO ?_
 refine WO.call rfl rfl (names_ans S h4 q4.c.wf) ?_
 rintro _ h5 ⟨rfl,g5⟩
 have q5:=q4.grow g5
 refine WO.ops StepK.alloc ?_
 have c6:=Cl.new h5 (List.replicate 11 (.str [])) none
 have g6:=(Grow.refl q5.c.wf).push (.cells (List.replicate 11 (.str [])) (.tip [] 0 none))
 change WO C _ _ (h5.push (.cells (List.replicate 11 (.str [])) (.tip [] 0 none))) _
 generalize h5.push (.cells (List.replicate 11 (.str [])) (.tip [] 0 none))=h6 at *
 have s5:=q5.c.size
 have q6:=q5.grow g6
 obtain ⟨h7,w7,c7,ch7,z7⟩:=c6.sets g6.wf (i:=0) (us:=nmL.map V.str) (by decide) (by decide)
 have c7':Cl h7 h5.size (nmL.map V.str):=c7
 have k1:=k.hb;have k2:=k.hW;have k3:=k.hp;have k4:=k.hv
 have q7:LI h0 pb b W p all h7 (wS all s) { x with name:=wdT all s.1 }:=⟨q6.v.chg ch7 (by simp;omega),q6.it.chg ch7 (by simp;omega),q6.l.chg ch7 (by simp;omega) (by simp;omega),q6.c.newR ch7 k.hw (by simpa using s5)⟩
 refine WO.op (StepK.store (v:=.agg (nmL.map V.str)) rfl rfl rfl w7)<|WO.nil<|WC.seqD ?_
 refine WD.pure (StepK.sliceArr (v:=.slice (some (h5.size,0)) 11 11) rfl rfl rfl rfl) rfl<|dmv rfl ?_
 refine WD.call (by repeat (first | exact trivial | refine ⟨by with_reducible assumption,?_⟩)) rfl rfl (word_an S h7 q7.c.wf b W all _ q7.l) ?_
 rintro _ h8 ⟨rfl,a8,c8⟩
 have q8:=q7.on k c8 a8
 have c78:=c7'.chg c8 (by simp;omega)
 refine WD.call (by repeat (first | exact trivial | refine ⟨by with_reducible assumption,?_⟩)) rfl rfl (find_ans S h8 q8.c.wf _ nmL _ (sl_arr c78 rfl) (by decide)) ?_
 rintro _ h9 ⟨rfl,g9⟩
 have q9:=q8.grow g9
 generalize hd:fndF nmL (wdT all (wS all s).1)=d at *
 refine dmv rfl<|WD.nil (by repeat (first | exact trivial | refine ⟨by with_reducible assumption,?_⟩)) ?_
 have eb:∀ (h':Heap) (n:Nat),¬ (d=6∨d=9∨d=10)→LI h0 pb b W p all h' ((wS all (wS all s)).1,true) { x with name:=wdT all s.1 }→∃ x',LI h0 pb b W p all { h' with low:=n } (seeS all s x).1 x'∧((seeS all s x).1.2=false→x'=(seeS all s x).2):=by
  intro h' n hn r
  have e:seeS all s x=(((wS all (wS all s)).1,true),{ x with name:=wdT all s.1 }):=by simp only [seeS,hd,if_neg hn]
  rw [e]
  exact ⟨_,r.low n,fun _=>rfl⟩
 refine WC.seqV (M:=fun e' h'=>Cov [(0,.ptr (some (b,0)))] e'∧h'=h9∧¬ (d=6∨d=9∨d=10)) ?_ ?_
 rotate_left
 ·rintro e7 h' ⟨k7,rfl,hn⟩
  refine WC.cov k7 ?_
  obtain ⟨h10,w10,q10⟩:=q9.bad k
  exact WC.ops<|omv rfl<|onk rfl<|ofa rfl<|WO.op (StepK.store rfl rfl rfl w10)<|WO.nil ⟨trivial,.tuple [],rfl,fun n=>eb h10 n hn q10⟩
 refine WC.seqO<|omv rfl<|WO.nil<|WC.block ?_
 refine WC.seqV (M:=fun e' h'=>Cov [(0,.ptr (some (b,0))),(1,.ptr (some (p,0))),(5,jv d),(17,.bool (decide (d=6∨d=9∨d=10)))] e'∧h'=h9) ?_ ?_
 ·by_cases h6':d=6
  ·rw [decide_eq_true (show d=6∨d=9∨d=10 from .inl h6')]
   exact WC.seqO<|obn rfl rfl (eqT h6')<|omv rfl<|WO.nil<|WC.cond rfl (fun hc=>WC.skip ⟨Cov.cons rfl (Cov.cons rfl (Cov.cons rfl (Cov.cons rfl (Cov.nil _)))),rfl⟩) (fun hc=>by cases hc)
  refine WC.seqO<|obn rfl rfl (eqF h6')<|omv rfl<|WO.nil<|WC.cond rfl (fun hc=>by cases hc) (fun hc=>?_)
  by_cases h9':d=9
  ·rw [decide_eq_true (show d=6∨d=9∨d=10 from .inr (.inl h9'))]
   exact WC.seqO<|obn rfl rfl (eqT h9')<|omv rfl<|WO.nil<|WC.cond rfl (fun hc=>WC.skip ⟨Cov.cons rfl (Cov.cons rfl (Cov.cons rfl (Cov.cons rfl (Cov.nil _)))),rfl⟩) (fun hc=>by cases hc)
  refine WC.seqO<|obn rfl rfl (eqF h9')<|omv rfl<|WO.nil<|WC.cond rfl (fun hc=>by cases hc) (fun hc=>?_)
  by_cases h10':d=10
  ·rw [decide_eq_true (show d=6∨d=9∨d=10 from .inr (.inr h10'))]
   exact WC.ops<|obn rfl rfl (eqT h10')<|omv rfl<|WO.nil ⟨Cov.cons rfl (Cov.cons rfl (Cov.cons rfl (Cov.cons rfl (Cov.nil _)))),rfl⟩
  ·rw [decide_eq_false (show ¬ (d=6∨d=9∨d=10) from fun q=>by omega)]
   exact WC.ops<|obn rfl rfl (eqF h10')<|omv rfl<|WO.nil ⟨Cov.cons rfl (Cov.cons rfl (Cov.cons rfl (Cov.cons rfl (Cov.nil _)))),rfl⟩
 rintro e7 h' ⟨k7,rfl⟩
 refine WC.cov k7 ?_
 refine WC.cond rfl (fun hc=>?_) (fun hc=>WC.skip ⟨Cov.cons rfl (Cov.nil _),rfl,of_decide_eq_false hc⟩)
 have h3':=of_decide_eq_true hc
 refine WC.seqO<|omv rfl<|omv rfl<|omv rfl ?_
 refine WO.call rfl rfl (op_ans S _ q9.c.wf b W all _ q9.l ok d) ?_
 rintro _ h10 ⟨⟨o,rfl,ho⟩,a10,c10⟩
 have q10:=q9.on k c10 a10
 obtain ⟨h11,w11,q11⟩:=q10.set k (i:=1) (us:=o.cs) (by simp [OpV.cs]) (by simp [OpV.cs,V.one]) { x with name:=wdT all s.1,o:=o } rfl
 have e:seeS all s x=(opS all d (wS all (wS all s)),{ x with name:=wdT all s.1,o:=opG all d (wS all (wS all s)) }):=by simp only [seeS,hd,if_pos h3']
 exact onk rfl<|ofa rfl<|WO.op (StepK.store (v:=.agg o.cs) rfl rfl rfl w11)<|WO.nil<|WC.ret ⟨trivial,.tuple [],rfl,fun n=>⟨_,by rw [e];exact q11.low n,fun hq=>by rw [e] at hq ⊢;rw [ho hq]⟩⟩
theorem item2_ans:DoesS C 44 seeS:=by
 intro h0 pb b W p all h s x k q ok
 have hF:C.F 44=some a44:=S.f rfl
 unfold a44 at hF
 refine Ans.loc S.hm (S.s _ _ _ rfl) hF rfl rfl q.c.wf (fun h2 g hsz hge=>?_) ?_
 rotate_left
 ·exact fun v h1 hg ⟨x',r,e⟩ _=>⟨x',r.back k q.c hg,e⟩
 clear hF
 have q2:=q.grow g
 refine WC.ops<|old rfl (q2.v.rd (i:=0) rfl) ?_
 refine WO.call rfl rfl (see_ans S h0 pb b W p all h2 s x k q2 ok) ?_
 rintro v h3 ⟨x',q3,e3⟩
 exact WO.nil ⟨trivial,.tuple [],rfl,fun n=>⟨x',q3.low n,e3⟩⟩
end
end Abs
end Go.Proofs.YthgcjbniipfnbaaGreatDoor
namespace Go.Proofs.YthgcjbniipfnbaaGreatDoor
namespace Abs
set_option linter.unusedVariables false
set_option linter.unusedSimpArgs false
open Go.RowKit
attribute [local irreducible] WO WC WD StepK Ans Does Runs DoesD
theorem StepK.mkMap {e:List (Nat × V)} {h:Heap}:StepK e h .makeMap (.map (some h.size)) (h.push (.map [] [] 0)):=by
 unfold StepK;intro tm hs;simp only [opK]
noncomputable def stepOf (all:List (List Nat)) (k:Int):Stp :=
 if k=2∨k=3∨k=4 then nameS all else if k=5 then seeS all else if k=7 then stepS all else if k=9 then spoilS all else if k=10 then loseS all else fun s x=>(s,x)
noncomputable def itemS (all:List (List Nat)) (s:Nat × Bool):(Nat × Bool) × ItV :=
 let w:=wdT all s.1
 let s1:=wS all s
 let d:=fndF nmL w
 if 0≤d then (opS all d s1,{ ItV.z with o:=opG all d s1 }) else
  let k:=fndF thL w
  let r:=stepOf all k s1 { ItV.z with op:=k }
  ((r.1.1,r.1.2 || decide (k<0)),r.2)
theorem stepOf_op (all:List (List Nat)) (k:Int) (s:Nat × Bool) (x:ItV):(stepOf all k s x).2.op=x.op:=by
 unfold stepOf
 repeat' split
 all_goals first | rfl | (simp only [seeS];split <;> rfl)
def takeA:List (Int × Nat):=updI 10 50 (updI 9 48 (updI 7 46 (updI 5 44 (updI 4 43 (updI 3 43 (updI 2 43 []))))))
section
variable {C:Cfg} (S:StdL C)
include S
theorem take_ok (k:Int):(findI k takeA=none∧∀ all s x,stepOf all k s x=(s,x))∨∃ f,findI k takeA=some f∧DoesS C f (fun all=>stepOf all k):=by
 unfold takeA
 simp only [findI_upd]
 by_cases h10:k=10
 ·subst h10;exact .inr ⟨_,rfl,by simpa [stepOf] using item5_ans S⟩
 by_cases h9:k=9
 ·subst h9;exact .inr ⟨_,rfl,by simpa [stepOf] using item4_ans S⟩
 by_cases h7:k=7
 ·subst h7;exact .inr ⟨_,rfl,by simpa [stepOf] using item3_ans S⟩
 by_cases h5:k=5
 ·subst h5;exact .inr ⟨_,rfl,by simpa [stepOf] using item2_ans S⟩
 by_cases h4:k=4
 ·subst h4;exact .inr ⟨_,rfl,by simpa [stepOf] using item1_ans S⟩
 by_cases h3:k=3
 ·subst h3;exact .inr ⟨_,rfl,by simpa [stepOf] using item1_ans S⟩
 by_cases h2:k=2
 ·subst h2;exact .inr ⟨_,rfl,by simpa [stepOf] using item1_ans S⟩
 ·refine .inl ⟨by simp [h10,h9,h7,h5,h4,h3,h2,findI],fun all s x=>by simp [stepOf,h10,h9,h7,h5,h4,h3,h2]⟩
end
end Abs
end Go.Proofs.YthgcjbniipfnbaaGreatDoor
namespace Go.Proofs.YthgcjbniipfnbaaGreatDoor
namespace Abs
set_option linter.unusedVariables false
set_option linter.unusedSimpArgs false
open Go.RowKit
attribute [local irreducible] WO WC WD StepK Ans Does Runs DoesD
def ItR (h:Heap) (b W:Nat) (all:List (List Nat)) (s:Nat × Bool) (v:V) (h':Heap):Prop :=
 (∃ x:ItV,v=.agg x.cs∧((itemS all s).1.2=false→x=(itemS all s).2))∧Lin h' b W all (itemS all s).1.1 (itemS all s).1.2∧Chg [b] h h'
section
variable {C:Cfg} (S:StdL C)
include S
theorem item_ans (h:Heap) (hw:Wf h) (b W:Nat) (all:List (List Nat)) (s:Nat × Bool) (a:Lin h b W all s.1 s.2) (ok:AllOk all):Ans C 20 [.ptr (some (b,0))] h (ItR h b W all s):=by
 have hF:C.F 20=some a20:=S.f rfl
 unfold a20 at hF
 have hl:=a.lt hw
 refine Ans.loc S.hm (S.s _ _ _ rfl) hF rfl rfl hw (fun h2 g hsz hge=>?_) ?_
 rotate_left
 ·exact fun v h1 hg q _=>⟨q.1,q.2.1.back hg hl.1 hl.2,Chg.refl hw⟩
 clear hF
 have s2:=g.size
 refine WC.seqO<|WO.ops (StepK.box rfl) ?_
 have v1:=Cl.new h2 [.ptr (some (b,0))] none
 have g3:=g.push (.cells [.ptr (some (b,0))] (.tip [] 0 none))
 have z3:(h2.push (.cells [.ptr (some (b,0))] (.tip [] 0 none))).size=h2.size+1:=rfl
 change WO C _ _ (h2.push (.cells [.ptr (some (b,0))] (.tip [] 0 none))) _
 generalize h2.push (.cells [.ptr (some (b,0))] (.tip [] 0 none))=h3 at *
 generalize h2.size=pb at *
 refine WO.ops StepK.alloc ?_
 have v2:=Cl.new h3 ItV.z.cs none
 have gp:=(Grow.refl g3.wf).push (.cells ItV.z.cs (.tip [] 0 none))
 have z4:(h3.push (.cells ItV.z.cs (.tip [] 0 none))).size=h3.size+1:=rfl
 change WO C _ _ (h3.push (.cells ItV.z.cs (.tip [] 0 none))) _
 have g4:=g3.trans gp
 replace v1:=v1.grow gp
 generalize h3.push (.cells ItV.z.cs (.tip [] 0 none))=h4 at *
 generalize h3.size=p2 at *
 refine WO.nil<|WC.seqO<|old rfl (v1.rd (i:=0) rfl) ?_
 refine WO.call rfl rfl (word_an S h4 g4.wf b W all s (a.grow g4)) ?_
 rintro _ h5 ⟨rfl,a5,c5⟩
 have k5:Chg [b] h h5:=Chg.growl g4 c5
 replace v1:=v1.chg c5 (by simp;omega)
 replace v2:=v2.chg c5 (by simp;omega)
 have s5:=c5.size
 refine omv rfl<|WO.nil<|WC.seqO ?_
 refine WO.call rfl rfl (names_ans S h5 k5.wf) ?_
 rintro _ h6 ⟨rfl,g6⟩
 refine WO.call rfl rfl (things_ans S h6 g6.wf) ?_
 rintro _ h7 ⟨rfl,g7⟩
 have g57:=g6.trans g7
 have s57:=g57.size
 refine WO.ops StepK.alloc ?_
 have n4:=Cl.new h7 (List.replicate 11 (.str [])) none
 have gq:=(Grow.refl g57.wf).push (.cells (List.replicate 11 (.str [])) (.tip [] 0 none))
 have z8:(h7.push (.cells (List.replicate 11 (.str [])) (.tip [] 0 none))).size=h7.size+1:=rfl
 change WO C _ _ (h7.push (.cells (List.replicate 11 (.str [])) (.tip [] 0 none))) _
 have g58:=g57.trans gq
 generalize h7.push (.cells (List.replicate 11 (.str [])) (.tip [] 0 none))=h8 at *
 generalize h7.size=p4 at *
 refine WO.ops StepK.alloc ?_
 have n5:=Cl.new h8 (List.replicate 14 (.str [])) none
 have gr:=(Grow.refl g58.wf).push (.cells (List.replicate 14 (.str [])) (.tip [] 0 none))
 have z9:(h8.push (.cells (List.replicate 14 (.str [])) (.tip [] 0 none))).size=h8.size+1:=rfl
 change WO C _ _ (h8.push (.cells (List.replicate 14 (.str [])) (.tip [] 0 none))) _
 have g59:=g58.trans gr
 replace n4:=n4.grow gr
 generalize h8.push (.cells (List.replicate 14 (.str [])) (.tip [] 0 none))=h9 at *
 generalize h8.size=p5 at *
 obtain ⟨h10,w10,n4a,c10,z10⟩:=n4.sets g59.wf (i:=0) (us:=nmL.map V.str) (by decide) (by decide)
 obtain ⟨h11,w11,n5a,c11,z11⟩:=(n5.chg c10 (by simp;omega)).sets c10.wf (i:=0) (us:=thL.map V.str) (by decide) (by decide)
 have n4':Cl h11 p4 (nmL.map V.str):=Cl.chg n4a c11 (by simp;omega)
 have n5':Cl h11 p5 (thL.map V.str):=n5a
 refine WO.op (StepK.store (v:=.agg (nmL.map V.str)) rfl rfl rfl w10)<|WO.op (StepK.store (v:=.agg (thL.map V.str)) rfl rfl rfl w11)<|WO.nil ?_
 have k9:=k5.growr g59
 have k11:Chg [b] h h11:=(k9.newR c10 hw (by simp;omega)).newR c11 hw (by simp;omega)
 have a11:Lin h11 b W all (wS all s).1 (wS all s).2:=((a5.grow g59).chg c10 (by simp;omega) (by simp;omega)).chg c11 (by simp;omega) (by simp;omega)
 have v1':Cl h11 pb [.ptr (some (b,0))]:=((v1.grow g59).chg c10 (by simp;omega)).chg c11 (by simp;omega)
 have v2':Cl h11 p2 ItV.z.cs:=((v2.grow g59).chg c10 (by simp;omega)).chg c11 (by simp;omega)
 have s11:h11.size=h9.size:=by omega
 clear n4 n5 n4a n5a v1 v2 a5 k5 k9 c5 c10 c11 w10 w11 g57 g58 g59 gp gq gr g6 g7 g3 g4
 refine WC.seq<|WC.seqO<|WO.ops (StepK.sliceArr (v:=.slice (some (p4,0)) 11 11) rfl rfl rfl rfl)<|omv rfl ?_
 refine WO.call rfl rfl (find_ans S h11 k11.wf _ nmL _ (sl_arr n4' rfl) (by decide)) ?_
 rintro _ h12 ⟨rfl,g12⟩
 have k12:=k11.growr g12
 have a12:=a11.grow g12
 replace v1':=v1'.grow g12
 replace v2':=v2'.grow g12
 have s12:=g12.size
 generalize hd:fndF nmL (wdT all s.1)=d at *
 refine omv rfl<|WO.nil<|WC.seqO<|omv rfl ?_
 -- the answer's block is filled,and read
 have ret:∀ (h13:Heap) (x:ItV) (e':List (Nat × V)) (h14:Heap),Env.get e' 2=some (.ptr (some (p2,0)))→Cl h14 p2 x.cs→Chg [b] h h14→Lin h14 b W all (itemS all s).1.1 (itemS all s).1.2→((itemS all s).1.2=false→x=(itemS all s).2) →
   Fin .ret∧∃ v,retE e' h14 [.cell 2 (some 14)]=some v∧∀ n,ItR h b W all s v { h14 with low:=n }:=by
  intro h13 x e' h14 e2 c14 k14 l14 hx
  exact ⟨trivial,.agg x.cs,retE_cells e2 (c14.rds rfl),fun n=>⟨⟨x,rfl,hx⟩,⟨l14.l,l14.w,l14.n,l14.le⟩,k14.low n⟩⟩
 by_cases h0:0≤d
 ·have e:itemS all s=(opS all d (wS all s),{ ItV.z with o:=opG all d (wS all s) }):=by simp only [itemS,hd,if_pos h0]
  refine obn rfl rfl (geT h0)<|WO.nil<|WC.cond rfl (fun hc=>WC.seqO ?_) (fun hc=>by cases hc)
  refine old rfl (v1'.rd (i:=0) rfl)<|omv rfl ?_
  refine WO.call rfl rfl (op_ans S h12 k12.wf b W all _ a12 ok d) ?_
  rintro _ h13 ⟨⟨o,rfl,ho⟩,a13,c13⟩
  have k13:=k12.trans c13 hw (Comes.refl _ _)
  obtain ⟨h14,w14,r14,c14,z14⟩:=(v2'.chg c13 (by simp;omega)).sets k13.wf (i:=0) (us:=({ ItV.z with o:=o }:ItV).cs) (by simp [ItV.cs]) (by simp [ItV.cs,V.one])
  refine obu rfl rfl<|WO.op (StepK.store (v:=.agg ({ ItV.z with o:=o }:ItV).cs) rfl rfl rfl w14)<|WO.nil<|WC.ret<|ret h13 { ItV.z with o:=o } _ h14 rfl r14 (k13.newR c14 hw (by simp;omega)) ?_ ?_
  ·rw [e];exact a13.chg c14 (by simp;omega) (by simp;omega)
  ·intro hq;rw [e] at hq ⊢;rw [ho hq]
 refine obn rfl rfl (geF h0)<|WO.nil<|WC.cond rfl (fun hc=>by cases hc) (fun hc=>WC.skip ?_)
 refine WC.seqO<|WO.ops (StepK.sliceArr (v:=.slice (some (p5,0)) 14 14) rfl rfl rfl rfl)<|omv rfl ?_
 refine WO.call rfl rfl (find_ans S h12 k12.wf _ thL _ (sl_arr (n5'.grow g12) rfl) (by decide)) ?_
 rintro _ h13 ⟨rfl,g13⟩
 have k13:=k12.growr g13
 have a13:=a12.grow g13
 replace v1':=v1'.grow g13
 replace v2':=v2'.grow g13
 have s13:=g13.size
 generalize hk:fndF thL (wdT all s.1)=k at *
 have e:itemS all s=(((stepOf all k (wS all s) { ItV.z with op:=k }).1.1,(stepOf all k (wS all s) { ItV.z with op:=k }).1.2 || decide (k<0)),(stepOf all k (wS all s) { ItV.z with op:=k }).2):=by simp only [itemS,hd,if_neg h0,hk]
 refine obu rfl rfl<|WO.ops StepK.alloc ?_
 have p7:=Cl.new h13 ItV.z.cs none
 have gp:=(Grow.refl k13.wf).push (.cells ItV.z.cs (.tip [] 0 none))
 have z14:(h13.push (.cells ItV.z.cs (.tip [] 0 none))).size=h13.size+1:=rfl
 change WO C _ _ (h13.push (.cells ItV.z.cs (.tip [] 0 none))) _
 have k14:=k13.growr gp
 have a14:=a13.grow gp
 replace v1':=v1'.grow gp
 replace v2':=v2'.grow gp
 generalize h13.push (.cells ItV.z.cs (.tip [] 0 none))=h14 at *
 obtain ⟨h15,w15,r15,c15,z15⟩:=p7.sets k14.wf (i:=0) (us:=({ ItV.z with op:=k }:ItV).cs) (by simp [ItV.cs]) (by simp [ItV.cs,V.one])
 have r15':Cl h15 h13.size ({ ItV.z with op:=k }:ItV).cs:=r15
 have k15:Chg [b] h h15:=k14.newR c15 hw (by simp;omega)
 have a15:=a14.chg c15 (by simp;omega) (by simp;omega)
 have x1:=v1'.chg c15 (by simp;omega)
 have x2:=v2'.chg c15 (by simp;omega)
 refine WO.op (StepK.store (v:=.agg ({ ItV.z with op:=k }:ItV).cs) rfl rfl rfl w15)<|WO.nil ?_
 clear p7 v1' v2' a14 a13 a12 k14 k13 k12 w15 g13 g12 r15
 generalize hp7:h13.size=p7 at *
 refine WC.seqO<|omf rfl rfl<|omv rfl<|WO.nil<|WC.seqO<|WO.ops StepK.mkMap ?_
 have m0:=MapI.new (fun f:Nat=>V.func (.func f) [] [.ptr (some (pb,0)),.ptr (some (p7,0))]) h15
 have gm:=(Grow.refl k15.wf).push (.map [] [] 0)
 have z16:(h15.push (.map [] [] 0)).size=h15.size+1:=rfl
 change WO C _ _ (h15.push (.map [] [] 0)) _
 have s13':=k11.size
 have b16:Chg [h15.size] h15 (h15.push (.map [] [] 0)):=gm.chg _
 generalize h15.push (.map [] [] 0)=u0 at *
 generalize hmp:h15.size=mp at *
 obtain ⟨u1,w20,m1,c20,y1⟩:=m0.upd b16.wf 2 43
 have b17:=b16.trans c20 k15.wf (Comes.refl _ _)
 obtain ⟨u2,w21,m2,c21,y2⟩:=m1.upd b17.wf 3 43
 have b18:=b17.trans c21 k15.wf (Comes.refl _ _)
 obtain ⟨u3,w22,m3,c22,y3⟩:=m2.upd b18.wf 4 43
 have b19:=b18.trans c22 k15.wf (Comes.refl _ _)
 obtain ⟨u4,w23,m4,c23,y4⟩:=m3.upd b19.wf 5 44
 have b20:=b19.trans c23 k15.wf (Comes.refl _ _)
 obtain ⟨u5,w24,m5,c24,y5⟩:=m4.upd b20.wf 7 46
 have b21:=b20.trans c24 k15.wf (Comes.refl _ _)
 obtain ⟨u6,w25,m6,c25,y6⟩:=m5.upd b21.wf 9 48
 have b22:=b21.trans c25 k15.wf (Comes.refl _ _)
 obtain ⟨u7,w26,m7,c26,y7⟩:=m6.upd b22.wf 10 50
 have b23:=b22.trans c26 k15.wf (Comes.refl _ _)
 refine omv rfl<|WO.op (StepK.mapUpd rfl rfl rfl w20)<|omv rfl<|WO.op (StepK.mapUpd rfl rfl rfl w21)<|omv rfl<|WO.op (StepK.mapUpd rfl rfl rfl w22)<|omf rfl rfl<|WO.op (StepK.mapUpd rfl rfl rfl w23)<|omf rfl rfl<|WO.op (StepK.mapUpd rfl rfl rfl w24)<|omf rfl rfl<|WO.op (StepK.mapUpd rfl rfl rfl w25)<|omf rfl rfl<|WO.op (StepK.mapUpd rfl rfl rfl w26)<|omv rfl<|omv rfl<|WO.nil ?_
 have M7:MapI (fun f:Nat=>V.func (.func f) [] [.ptr (some (pb,0)),.ptr (some (p7,0))]) u7 mp takeA:=m7
 have kM:Chg [b] h u7:=k15.newR b23 hw (by simp;omega)
 have hm2:mp≠pb∧mp≠p2∧mp≠p7∧mp≠b∧mp≠W:=by omega
 have y1:Cl u7 pb [.ptr (some (b,0))]:=x1.chg b23 (by simp;omega)
 have y2:Cl u7 p2 ItV.z.cs:=x2.chg b23 (by simp;omega)
 have y3:Cl u7 p7 ({ ItV.z with op:=k }:ItV).cs:=r15'.chg b23 (by simp;omega)
 have y4:Lin u7 b W all (wS all s).1 (wS all s).2:=a15.chg b23 (by simp;omega) (by simp;omega)
 have zM:=b23.size
 clear x1 x2 r15' a15 k15 b16 b17 b18 b19 b20 b21 b22 b23 m0 m1 m2 m3 m4 m5 m6 m7 c20 c21 c22 c23 c24 c25 c26 w20 w21 w22 w23 w24 w25 w26
 have K:LIok u7 pb b W p7:=⟨kM.wf,by omega,by omega,by omega,by omega,by omega,by omega,by omega,by omega⟩
 have q0:LI u7 pb b W p7 all u7 (wS all s) { ItV.z with op:=k }:=⟨y1,y3,y4,Chg.refl kM.wf⟩
 generalize hst:stepOf all k (wS all s) { ItV.z with op:=k }=st at *
 refine WC.seqV (M:=fun e' h'=>Cov [(1,.ptr (some (pb,0))),(2,.ptr (some (p2,0))),(7,.ptr (some (p7,0)))] e'∧∃ x',LI u7 pb b W p7 all h' st.1 x'∧(st.1.2=false→x'=st.2)) ?_ ?_
 ·refine WC.seqO<|omv rfl<|ofa rfl<|old rfl (y3.rd (i:=0) rfl)<|WO.ops (StepK.lookup rfl rfl (M7.look k .nilFunc)) ?_
  rcases take_ok S k with ⟨hf,hid⟩ | ⟨f,hf,hdo⟩
  ·rw [hf]
   refine omv rfl<|oex rfl rfl<|oex rfl rfl<|omv rfl<|omv rfl<|WO.nil<|WC.seqO<|omv rfl<|WO.nil<|WC.cond rfl (fun hc=>by cases hc) (fun hc=>WC.skip ⟨Cov.cons rfl (Cov.cons rfl (Cov.cons rfl (Cov.nil _))),{ ItV.z with op:=k },?_⟩)
   rw [←hst,hid]
   exact ⟨q0,fun _=>rfl⟩
  ·rw [hf]
   refine omv rfl<|oex rfl rfl<|oex rfl rfl<|omv rfl<|omv rfl<|WO.nil<|WC.seqO<|omv rfl<|WO.nil<|WC.cond rfl (fun hc=>WC.ops<|omv rfl ?_) (fun hc=>by cases hc)
   refine WO.call rfl rfl (hdo u7 pb b W p7 all u7 (wS all s) { ItV.z with op:=k } K q0 ok) ?_
   rintro v h24 ⟨x',q24,hx⟩
   exact WO.nil ⟨Cov.cons rfl (Cov.cons rfl (Cov.cons rfl (Cov.nil _))),x',by rw [←hst];exact q24,fun hq=>by rw [←hst] at hq ⊢;exact hx hq⟩
 rintro e8 h8' ⟨k8,x',q,hx⟩
 refine WC.cov k8 ?_
 have kF:Chg [b] h h8':=kM.trans q.c hw (fun y hy=>by
  simp only [List.mem_cons,List.not_mem_nil,or_false] at hy
  rcases hy with rfl | rfl
  ·exact .inl (by simp)
  ·exact .inr (by omega))
 have y2':Cl h8' p2 ItV.z.cs:=y2.chg q.c (by simp;omega)
 have rv:h8'.rd pb 0=some (.ptr (some (b,0))):=q.v.rd (i:=0) rfl
 have rb:h8'.rd b (0+1)=some (.bool st.1.2):=q.l.l.rd (i:=1) rfl
 have rx:h8'.rd p7 (0+0)=some (jv x'.op):=q.it.rd (i:=0) rfl
 have hop:st.2.op=k:=by rw [←hst];exact stepOf_op _ _ _ _
 have tail:∀ (bd:Bool),bd=(st.1.2 || decide (k<0))→∃ h25,h8'.wr b 1 [.bool bd]=some h25∧∃ h26,h25.wr p2 0 x'.cs=some h26∧h25.rds p7 0 14=some x'.cs∧h25.rd pb 0=some (.ptr (some (b,0)))∧h25.rd b (0+1)=some (.bool bd)∧h25.rd p7 (0+0)=some (jv x'.op) ∧
   ∀ e',Env.get e' 2=some (.ptr (some (p2,0)))→Fin .ret∧∃ v,retE e' h26 [.cell 2 (some 14)]=some v∧∀ n,ItR h b W all s v { h26 with low:=n }:=by
  intro bd hbd
  obtain ⟨h25,w25,r25,c25,z25⟩:=q.l.l.set q.c.wf (i:=1) (v:=.bool bd) (by simp) rfl
  have r25':Cl h25 b [.oslice W st.1.1 (all.length-st.1.1) (all.length-st.1.1) 1,.bool bd]:=r25
  have p25:=q.it.chg c25 (by have:=K.n1;simp;omega)
  obtain ⟨h26,w26,r26,c26,z26⟩:=(y2'.chg c25 (by simp;omega)).sets c25.wf (i:=0) (us:=x'.cs) (by simp [ItV.cs]) (by simp [ItV.cs,V.one])
  refine ⟨h25,w25,h26,w26,p25.rds rfl,(q.v.chg c25 (by simp;omega)).rd (i:=0) rfl,r25'.rd (i:=1) rfl,p25.rd (i:=0) rfl,fun e' he=>ret h25 x' e' h26 he r26 ((kF.trans c25 hw (Comes.refl _ _)).newR c26 hw (by simp;omega)) ?_ ?_⟩
  ·rw [e]
   dsimp only
   rw [←hbd]
   exact Lin.chg ⟨r25',c25.keep _ _ (by simpa using q.l.n) q.l.w,q.l.n,q.l.le⟩ c26 (by simp;omega) (by simp;omega)
  ·intro hq
   rw [e] at hq ⊢
   dsimp only at hq ⊢
   exact hx (by rw [Bool.or_eq_false_iff] at hq;exact hq.1)
 refine WC.seqD<|WD.load1 rfl rv<|WD.load1 rfl rv<|dnk rfl<|dfa rfl<|WD.load1 rfl rb<|dmv rfl ?_
 cases hb:st.1.2 with
 | true =>
  rw [hb] at rb
  obtain ⟨h25,w25,h26,w26,l25,f1,f2,f3,fin⟩:=tail true (by rw [hb];rfl)
  refine WD.skipn rfl rfl rfl<|WD.skipn rfl rfl rfl<|WD.skipn rfl rfl rfl<|dpt rfl rfl<|dnk rfl<|dfa rfl<|WD.opC (by repeat (first | exact trivial | refine ⟨by with_reducible assumption,?_⟩)) rfl (StepK.store rfl rfl rfl w25)<|WD.nil (by repeat (first | exact trivial | refine ⟨by with_reducible assumption,?_⟩)) ?_
  exact WC.seqO<|WO.ops (StepK.loadN rfl l25)<|WO.op (StepK.store (v:=.agg x'.cs) rfl rfl rfl w26)<|WO.nil<|WC.ret<|fin _ rfl
 | false =>
  rw [hb] at rb
  have hxo:x'.op=k:=by rw [hx hb];exact hop
  rw [hxo] at rx
  obtain ⟨h25,w25,h26,w26,l25,f1,f2,f3,fin⟩:=tail (decide (k<0)) (by rw [hb];rfl)
  refine WD.run rfl<|dfa rfl<|WD.run rfl<|WD.load1 rfl rx<|WD.run rfl<|dbn rfl rfl (show binA .lss (jv k) (jv 0)=some (.bool (decide (k<0))) from rfl)<|dpf rfl rfl<|dnk rfl<|dfa rfl<|WD.opC (by repeat (first | exact trivial | refine ⟨by with_reducible assumption,?_⟩)) rfl (StepK.store rfl rfl rfl w25)<|WD.nil (by repeat (first | exact trivial | refine ⟨by with_reducible assumption,?_⟩)) ?_
  exact WC.seqO<|WO.ops (StepK.loadN rfl l25)<|WO.op (StepK.store (v:=.agg x'.cs) rfl rfl rfl w26)<|WO.nil<|WC.ret<|fin _ rfl
end
end Abs
end Go.Proofs.YthgcjbniipfnbaaGreatDoor
namespace Go.Proofs.YthgcjbniipfnbaaGreatDoor
namespace Abs
set_option linter.unusedVariables false
set_option linter.unusedSimpArgs false
open Go.RowKit
attribute [local irreducible] WO WC WD StepK Ans Does Runs DoesD
theorem splitF_ne (s:List Nat):splitF s≠[]:=by
 cases s with
 | nil=>simp [splitF]
 | cons c r =>
  unfold splitF
  split
  ·simp
  ·split <;> simp
theorem splitF_ok:∀ {s:List Nat} {n:Nat},Byt s→s.length≤n→∀ w∈splitF s,Byt w∧w.length≤n
 | [],n,_,_=>by intro w hw;simp [splitF] at hw;subst hw;exact ⟨Byt.nil,by simp⟩
 | c :: r,n,hb,hl=>by
  have hr:Byt r:=fun x hx=>hb x (List.mem_cons_of_mem _ hx)
  have hc:=hb c (by simp)
  have ih:=splitF_ok (n:=n-1) hr (by simp at hl;omega)
  have hn:1≤n:=by simp at hl;omega
  intro w hw
  unfold splitF at hw
  split at hw
  ·rcases List.mem_cons.1 hw with rfl | hw
   ·exact ⟨Byt.nil,by simp⟩
   ·have:=ih w hw;exact ⟨this.1,by omega⟩
  ·split at hw
   ·rename_i q;exact absurd q (splitF_ne r)
   ·rename_i w0 ws q
    rcases List.mem_cons.1 hw with rfl | hw
    ·have:=ih w0 (by rw [q];simp)
     refine ⟨fun x hx=>?_,by simp;omega⟩
     rcases List.mem_cons.1 hx with rfl | hx
     ·exact hc
     ·exact this.1 x hx
    ·have:=ih w (by rw [q];exact List.mem_cons_of_mem _ hw);exact ⟨this.1,by omega⟩
noncomputable def parseOk (s:List Nat):Bool:=!(itemS (splitF s) (0,false)).1.2 && (decide ((itemS (splitF s) (0,false)).1.1=(splitF s).length) && !decide (10∈s))
noncomputable def parseS (s:List Nat):ItV × Int:=if parseOk s then ((itemS (splitF s) (0,false)).2,0) else (ItV.z,15)
section
variable {C:Cfg} (S:StdL C)
include S
theorem parse_ans (h:Heap) (hw:Wf h) (s:List Nat) (hb:Byt s) (hs:s.length≤1000000):Ans C 8 [.str s] h fun v h'=>v=.tuple [.agg (parseS s).1.cs,jv (parseS s).2]∧Grow h h':=by
 have hF:C.F 8=some a8:=S.f rfl
 unfold a8 at hF
 refine Ans.val (fun _ _=>S.s _ _ _ rfl) hF rfl rfl hw fun h2 g=>?_
 clear hF
 have ok:AllOk (splitF s):=splitF_ok hb hs
 refine WC.seqO<|WO.ops StepK.alloc ?_
 have v2:=Cl.new h2 ItV.z.cs none
 have g3:=g.push (.cells ItV.z.cs (.tip [] 0 none))
 have z3:(h2.push (.cells ItV.z.cs (.tip [] 0 none))).size=h2.size+1:=rfl
 change WO C _ _ (h2.push (.cells ItV.z.cs (.tip [] 0 none))) _
 have s2:=g.size
 generalize h2.push (.cells ItV.z.cs (.tip [] 0 none))=h3 at *
 generalize h2.size=p2 at *
 refine omv rfl<|WO.nil<|WC.seqO<|omv rfl ?_
 refine WO.call rfl rfl (Ans.sum (R:=fun v h'=>v=.oslice h3.size 0 (splitF s).length (splitF s).length 1∧h'=h3.push (.cells ((splitF s).map V.str) (.tip [] 0 none))) (S.split h3 s hs hb) ⟨rfl,rfl⟩) ?_
 rintro _ _ ⟨rfl,rfl⟩
 have hW:(h3.push (.cells ((splitF s).map V.str) (.tip [] 0 none))).get h3.size=some (.cells ((splitF s).map V.str) (.tip [] 0 none)):=get_push_self _ _
 have g34:=(Grow.refl g3.wf).push (.cells ((splitF s).map V.str) (.tip [] 0 none))
 have g4:=g3.trans g34
 have z4:(h3.push (.cells ((splitF s).map V.str) (.tip [] 0 none))).size=h3.size+1:=rfl
 replace v2:=v2.grow g34
 generalize h3.push (.cells ((splitF s).map V.str) (.tip [] 0 none))=h4 at *
 generalize h3.size=W at *
 refine obu rfl rfl<|WO.ops (StepK.box rfl) ?_
 have v4:=Cl.new h4 [.oslice W 0 (splitF s).length (splitF s).length 1,.bool false] none
 have g45:=(Grow.refl g4.wf).push (.cells [.oslice W 0 (splitF s).length (splitF s).length 1,.bool false] (.tip [] 0 none))
 have g5:=g4.trans g45
 have z5:(h4.push (.cells [.oslice W 0 (splitF s).length (splitF s).length 1,.bool false] (.tip [] 0 none))).size=h4.size+1:=rfl
 change WO C _ _ (h4.push (.cells [.oslice W 0 (splitF s).length (splitF s).length 1,.bool false] (.tip [] 0 none))) _
 replace v2:=v2.grow g45
 replace hW:=g45.ext _ _ hW
 generalize h4.push (.cells [.oslice W 0 (splitF s).length (splitF s).length 1,.bool false] (.tip [] 0 none))=h5 at *
 generalize h4.size=b at *
 have a5:Lin h5 b W (splitF s) 0 false:=⟨v4,hW,by omega,Nat.zero_le _⟩
 refine omv rfl<|WO.nil<|WC.seqO<|omv rfl ?_
 refine WO.call rfl rfl (item_ans S h5 g5.wf b W (splitF s) (0,false) a5 ok) ?_
 rintro _ h6 ⟨⟨x,rfl,hx⟩,a6,c6⟩
 have g6:Grow h h6:=c6.newGrow g5 hw (by simp;omega)
 replace v2:=v2.chg c6 (by simp;omega)
 have s6:=c6.size
 generalize hst:itemS (splitF s) (0,false)=st at *
 refine WO.ops StepK.alloc ?_
 have v7:=Cl.new h6 ItV.z.cs none
 have g67:=(Grow.refl g6.wf).push (.cells ItV.z.cs (.tip [] 0 none))
 have g7:=g6.trans g67
 change WO C _ _ (h6.push (.cells ItV.z.cs (.tip [] 0 none))) _
 replace v2:=v2.grow g67
 replace a6:=a6.grow g67
 generalize h6.push (.cells ItV.z.cs (.tip [] 0 none))=h7 at *
 obtain ⟨h8,w8,r8,c8,z8⟩:=v7.sets g7.wf (i:=0) (us:=x.cs) (by simp [ItV.cs]) (by simp [ItV.cs,V.one])
 have r8':Cl h8 h6.size x.cs:=r8
 have g8:Grow h h8:=c8.newGrow g7 hw (by simp;omega)
 replace v2:=v2.chg c8 (by simp;omega)
 replace a6:=a6.chg c8 (by simp;omega) (by simp;omega)
 generalize h6.size=p5 at *
 have rb:h8.rd b (0+1)=some (.bool st.1.2):=a6.l.rd (i:=1) rfl
 have rl:h8.rd b (0+0)=some (.oslice W st.1.1 ((splitF s).length-st.1.1) ((splitF s).length-st.1.1) 1):=a6.l.rd (i:=0) rfl
 have le:=a6.le
 -- the item that is none;the item that was found
 obtain ⟨h9,w9,r9,c9,z9⟩:=v2.sets g8.wf (i:=0) (us:=ItV.z.cs) (by simp [ItV.cs]) (by simp [ItV.cs,V.one,ItV.z,OpV.z])
 have r9':Cl h9 p2 ItV.z.cs:=r9
 have g9:Grow h h9:=c9.newGrow g8 hw (by simp;omega)
 obtain ⟨h10,w10,r10,c10,z10⟩:=v2.sets g8.wf (i:=0) (us:=x.cs) (by simp [ItV.cs]) (by simp [ItV.cs,V.one])
 have r10':Cl h10 p2 x.cs:=r10
 have g10:Grow h h10:=c10.newGrow g8 hw (by simp;omega)
 refine WO.op (StepK.store (v:=.agg x.cs) rfl rfl rfl w8)<|WO.nil ?_
 have rt:∀ (e':List (Nat × V)) (h':Heap) (y:ItV) (c:Int),Env.get e' 2=some (.ptr (some (p2,0)))→Env.get e' 3=some (jv c)→Cl h' p2 y.cs→retE e' h' [.cell 2 (some 14),.tmp 3]=some (.tuple [.agg y.cs,jv c]):=by
  intro e' h' y c e2 e3 cc
  simp only [retE,ressE,resE,e2,e3,loadA,cc.rds (k:=14) rfl,oneOf]
 have no:parseOk s=false→parseS s=(ItV.z,15):=fun q=>by unfold parseS;rw [q];rfl
 refine WC.seqV (M:=fun e' h'=>Cov [(2,.ptr (some (p2,0))),(3,jv 0),(5,.ptr (some (p5,0)))] e'∧h'=h8∧parseOk s=true) ?_ ?_
 rotate_left
 ·rintro e11 _ ⟨k11,rfl,hok⟩
  refine WC.cov k11 ?_
  have hx2:parseS s=(x,0):=by
   unfold parseS
   rw [hok,if_pos rfl,hst]
   unfold parseOk at hok
   rw [hst,Bool.and_eq_true,Bool.not_eq_true'] at hok
   rw [hx hok.1]
  rw [hx2]
  exact WC.seqO<|WO.ops (StepK.loadN rfl (r8'.rds rfl))<|WO.op (StepK.store (v:=.agg x.cs) rfl rfl rfl w10)<|omv rfl<|WO.nil<|WC.ret ⟨trivial,g10,rt _ h10 x 0 rfl rfl r10'⟩
 refine WC.seqO<|omv rfl<|onk rfl<|ofa rfl<|old rfl rb<|omv rfl ?_
 cases hb2:st.1.2 with
 | true =>
  have hno:parseOk s=false:=by unfold parseOk;rw [hst,hb2];rfl
  rw [no hno]
  (repeat (first | refine omv rfl ?_ | refine ols rfl (by first | with_reducible assumption | rfl) ?_ | refine ofa rfl ?_ | refine oad rfl rfl (by omega) ?_ | refine osb rfl rfl (by omega) ?_ | refine obn rfl rfl rfl ?_ | refine opt rfl rfl ?_ | refine opf rfl rfl ?_ | refine ont rfl ?_ | refine oeq rfl rfl rfl ?_ | refine oex rfl rfl ?_ | refine obu rfl rfl ?_ | refine ofd rfl rfl ?_ | refine olt rfl ?_ | refine onk rfl ?_ | refine old rfl (by first | with_reducible assumption | rfl) ?_ | refine WO.run rfl ?_ | refine WO.skip rfl rfl ?_ | refine WO.skipu rfl ?_))
  refine WO.nil<|WC.cond rfl (fun hc=>WC.seqO<|obu rfl rfl<|WO.op (StepK.store (v:=.agg ItV.z.cs) rfl rfl rfl w9)<|omv rfl<|WO.nil<|WC.ret ⟨trivial,g9,rt _ h9 ItV.z 15 rfl rfl r9'⟩) (fun hc=>by cases hc)
 | false =>
  refine WO.run rfl<|omv rfl<|WO.run rfl<|onk rfl<|WO.run rfl<|ofa rfl<|WO.run rfl<|old rfl rl<|WO.run rfl<|ols rfl rfl<|WO.run rfl ?_
  by_cases hn:st.1.1=(splitF s).length
  ·refine obn rfl rfl (gtF (by omega))<|opf rfl rfl<|omv rfl<|WO.run rfl<|omv rfl<|WO.run rfl ?_
   refine WO.call rfl rfl (Ans.sum (R:=fun v h'=>v=.bool (decide (10∈s))∧h'=h8) (S.has h8 s hs hb) ⟨rfl,rfl⟩) ?_
   rintro _ _ ⟨rfl,rfl⟩
   refine opf rfl rfl<|WO.nil ?_
   by_cases h10':10∈s
   ·rw [decide_eq_true h10']
    have hno:parseOk s=false:=by unfold parseOk;rw [decide_eq_true h10'];simp
    rw [no hno]
    exact WC.cond rfl (fun hc=>WC.seqO<|obu rfl rfl<|WO.op (StepK.store (v:=.agg ItV.z.cs) rfl rfl rfl w9)<|omv rfl<|WO.nil<|WC.ret ⟨trivial,g9,rt _ h9 ItV.z 15 rfl rfl r9'⟩) (fun hc=>by cases hc)
   ·rw [decide_eq_false h10']
    have hok:parseOk s=true:=by unfold parseOk;rw [hst,hb2,decide_eq_false h10',decide_eq_true hn];rfl
    exact WC.cond rfl (fun hc=>by cases hc) (fun hc=>WC.skip ⟨Cov.cons rfl (Cov.cons rfl (Cov.cons rfl (Cov.nil _))),rfl,hok⟩)
  ·have hno:parseOk s=false:=by unfold parseOk;rw [hst,hb2,decide_eq_false hn];rfl
   rw [no hno]
   refine obn rfl rfl (gtT (by omega)) ?_
   (repeat (first | refine omv rfl ?_ | refine ols rfl (by first | with_reducible assumption | rfl) ?_ | refine ofa rfl ?_ | refine oad rfl rfl (by omega) ?_ | refine osb rfl rfl (by omega) ?_ | refine obn rfl rfl rfl ?_ | refine opt rfl rfl ?_ | refine opf rfl rfl ?_ | refine ont rfl ?_ | refine oeq rfl rfl rfl ?_ | refine oex rfl rfl ?_ | refine obu rfl rfl ?_ | refine ofd rfl rfl ?_ | refine olt rfl ?_ | refine onk rfl ?_ | refine old rfl (by first | with_reducible assumption | rfl) ?_ | refine WO.run rfl ?_ | refine WO.skip rfl rfl ?_ | refine WO.skipu rfl ?_))
   refine WO.nil<|WC.cond rfl (fun hc=>WC.seqO<|obu rfl rfl<|WO.op (StepK.store (v:=.agg ItV.z.cs) rfl rfl rfl w9)<|omv rfl<|WO.nil<|WC.ret ⟨trivial,g9,rt _ h9 ItV.z 15 rfl rfl r9'⟩) (fun hc=>by cases hc)
end
end Abs
end Go.Proofs.YthgcjbniipfnbaaGreatDoor
