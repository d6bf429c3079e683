/- Shell: what the machine's summaries answer; strings.Builder. Shell: hex; a line's words. Shell: a line's words, one by one; numbers; the words' places. Shell: places of words; a number in base 16. Shell: a number in base 16, of one byte. Shell: bytes out of base 16, by slices.Chunk. Shell: bytes out of base 16. -/
import Derived.Test.YthgcjbniipfnbaaGreatDoorIR
import Derived.Test.YthgcjbniipfnbaaGreatDoorA40
import Derived.Test.YthgcjbniipfnbaaGreatDoorA38
import Derived.Test.YthgcjbniipfnbaaGreatDoorA29
import Derived.Lib.AtoiAll
import Derived.Lib.ItoaNum
import Derived.Lib.AtoiAllCases
import Derived.Test.YthgcjbniipfnbaaGreatDoorA41
namespace Go.Proofs.YthgcjbniipfnbaaGreatDoor
namespace Abs
set_option linter.unusedVariables false
set_option linter.unusedSimpArgs false
open Go.RowKit
attribute [local irreducible] WO WC WD StepK Ans Does Runs DoesD
abbrev jv (n:Int):V:=.int .i64 n
def SNH:List Nat:=[7,19,21,27,33,84,115,122]
def Byt (s:List Nat):Prop:=∀ b∈s,b<256
theorem Byt.take {s:List Nat} (h:Byt s) (n:Nat):Byt (s.take n):=fun b hb=>h b (List.mem_of_mem_take hb)
theorem Byt.drop {s:List Nat} (h:Byt s) (n:Nat):Byt (s.drop n):=fun b hb=>h b (List.mem_of_mem_drop hb)
theorem Byt.app {s t:List Nat} (h:Byt s) (k:Byt t):Byt (s++t):=fun b hb=>by
 rcases List.mem_append.1 hb with q | q
 ·exact h b q
 ·exact k b q
theorem Byt.nil:Byt []:=fun b hb=>by cases hb
abbrev strs (ts:List (List Nat)):List (List V):=ts.map fun t=>[V.str t]
def u8 (s:List Nat):List UInt8:=s.map UInt8.ofNat
def ofU (s:List UInt8):List Nat:=s.map UInt8.toNat
def itoaF (n:Int):List Nat:=ofU (Lib.itoa n)
def splitF:List Nat→List (List Nat)
 | []=>[[]]
 | c::r=>if c=32 then []::splitF r else match splitF r with
  | []=>[[c]]
  | w::ws=>(c::w)::ws
def joinF:List (List Nat)→List Nat
 | []=>[]
 | [w]=>w
 | w::ws=>w++32::joinF ws
noncomputable def atoiSum (s:List Nat) (h:Heap):V × Heap:=match Lib.atoiAll (u8 s) with
 | .ok v=>(.tuple [jv v,.nilIface],h)
 | .range=>(.tuple [jv (Lib.atoiSat (u8 s)),.iface 217 (.ptr (some (h.size,0)))],h.push .dead)
 | _=>(.tuple [jv 0,.iface 217 (.ptr (some (h.size,0)))],h.push .dead)
structure StdL (C:Cfg):Prop where
 s:∀ f args h,SNH.contains f=false→C.S f args h=none
 t:C.F=tab
 hm:∀ f args h v h',C.S f args h=some (some (v,h'))→HM h h'
 noesc:∀ (h:Heap) (x:V),C.S 122 [x] h=some (some (x,h))
 itoa:∀ (h:Heap) (n:Int),-9223372036854775808≤n→n≤9223372036854775807→C.S 33 [jv n] h=some (some (.str (itoaF n),h))
 atoi:∀ (h:Heap) (s:List Nat),s.length≤1000000→Byt s→C.S 84 [.str s] h=some (some (atoiSum s h))
 split:∀ (h:Heap) (s:List Nat),s.length≤1000000→Byt s→C.S 19 [.str s,.str [32]] h=some (some (.oslice h.size 0 (splitF s).length (splitF s).length 1,h.push (.cells ((splitF s).map V.str) (.tip [] 0 none))))
 has:∀ (h:Heap) (s:List Nat),s.length≤1000000→Byt s→C.S 21 [.str s,.str [10]] h=some (some (.bool (decide (10∈s)),h))
 join:∀ (h:Heap) (x:V) (ts:List (List Nat)),Sl h 1 x (strs ts)→(joinF ts).length≤900000→C.S 27 [x,.str [32]] h=some (some (.str (joinF ts),h))
 terr:∀ (h:Heap) (a b:Int) (s:List Nat) (n:Int),s.length≤1000000→n=1∨n=2→C.S 115 [.str [80,97,114,115,101,85,105,110,116],.str s,jv a,jv b,.iface 214 (jv n)] h=some (some (.iface 217 (.ptr (some (h.size,0))),h.push .dead))
theorem StdL.f {C:Cfg} (S:StdL C) {n:Nat} {a:AFunc} (h:tab n=some a):C.F n=some a:=by rw [S.t];exact h
def Bld (h:Heap) (F:List Nat) (b:Nat) (l:List Nat):Prop :=
 ∃ a x,h.get b=some (.cells [.ptr a,x] (.tip [] 0 (some 97)))∧(a=none∨a=some (b,0)) ∧
  ((x=.slice none 0 0∧l=[]∧F=[b])∨∃ b' S fz,x=.oslice b' 0 l.length l.length 1∧l≠[]∧b'≠b∧fz≤l.length∧h.get b'=some (.cells (l.map bv) (.tip S fz (some 5)))∧F=[b,b'])
theorem Bld.same {h h1:Heap} {F:List Nat} {b:Nat} {l:List Nat} (d:Bld h F b l) (hg:∀ c∈F,h1.get c=h.get c):Bld h1 F b l:=by
 obtain ⟨a,x,q1,q2,q3⟩:=d
 refine ⟨a,x,?_,q2,?_⟩
 ·rw [hg b (by rcases q3 with ⟨_,_,rfl⟩ | ⟨b',S,fz,_,_,_,_,_,rfl⟩ <;> simp)];exact q1
 ·rcases q3 with q | ⟨b',S,fz,r1,r2,r3,r4,r5,rfl⟩
  ·exact .inl q
  ·exact .inr ⟨b',S,fz,r1,r2,r3,r4,by rw [hg b' (by simp)];exact r5,rfl⟩
theorem Bld.lows {h:Heap} {F:List Nat} {b:Nat} {l:List Nat} (d:Bld h F b l) (hw:Wf h):Lows h F:=by
 obtain ⟨a,x,q1,q2,q3⟩:=d
 intro c hc
 rcases q3 with ⟨_,_,rfl⟩ | ⟨b',S,fz,_,_,_,_,r5,rfl⟩
 ·obtain rfl:=List.mem_singleton.1 hc;exact Wf.lt hw q1
 ·simp only [List.mem_cons,List.not_mem_nil,or_false] at hc
  rcases hc with rfl | rfl
  ·exact Wf.lt hw q1
  ·exact Wf.lt hw r5
theorem Bld.chg {G F:List Nat} {h h1:Heap} {b:Nat} {l:List Nat} (d:Bld h F b l) (g:Chg G h h1) (hd:Dj F G):Bld h1 F b l:=by
 obtain ⟨a,x,q1,q2,q3⟩:=d
 have hb:b∈F:=by rcases q3 with ⟨_,_,rfl⟩ | ⟨b',S,fz,_,_,_,_,_,rfl⟩ <;> simp
 refine ⟨a,x,g.keep _ _ (hd b hb) q1,q2,?_⟩
 rcases q3 with q | ⟨b',S,fz,r1,r2,r3,r4,r5,rfl⟩
 ·exact .inl q
 ·exact .inr ⟨b',S,fz,r1,r2,r3,r4,g.keep _ _ (hd b' (by simp)) r5,rfl⟩
theorem Bld.grow {F:List Nat} {h h1:Heap} {b:Nat} {l:List Nat} (d:Bld h F b l) (g:Grow h h1):Bld h1 F b l:=d.chg (g.chg []) (fun _ _ q=>by cases q)
theorem Bld.mem {F:List Nat} {h:Heap} {b:Nat} {l:List Nat} (d:Bld h F b l):b∈F:=by
 obtain ⟨a,x,q1,q2,q3⟩:=d
 rcases q3 with ⟨_,_,rfl⟩ | ⟨b',S,fz,_,_,_,_,_,rfl⟩ <;> simp
theorem Bld.new (h:Heap):Bld (h.push (.cells [.ptr none,.slice none 0 0] (.tip [] 0 (some 97)))) [h.size] h.size [] :=
 ⟨none,_,get_push_self _ _,.inl rfl,.inl ⟨rfl,rfl,rfl⟩⟩
theorem roomy1 {n:Nat} (h:n≤1000000000):roomy n 1=true:=by
 unfold roomy;exact decide_eq_true (by omega)
theorem bld_core {h:Heap} (hw:Wf h) {F:List Nat} {b:Nat} {l s:List Nat} (d:Bld h F b l) (hn:l.length+s.length≤1000000000) :
  ∃ x v h',h.rd b 1=some x∧appendCore h 1 1 (some 5) x s.length (s.map bv)=some (v,h')∧∃ h2 F',h'.wr b 1 [v]=some h2∧Bld h2 F' b (l++s)∧Chg F h h2∧Comes h F F'∧h2.low≤b∧h'.rd b 1=some x:=by
 obtain ⟨a,x,q1,q2,q3⟩:=d
 have hb:=Wf.lt hw q1
 have hrd:∀ (k:Heap),k.get b=some (.cells [.ptr a,x] (.tip [] 0 (some 97)))→k.rd b 1=some x:=fun k hk=>by rw [rd_cell hk];rfl
 have put:∀ (k:Heap) (v:V),k.get b=some (.cells [.ptr a,x] (.tip [] 0 (some 97)))→V.one v=true→k.wr b 1 [v]=some (k.put b (.cells [.ptr a,v] (.tip [] 0 (some 97)))):=fun k v hk hv=>wr_cell hk (by simp) hv
 have lowp:∀ (k:Heap) (o:Obj),(k.put b o).low≤b:=fun k o=>Nat.min_le_right _ _
 rcases q3 with ⟨rfl,rfl,rfl⟩ | ⟨b',S,fz,rfl,r2,r3,r4,r5,rfl⟩
 ·by_cases hs:s=[]
  ·subst hs
   refine ⟨_,.slice none 0 0,h,hrd h q1,rfl,_,[b],put h _ q1 rfl,⟨a,_,by rw [get_put,if_pos rfl],q2,.inl ⟨rfl,rfl,rfl⟩⟩,Chg.put hw hb _,Comes.refl _ _,lowp _ _,hrd h q1⟩
  ·have hn0:s.length≠0:=by intro e;exact hs (List.length_eq_zero_iff.1 e)
   have hne:b≠h.size:=by omega
   have g1:(h.push (.cells (s.map bv) (.tip [] 0 (some 5)))).get b=some (.cells [.ptr a,.slice none 0 0] (.tip [] 0 (some 97))):=by rw [get_push,if_neg hne];exact q1
   have gr:Grow h (h.push (.cells (s.map bv) (.tip [] 0 (some 5)))):=(Grow.refl hw).push _
   refine ⟨_,.oslice h.size 0 s.length s.length 1,h.push (.cells (s.map bv) (.tip [] 0 (some 5))),hrd h q1,?_,_,[b,h.size],put _ _ g1 rfl,⟨a,_,by rw [get_put,if_pos rfl],q2,.inr ⟨h.size,[],0,by simp,by simpa using hs,by omega,by omega,?_,rfl⟩⟩,Chg.growl gr (Chg.put gr.wf (by simp only [Heap.push];omega) _),?_,lowp _ _,hrd _ g1⟩
   ·simp only [appendCore]
    rw [if_neg hn0,if_pos (roomy1 (by simpa using hn))]
   ·rw [get_put,if_neg (by omega),get_push_self];rfl
   ·intro c hc
    simp only [List.mem_cons,List.not_mem_nil,or_false] at hc
    rcases hc with rfl | rfl
    ·exact .inl (by simp)
    ·exact .inr (Nat.le_refl _)
 ·have hb':=Wf.lt hw r5
  by_cases hs:s=[]
  ·subst hs
   refine ⟨_,.oslice b' 0 l.length l.length 1,h,hrd h q1,?_,_,[b,b'],put h _ q1 rfl,⟨a,_,by rw [get_put,if_pos rfl],q2,.inr ⟨b',S,fz,by simp,by simpa using r2,r3,by simpa using r4,?_,rfl⟩⟩,(Chg.put hw hb _).mono (by simp),Comes.refl _ _,lowp _ _,hrd h q1⟩
   ·simp [appendCore]
   ·rw [get_put,if_neg r3,List.append_nil];exact r5
  ·have hn0:s.length≠0:=by intro e;exact hs (List.length_eq_zero_iff.1 e)
   have hl0:l.length≠0:=by intro e;exact r2 (List.length_eq_zero_iff.1 e)
   have hne:b≠h.size:=by omega
   have g1:((h.put b' (.cells (l.map bv) .sup)).push (.cells (l.map bv++s.map bv) (.tip (b'::S) fz (some 5)))).get b=some (.cells [.ptr a,.oslice b' 0 l.length l.length 1] (.tip [] 0 (some 97))):=by
    rw [get_push,if_neg (by simpa [Heap.put] using hne),get_put,if_neg (fun e=>r3 e.symm)];exact q1
   have c1:Chg [b'] h (h.put b' (.cells (l.map bv) .sup)):=Chg.put hw hb' _
   have gr:Grow (h.put b' (.cells (l.map bv) .sup)) ((h.put b' (.cells (l.map bv) .sup)).push (.cells (l.map bv++s.map bv) (.tip (b'::S) fz (some 5)))):=(Grow.refl c1.wf).push _
   have c2:=c1.growr gr
   refine ⟨_,.oslice h.size 0 (l.length+s.length) (l.length+s.length) 1,(h.put b' (.cells (l.map bv) .sup)).push (.cells (l.map bv++s.map bv) (.tip (b'::S) fz (some 5))),hrd h q1,?_,_,[b,h.size],put _ _ g1 rfl,⟨a,_,by rw [get_put,if_pos rfl],q2,.inr ⟨h.size,b'::S,fz,by simp,by simp [r2],by omega,by simp;omega,?_,rfl⟩⟩,(c2.mono (by simp)).trans ((Chg.put gr.wf (by simp only [Heap.push,Heap.put];omega) _).mono (G:=[b,b']) (by simp)) hw (Comes.refl _ _),?_,lowp _ _,hrd _ g1⟩
   ·simp only [appendCore]
    rw [if_neg (by omega),if_pos ⟨trivial,hl0,roomy1 hn⟩,r5]
    simp only
    rw [if_pos ⟨by simp,by simpa using r4⟩]
    simp [joinTy]
   ·rw [get_put,if_neg (by omega),get_push,if_pos (by rfl),List.map_append]
   ·intro c hc
    simp only [List.mem_cons,List.not_mem_nil,or_false] at hc
    rcases hc with rfl | rfl
    ·exact .inl (by simp)
    ·exact .inr (Nat.le_refl _)
section
variable {C:Cfg} (S:StdL C)
include S
theorem bcopy_ans (h:Heap) (hw:Wf h) (F:List Nat) (b:Nat) (l:List Nat) (d:Bld h F b l) :
  Ans C 88 [.ptr (some (b,0))] h fun v h'=>Bld h' F b l∧Chg [b] h h':=by
 have hF:C.F 88=some a88:=S.f rfl
 unfold a88 at hF
 refine Ans.loc S.hm (S.s _ _ _ rfl) hF rfl rfl hw (fun h2 g hsz hge=>?_) ?_
 rotate_left
 ·exact fun v h1 hg _ _=>⟨d,Chg.refl hw⟩
 have d2:=d.grow g
 obtain ⟨a,x,q1,q2,q3⟩:=d2
 refine WC.seqO ?_
 refine omv rfl<|onk rfl<|ofa rfl<|old rfl (rd_get q1 rfl) ?_
 rcases q2 with rfl | rfl
 ·refine oeq rfl rfl rfl ?_
  refine WO.nil (WC.condT rfl (WC.ops ?_))
  have hu:unsPA h2 (.ptr (some (b,0)))=true:=by simp only [unsPA,q1];rfl
  have ho:ofUnsA h2 97 2 (.ptr (some (b,0)))=true:=by simp only [ofUnsA,q1];rfl
  refine omv rfl<|omv rfl<|WO.ops (StepK.unsP rfl hu) ?_
  refine WO.call rfl rfl (Ans.sum (R:=fun v h'=>v=.ptr (some (b,0))∧h'=h2) (S.noesc h2 _) ⟨rfl,rfl⟩) ?_
  rintro v h3 ⟨rfl,rfl⟩
  refine WO.ops (StepK.ofUns rfl ho)<|onk rfl<|ofa rfl ?_
  refine WO.op (StepK.store rfl rfl rfl (wr_cell q1 (by simp) rfl)) ?_
  refine WO.nil ⟨trivial,_,rfl,fun n=>⟨?_,((Chg.put g.wf (Wf.lt g.wf q1) _).of_same hsz hge).low n⟩⟩
  refine ⟨some (b,0),x,?_,.inr rfl,?_⟩
  ·exact (get_put _ _ _ _).trans (if_pos rfl)
  ·rcases q3 with q | ⟨b',S,fz,r1,r2,r3,r4,r5,rfl⟩
   ·exact .inl q
   ·exact .inr ⟨b',S,fz,r1,r2,r3,r4,((get_put _ _ _ _).trans (if_neg r3)).trans r5,rfl⟩
 ·refine oeq rfl rfl rfl ?_
  refine WO.nil (WC.condF rfl (WC.seqO ?_))
  have he:eqA (.flat .ptr) (.ptr (some (b,0))) (.ptr (some (b,0)))=some true:=by simp [eqA,flatEq]
  refine omv rfl<|onk rfl<|ofa rfl<|old rfl (rd_get q1 rfl)<|omv rfl<|oeq rfl rfl he ?_
  refine WO.nil (WC.condF rfl (WC.skip ⟨trivial,_,rfl,fun n=>⟨⟨_,x,q1,.inr rfl,q3⟩,(g.low1 n).chg _⟩⟩))
theorem bwbyte_ans (h:Heap) (hw:Wf h) (F:List Nat) (b:Nat) (l:List Nat) (c:Nat) (d:Bld h F b l) (hn:l.length+1≤1000000000) :
  Ans C 91 [.ptr (some (b,0)),.int .u8 (.ofNat c)] h fun v h'=>∃ F',Bld h' F' b (l++[c])∧Chg F h h'∧Comes h F F':=by
 have hF:C.F 91=some a91:=S.f rfl
 unfold a91 at hF
 refine Ans.mut (S.s _ _ _ rfl) hF rfl rfl hw fun h2 g hsz hge=>?_
 have d2:=d.grow g
 refine WC.seqO ?_
 refine omv rfl ?_
 refine WO.nil (WC.seqO ?_)
 refine omv rfl ?_
 refine WO.call rfl rfl (bcopy_ans S h2 g.wf F b l d2) ?_
 rintro v h3 ⟨d3,c3⟩
 refine WO.nil (WC.seqO ?_)
 have cb:Chg F h2 h3:=c3.mono (by intro c hc;obtain rfl:=List.mem_singleton.1 hc;exact d3.mem)
 have gp:Grow h3 (h3.push (.cells [bv c] (.tip [] 0 (some 5)))):=(Grow.refl c3.wf).push _
 have q1:(h3.push (.cells [bv c] (.tip [] 0 (some 5)))).rds h3.size 0 1=some [bv c]:=rds_all (get_push_self _ _) rfl
 obtain ⟨x,v,h4,p1,p2,h5,F',p3,p4,p5,p6,p7,p8⟩:=bld_core gp.wf (d3.grow gp) (s:=[c]) hn
 obtain ⟨x0,p0⟩:∃ x0,h3.rd b 1=some x0:=by
  obtain ⟨a,x,q1,q2,q3⟩:=d3
  exact ⟨x,by rw [rd_cell q1];rfl⟩
 obtain rfl:x0=x:=Option.some.inj ((gp.rd p0).symm.trans p1)
 refine omv rfl<|omv rfl<|onk rfl<|ofa rfl<|old rfl p0<|omv rfl ?_
 refine WO.ops (StepK.buildSl rfl rfl) ?_
 change WO C _ _ (h3.push (.cells [bv c] (.tip [] 0 (some 5)))) _
 refine WO.ops (StepK.append (h':=h4) (v:=v) rfl rfl ?_) ?_
 ·simp only [appendA,slLen,slCells]
  rw [if_neg (by decide),q1]
  exact p2
 refine onk rfl<|ofa rfl ?_
 have hv1:v.cellsOf=[v]:=by
  unfold appendCore at p2
  repeat' split at p2
  all_goals first | (cases p2;rfl) | cases p2
 refine WO.op (StepK.store (n:=1) rfl rfl (by rw [hv1];rfl) (by rw [hv1];exact p3)) ?_
 refine WO.nil (WC.seqO ?_)
 have hs3:h2.size≤h3.size:=c3.size
 have hb:=d.lows hw b d.mem
 have gs:=gp.size
 refine omv rfl<|WO.nil (WC.ret ⟨trivial,_,rfl,by omega,fun n=>⟨F',p4.same (fun _ _=>rfl),(Chg.of_same (cb.trans (Chg.growl gp p5) g.wf (Comes.refl _ _)) hsz hge).low n,fun c hc=>?_⟩⟩)
 rcases p6 c hc with q | q
 ·exact .inl q
 ·exact .inr (by omega)
theorem bstr_ans (h:Heap) (hw:Wf h) (F:List Nat) (b:Nat) (l:List Nat) (d:Bld h F b l) (hb:Byt l) (hl:l.length≤1000000000) :
  Ans C 57 [.ptr (some (b,0))] h fun v h'=>v=.str l∧Bld h' F b l∧Chg F h h':=by
 have hF:C.F 57=some a57:=S.f rfl
 unfold a57 at hF
 refine Ans.loc S.hm (S.s _ _ _ rfl) hF rfl rfl hw (fun h2 g hsz hge=>?_) ?_
 rotate_left
 ·exact fun v h1 hg q _=>⟨q.1,d,Chg.refl hw⟩
 have d2:=d.grow g
 have hd2:=d2
 obtain ⟨a,x,q1,q2,q3⟩:=d2
 have lx:h2.rd b (0+1)=some x:=rd_get q1 rfl
 refine WC.seqO ?_
 refine omv rfl ?_
 refine WO.nil (WC.seqD ?_)
 rcases q3 with ⟨rfl,rfl,rfl⟩ | ⟨b',S,fz,rfl,r2,r3,r4,r5,rfl⟩
 ·refine dmv rfl<|dnk rfl<|dfa rfl ?_
  refine WD.load1 rfl lx ?_
  refine WD.pure (StepK.sliceData rfl rfl) rfl ?_
  refine dmv rfl<|dnk rfl<|dfa rfl ?_
  refine WD.load1 rfl lx ?_
  refine dls rfl rfl ?_
  refine WD.opC (v:=.str []) (h':=h2) (dd:=some 13) ⟨lx,lx,trivial⟩ rfl (StepK.unsStr rfl rfl rfl) ?_
  refine dmv rfl ?_
  refine WD.nil trivial (WC.ret ⟨trivial,_,rfl,fun n=>⟨rfl,hd2.same (fun _ _=>rfl),(g.low1 n).chg _⟩⟩)
 ·have hl0:l.length≠0:=by intro e;exact r2 (List.length_eq_zero_iff.1 e)
  have hsd:sliceDataA (.oslice b' 0 l.length l.length 1)=some (.ptr (some (b',0))):=by simp only [sliceDataA];rw [if_neg hl0]
  have hun:unsStrA h2 5 (.ptr (some (b',0))) (jv l.length)=some (.str l,h2.put b' (.cells (l.map bv) (.tip S (max fz l.length) (some 5)))):=by
   simp only [unsStrA]
   rw [if_neg (by omega),r5]
   simp only [Int.toNat_natCast]
   rw [if_pos ⟨by omega,by simp,trivial,trivial,by omega⟩]
   rw [List.take_of_length_le (by simp),u8s_bv l hb]
  refine dmv rfl<|dnk rfl<|dfa rfl ?_
  refine WD.load1 rfl lx ?_
  refine WD.pure (StepK.sliceData rfl hsd) rfl ?_
  refine dmv rfl<|dnk rfl<|dfa rfl ?_
  refine WD.load1 rfl lx ?_
  refine dls rfl rfl ?_
  refine WD.opC (dd:=some 13) ⟨lx,lx,trivial⟩ rfl (StepK.unsStr rfl rfl hun) ?_
  refine dmv rfl ?_
  have hch:Chg [b'] h2 (h2.put b' (.cells (l.map bv) (.tip S (max fz l.length) (some 5)))):=Chg.put g.wf (Wf.lt g.wf r5) _
  refine WD.nil trivial (WC.ret ⟨trivial,_,rfl,fun n=>⟨rfl,⟨a,_,?_,q2,.inr ⟨b',S,max fz l.length,rfl,r2,r3,by omega,?_,rfl⟩⟩,((hch.mono (by simp)).of_same hsz hge).low n⟩⟩)
  ·exact ((get_put _ _ _ _).trans (if_neg (fun e=>r3 e.symm))).trans q1
  ·exact (get_put _ _ _ _).trans (if_pos rfl)
end
end Abs
end Go.Proofs.YthgcjbniipfnbaaGreatDoor
namespace Go.Proofs.YthgcjbniipfnbaaGreatDoor
namespace Abs
set_option linter.unusedVariables false
set_option linter.unusedSimpArgs false
open Go.RowKit
attribute [local irreducible] WO WC WD StepK Ans Does Runs DoesD
theorem eqT {a b:Int} (h:a=b):binA .eql (jv a) (jv b)=some (.bool true):=by subst h;simp [binA,jv]
theorem eqF {a b:Int} (h:a≠b):binA .eql (jv a) (jv b)=some (.bool false):=by simp [binA,jv,h]
theorem ltT {a b:Int} (h:a<b):binA .lss (jv a) (jv b)=some (.bool true):=by simp [binA,jv,h]
theorem ltF {a b:Int} (h:¬ a<b):binA .lss (jv a) (jv b)=some (.bool false):=by simp [binA,jv,h]
theorem geT {a b:Int} (h:b≤a):binA .geq (jv a) (jv b)=some (.bool true):=by simp [binA,jv,h]
theorem geF {a b:Int} (h:¬ b≤a):binA .geq (jv a) (jv b)=some (.bool false):=by simp [binA,jv];omega
theorem gtT {a b:Int} (h:b<a):binA .gtr (jv a) (jv b)=some (.bool true):=by simp [binA,jv,h]
theorem gtF {a b:Int} (h:¬ b<a):binA .gtr (jv a) (jv b)=some (.bool false):=by simp [binA,jv];omega
theorem neT {a b:Int} (h:a≠b):binA .neq (jv a) (jv b)=some (.bool true):=by simp [binA,jv,h]
theorem neF {a b:Int} (h:a=b):binA .neq (jv a) (jv b)=some (.bool false):=by simp [binA,jv,h]
theorem seT {a b:List Nat} (h:a=b):binA .eql (.str a) (.str b)=some (.bool true):=by
 show some (V.bool (beqL a b))=_
 rw [(beqL_iff a b).2 h]
theorem seF {a b:List Nat} (h:a≠b):binA .eql (.str a) (.str b)=some (.bool false):=by
 show some (V.bool (beqL a b))=_
 cases hq:beqL a b with
 | false=>rfl
 | true=>exact absurd ((beqL_iff a b).1 hq) h
theorem at_strH {s:List Nat} {k:IntKind} {n:Int} (h0:0≤n) (h1:n.toNat<s.length):atStrA (.str s) (.int k n)=some (.int .u8 (Int.ofNat (s.getD n.toNat 0))):=by
 simp only [atStrA,intV]
 rw [if_pos h0,List.getElem?_eq_getElem h1,List.getD_eq_getElem?_getD,List.getElem?_eq_getElem h1]
 rfl
theorem Cl.setL {h:Heap} (hw:Wf h) {b:Nat} {cs:List V} (a:Cl h b cs) {i:Nat} (hi:i<cs.length) {v:V} (hv:V.one v=true) :
  ∃ h',h.wr b i [v]=some h'∧Cl h' b (cs.set i v)∧Chg [b] h h'∧h'.size=h.size∧h'.low≤b:=by
 obtain ⟨ty,q⟩:=a
 exact ⟨_,wr_cell q hi hv,⟨ty,by rw [get_put,if_pos rfl]⟩,Chg.put hw (Wf.lt hw q) _,rfl,Nat.min_le_right _ _⟩
/-! ### Hex -/
def hx (d:Nat):Nat:=[48,49,50,51,52,53,54,55,56,57,97,98,99,100,101,102].getD d 0
def hexF (s:List Nat):List Nat:=s.flatMap fun c=>[hx (c / 16),hx (c % 16)]
theorem hexF_app (s t:List Nat):hexF (s++t)=hexF s++hexF t:=by simp [hexF]
theorem hexF_one (c:Nat):hexF [c]=[hx (c / 16),hx (c % 16)]:=by simp [hexF]
theorem hexF_len:∀ s:List Nat,(hexF s).length=2*s.length
 | []=>rfl
 | c::s=>by
  have:=hexF_len s
  have e:hexF (c::s)=[hx (c / 16),hx (c % 16)]++hexF s:=by simp [hexF]
  rw [e];simp;omega
theorem hx_lt {d:Nat} (h:d<16):hx d<256:=by
 have:∀ x:_root_.Fin 16,hx x.val<256:=by decide
 exact this ⟨d,h⟩
theorem hexF_byt {s:List Nat} (hb:Byt s):Byt (hexF s):=by
 intro b hm
 obtain ⟨c,hc,hq⟩:=List.mem_flatMap.1 hm
 have h1:=hb c hc
 simp only [List.mem_cons,List.not_mem_nil,or_false] at hq
 rcases hq with rfl | rfl
 ·exact hx_lt (by omega)
 ·exact hx_lt (by omega)
section
variable {C:Cfg} (S:StdL C)
include S
theorem hex_ans (h:Heap) (hw:Wf h) (s:List Nat) (hs:s.length≤1000000) (hb:Byt s):Ans C 62 [.str s] h fun v h'=>v=.str (hexF s)∧Grow h h':=by
 have hF:C.F 62=some a62:=S.f rfl
 unfold a62 at hF
 refine Ans.val (fun _ _=>S.s _ _ _ rfl) hF rfl rfl hw fun h2 g=>?_
 clear hF
 refine WC.seqO<|omv rfl<|WO.nil<|WC.seqO<|WO.ops StepK.alloc ?_
 have d0:=Bld.new h2
 have g5:=g.push (.cells [.ptr none,.slice none 0 0] (.tip [] 0 (some 97)))
 change WO C _ _ (h2.push (.cells [.ptr none,.slice none 0 0] (.tip [] 0 (some 97)))) _
 have hs4:=g.size
 generalize h2.push (.cells [.ptr none,.slice none 0 0] (.tip [] 0 (some 97)))=h5 at *
 generalize h2.size=d at *
 refine WO.nil<|WC.seq<|WC.seqO<|omv rfl<|olt rfl<|omv rfl<|WO.nil<|WC.block ?_
 refine WC.loop (σ:=Nat) (fun j=>[(0,.str s),(3,.ptr (some (d,0))),(6,jv s.length),(7,jv j)]) (fun j h'=>j≤s.length∧Grow h h'∧∃ F,Bld h' F d (hexF (s.take j))∧∀ y∈F,h.size≤y) (fun j=>s.length-j) 0
  (Cov.cons rfl (Cov.cons rfl (Cov.cons rfl (Cov.cons rfl (Cov.nil _))))) ⟨Nat.zero_le _,g5,[d],d0,by simpa using hs4⟩ ?_
 rintro j h6 ⟨hj,g6,F,d6,hF⟩
 have hl6:(hexF (s.take j)).length=2*j:=by rw [hexF_len,List.length_take];omega
 refine WC.seqO ?_
 by_cases hlt:j<s.length
 ·refine obn rfl rfl (ltT (by omega))<|WO.nil<|WC.seq<|WC.cond rfl (fun hc=>WC.skip ?_) (fun hc=>by cases hc)
  have hbj:s.getD j 0<256:=by
   rw [List.getD_eq_getElem?_getD,List.getElem?_eq_getElem hlt]
   exact hb _ (List.getElem_mem hlt)
  have htk:s.take (j+1)=s.take j++[s.getD j 0]:=by
   rw [List.take_succ_eq_append_getElem hlt,List.getD_eq_getElem?_getD,List.getElem?_eq_getElem hlt];rfl
  have at1:atStrA (.str s) (jv j)=some (.int .u8 (Int.ofNat (s.getD j 0))):=at_strH (by omega) (by simpa using hlt)
  generalize s.getD j 0=c at *
  have e1:(Int.ofNat c).fdiv (2 ^ (min (4:Int).toNat IntKind.u8.bits))=((c / 16:Nat):Int):=by
   have:(2:Int) ^ (min (4:Int).toNat IntKind.u8.bits)=16:=rfl
   rw [this]
   show (c:Int).fdiv 16=_
   rw [Int.fdiv_eq_ediv_of_nonneg _ (by omega)];omega
  refine WC.seq<|WC.block<|WC.seqO<|omv rfl<|omv rfl<|WO.nil<|WC.seqO<|omv rfl<|omv rfl<|WO.ops (StepK.atStr rfl rfl at1) ?_
  refine obn rfl rfl (bin_shr (by decide)) ?_
  rw [e1]
  refine WO.ops (StepK.atStr rfl rfl (at_strH (by omega) (by simp;omega))) ?_
  refine WO.call rfl rfl (bwbyte_ans S h6 g6.wf F d _ (hx (c / 16)) d6 (by rw [hl6];omega)) ?_
  rintro v h7 ⟨F7,d7,c7,m7⟩
  have g7:=Chg.newGrow g6 c7 hw hF
  have hF7:∀ y∈F7,h.size≤y:=fun y hy=>by
   rcases m7 y hy with q | q
   ·exact hF y q
   ·have:=g6.size;omega
  have e2:binA .and (.int .u8 (Int.ofNat c)) (.int .u8 15)=some (.int .u8 ((c % 16:Nat):Int)):=by
   have:∀ x:_root_.Fin 256,IntKind.u8.wrap ((BitVec.ofInt IntKind.u8.bits (Int.ofNat x.val) &&& BitVec.ofInt IntKind.u8.bits 15).toNat)=((x.val % 16:Nat):Int):=by decide +kernel
   show some (V.int .u8 (IntKind.u8.wrap ((BitVec.ofInt IntKind.u8.bits (Int.ofNat c) &&& BitVec.ofInt IntKind.u8.bits 15).toNat)))=_
   rw [this ⟨c,hbj⟩]
  refine WO.nil<|WC.ops<|omv rfl<|omv rfl<|WO.ops (StepK.atStr rfl rfl at1)<|obn rfl rfl e2<|WO.ops (StepK.atStr rfl rfl (at_strH (by omega) (by simp;omega))) ?_
  refine WO.call rfl rfl (bwbyte_ans S h7 g7.wf F7 d _ (hx (c % 16)) d7 (by simp [hl6];omega)) ?_
  rintro v8 h8 ⟨F8,d8,c8,m8⟩
  have g8:=Chg.newGrow g7 c8 hw hF7
  have hF8:∀ y∈F8,h.size≤y:=fun y hy=>by
   rcases m8 y hy with q | q
   ·exact hF7 y q
   ·have:=g7.size;omega
  refine WO.nil<|WC.ops<|oad rfl rfl (by omega)<|omv rfl<|WO.nil ⟨j+1,Cov.cons rfl (Cov.cons rfl (Cov.cons rfl (Cov.cons rfl (Cov.nil _)))),⟨by omega,g8,F8,?_,hF8⟩,by omega⟩
  rw [htk,hexF_app,hexF_one]
  simpa using d8
 ·refine obn rfl rfl (ltF (by omega))<|WO.nil<|WC.seq<|WC.cond rfl (fun hc=>by cases hc) (fun hc=>WC.exit<|WC.seqO ?_)
  rw [List.take_of_length_le (by omega)] at d6
  refine WO.call rfl rfl (bstr_ans S h6 g6.wf F d _ d6 (hexF_byt hb) (by rw [hexF_len];omega)) ?_
  rintro v h7 ⟨rfl,d7,c7⟩
  exact omv rfl<|WO.nil<|WC.ret ⟨trivial,Chg.newGrow g6 c7 hw hF,rfl⟩
end
end Abs
end Go.Proofs.YthgcjbniipfnbaaGreatDoor
namespace Go.Proofs.YthgcjbniipfnbaaGreatDoor
namespace Abs
set_option linter.unusedVariables false
set_option linter.unusedSimpArgs false
open Go.RowKit
attribute [local irreducible] WO WC WD StepK Ans Does Runs DoesD
theorem StepK.isN {e:List (Nat × V)} {h:Heap} {x:Opd} {n:Bool} (hx:evE e x=some .nilIface):StepK e h (.isNil n x) (.bool (!n)) h:=by unfold StepK;intro tm hs;simp only [opK,hs.ev hx]
theorem StepK.isI {e:List (Nat × V)} {h:Heap} {x:Opd} {n:Bool} {t:Nat} {v:V} (hx:evE e x=some (.iface t v)):StepK e h (.isNil n x) (.bool n) h:=by unfold StepK;intro tm hs;simp only [opK,hs.ev hx]
theorem snT {a b:List Nat} (h:a≠b):binA .neq (.str a) (.str b)=some (.bool true):=by
 show some (V.bool (!beqL a b))=_
 cases hq:beqL a b with
 | false=>rfl
 | true=>exact absurd ((beqL_iff a b).1 hq) h
theorem snF {a b:List Nat} (h:a=b):binA .neq (.str a) (.str b)=some (.bool false):=by
 show some (V.bool (!beqL a b))=_
 rw [(beqL_iff a b).2 h];rfl
structure Lin (h:Heap) (b W:Nat) (all:List (List Nat)) (i:Nat) (bad:Bool):Prop where
 l:Cl h b [.oslice W i (all.length-i) (all.length-i) 1,.bool bad]
 w:h.get W=some (.cells (all.map V.str) (.tip [] 0 none))
 n:W≠b
 le:i≤all.length
theorem Lin.chg {h h':Heap} {b W:Nat} {all:List (List Nat)} {i:Nat} {bad:Bool} {F:List Nat} (a:Lin h b W all i bad) (c:Chg F h h') (h1:b∉F) (h2:W∉F):Lin h' b W all i bad:=⟨a.l.chg c h1,c.keep _ _ h2 a.w,a.n,a.le⟩
theorem Lin.grow {h h':Heap} {b W:Nat} {all:List (List Nat)} {i:Nat} {bad:Bool} (a:Lin h b W all i bad) (g:Grow h h'):Lin h' b W all i bad:=⟨a.l.grow g,g.ext _ _ a.w,a.n,a.le⟩
theorem Lin.lt {h:Heap} {b W:Nat} {all:List (List Nat)} {i:Nat} {bad:Bool} (a:Lin h b W all i bad) (hw:Wf h):b<h.size∧W<h.size:=⟨a.l.lt hw,Wf.lt hw a.w⟩
def wdOk (all:List (List Nat)) (i:Nat):Bool:=decide (i<all.length) && decide (all.getD i []≠[])
def wdV (all:List (List Nat)) (i:Nat):List Nat:=all.getD i []
def wdI (all:List (List Nat)) (i:Nat):Nat:=if wdOk all i then i+1 else i
def wdT (all:List (List Nat)) (i:Nat):List Nat:=if wdOk all i then wdV all i else []
theorem wd_get {h:Heap} {W:Nat} {all:List (List Nat)} (hg:h.get W=some (.cells (all.map V.str) (.tip [] 0 none))) {i:Nat} (hi:i<all.length):h.rd W i=some (.str (all.getD i [])):=by
 rw [rd_cell hg,List.getElem?_map,List.getElem?_eq_getElem hi,List.getD_eq_getElem?_getD,List.getElem?_eq_getElem hi];rfl
theorem Lin.back {h h1:Heap} {b W:Nat} {all:List (List Nat)} {i:Nat} {bad:Bool} (a:Lin h1 b W all i bad) (hg:∀ c,c<h.size→h1.get c=h.get c) (hb:b<h.size) (hW:W<h.size):Lin h b W all i bad:=⟨a.l.of_get (hg b hb),by rw [←hg W hW];exact a.w,a.n,a.le⟩
def AllOk (all:List (List Nat)):Prop:=∀ w∈all,Byt w∧w.length≤1000000
theorem wdT_ok {all:List (List Nat)} (ok:AllOk all) (i:Nat):Byt (wdT all i)∧(wdT all i).length≤1000000:=by
 unfold wdT
 split
 ·rename_i hq
  unfold wdOk at hq
  rw [Bool.and_eq_true] at hq
  have h1:=of_decide_eq_true hq.1
  unfold wdV
  rw [List.getD_eq_getElem?_getD,List.getElem?_eq_getElem h1]
  exact ok _ (List.getElem_mem h1)
 ·exact ⟨Byt.nil,by simp⟩
def numG (w:List Nat):Option Int:=match Lib.atoiAll (u8 w) with
 | .ok v=>if 0≤v∧itoaF v=w∧w.length≤9 then some v else none
 | _=>none
section
variable {C:Cfg} (S:StdL C)
include S
theorem word_ans (h:Heap) (hw:Wf h) (b W:Nat) (all:List (List Nat)) (i:Nat) (bad:Bool) (a:Lin h b W all i bad) :
  Ans C 38 [.ptr (some (b,0))] h fun v h'=>v=.str (wdT all i)∧Lin h' b W all (wdI all i) (bad || !wdOk all i)∧Chg [b] h h':=by
 have hF:C.F 38=some a38:=S.f rfl
 unfold a38 at hF
 refine Ans.mut (S.s _ _ _ rfl) hF rfl rfl hw fun h2 g hsz hge=>?_
 clear hF
 have a2:=a.grow g
 have hb:=(a.lt hw).1
 have le:=a.le
 have r0:h2.rd b (0+0)=some (.oslice W i (all.length-i) (all.length-i) 1):=a2.l.rd rfl
 obtain ⟨h3,w3,c3,ch3,s3,l3⟩:=a2.l.setL g.wf (i:=1) (v:=.bool true) (by simp) rfl
 have fin:wdOk all i=false→∀ n,V.str []=.str (wdT all i)∧Lin { h3 with low:=n } b W all (wdI all i) (bad || !wdOk all i)∧Chg [b] h { h3 with low:=n }:=by
  intro hq n
  refine ⟨by unfold wdT;rw [hq];rfl,?_,(ch3.of_same hsz hge).low n⟩
  have:wdI all i=i:=by unfold wdI;rw [hq];rfl
  rw [this,hq,Bool.not_false,Bool.or_true]
  exact ⟨c3,ch3.keep _ _ (by simpa using a.n) a2.w,a.n,a.le⟩
 refine WC.seqO<|omv rfl<|WO.nil<|WC.seq<|WC.seqO<|omv rfl<|onk rfl<|ofa rfl<|old rfl r0<|ols rfl rfl ?_
 by_cases h0:i<all.length
 ·refine obn rfl rfl (eqF (by omega))<|omv rfl<|WO.run rfl<|omv rfl<|WO.run rfl<|onk rfl<|WO.run rfl<|ofa rfl<|WO.run rfl<|old rfl r0<|WO.run rfl ?_
  have ix:idxSlA 1 (.oslice W i (all.length-i) (all.length-i) 1) (jv 0)=some (.ptr (some (W,i))):=by
   simp only [idxSlA,intV];rw [if_pos ⟨by omega,by omega⟩];simp
  refine WO.ops (StepK.idxSl rfl rfl ix)<|WO.run rfl<|old rfl (wd_get a2.w h0)<|WO.run rfl ?_
  by_cases h1:all.getD i []=[]
  ·have hq:wdOk all i=false:=by unfold wdOk;rw [h1];simp
   refine obn rfl rfl (seT h1)<|opf rfl rfl<|WO.nil<|WC.cond rfl (fun hc=>?_) (fun hc=>by cases hc)
   exact WC.seqO<|omv rfl<|onk rfl<|ofa rfl<|WO.op (StepK.store rfl rfl rfl w3)<|WO.nil<|WC.seqO<|omv rfl<|WO.nil<|WC.ret ⟨trivial,_,rfl,by omega,fin hq⟩
  ·have hq:wdOk all i=true:=by unfold wdOk;rw [decide_eq_true h0,decide_eq_true h1];rfl
   refine obn rfl rfl (seF h1)<|opf rfl rfl<|WO.nil<|WC.cond rfl (fun hc=>by cases hc) (fun hc=>WC.skip ?_)
   have sl:sliceSlA 1 (.oslice W i (all.length-i) (all.length-i) 1) (some (jv 1)) none none=some (.oslice W (i+1) (all.length-(i+1)) (all.length-(i+1)) 1):=by
    simp only [sliceSlA,boundsA,intV]
    rw [if_pos (.inl trivial),if_pos ⟨by omega,by omega⟩]
    simp only [Int.toNat_one,Nat.one_mul]
    rw [Nat.sub_sub]
   obtain ⟨h4,w4,c4,ch4,s4,l4⟩:=a2.l.setL g.wf (i:=0) (v:=.oslice W (i+1) (all.length-(i+1)) (all.length-(i+1)) 1) (by simp) rfl
   refine WC.seqO<|omv rfl<|onk rfl<|ofa rfl<|old rfl r0<|WO.ops (StepK.idxSl rfl rfl ix)<|old rfl (wd_get a2.w h0)<|omv rfl<|WO.nil<|WC.seqO<|omv rfl<|omv rfl<|onk rfl<|ofa rfl<|old rfl r0<|WO.ops (StepK.sliceSl rfl rfl rfl rfl sl)<|onk rfl<|ofa rfl<|WO.op (StepK.store rfl rfl rfl w4)<|WO.nil<|WC.seqO<|omv rfl<|omv rfl<|WO.nil<|WC.ret ⟨trivial,_,rfl,by omega,fun n=>⟨?_,?_,(ch4.of_same hsz hge).low n⟩⟩
   ·unfold wdT wdV;rw [hq];rfl
   ·have:wdI all i=i+1:=by unfold wdI;rw [hq];rfl
    rw [this,hq,Bool.not_true,Bool.or_false]
    exact ⟨c4,ch4.keep _ _ (by simpa using a.n) a2.w,a.n,by omega⟩
 ·have hq:wdOk all i=false:=by unfold wdOk;simp [h0]
  refine obn rfl rfl (eqT (by omega))<|omv rfl ?_
  (repeat (first | refine omv rfl ?_ | refine ols rfl (by first | with_reducible assumption | rfl) ?_ | refine ofa rfl ?_ | refine oad rfl rfl (by omega) ?_ | refine osb rfl rfl (by omega) ?_ | refine obn rfl rfl rfl ?_ | refine opt rfl rfl ?_ | refine opf rfl rfl ?_ | refine ont rfl ?_ | refine oeq rfl rfl rfl ?_ | refine oex rfl rfl ?_ | refine obu rfl rfl ?_ | refine ofd rfl rfl ?_ | refine olt rfl ?_ | refine onk rfl ?_ | refine old rfl (by first | with_reducible assumption | rfl) ?_ | refine WO.run rfl ?_ | refine WO.skip rfl rfl ?_ | refine WO.skipu rfl ?_))
  refine WO.nil<|WC.cond rfl (fun hc=>?_) (fun hc=>by cases hc)
  exact WC.seqO<|omv rfl<|onk rfl<|ofa rfl<|WO.op (StepK.store rfl rfl rfl w3)<|WO.nil<|WC.seqO<|omv rfl<|WO.nil<|WC.ret ⟨trivial,_,rfl,by omega,fin hq⟩
theorem number_ans (h:Heap) (hw:Wf h) (b W:Nat) (all:List (List Nat)) (i:Nat) (bad:Bool) (a:Lin h b W all i bad) (ok:AllOk all) :
  Ans C 47 [.ptr (some (b,0))] h fun v h'=>v=jv ((numG (wdT all i)).getD 0)∧Lin h' b W all (wdI all i) ((bad || !wdOk all i) || (numG (wdT all i)).isNone)∧Chg [b] h h':=by
 have hF:C.F 47=some a47:=S.f rfl
 unfold a47 at hF
 have hl:=a.lt hw
 refine Ans.loc S.hm (S.s _ _ _ rfl) hF rfl rfl hw (fun h2 g hsz hge=>?_) ?_
 rotate_left
 ·exact fun v h1 hg q _=>⟨q.1,q.2.1.back hg hl.1 hl.2,Chg.refl hw⟩
 clear hF
 have a2:=a.grow g
 obtain ⟨hb,hln⟩:=wdT_ok ok i
 refine WC.seqO<|omv rfl<|WO.nil<|WC.seqO<|omv rfl ?_
 refine WO.call rfl rfl (word_ans S h2 g.wf b W all i bad a2) ?_
 rintro _ h3 ⟨rfl,a3,c3⟩
 generalize wdT all i=w at *
 generalize wdI all i=j at *
 generalize (bad || !wdOk all i)=bd at *
 refine omv rfl<|WO.nil<|WC.seqO<|omv rfl ?_
 refine WO.call rfl rfl (Ans.sum (R:=fun v h'=>(v,h')=atoiSum w h3) (S.atoi h3 w hln hb) rfl) ?_
 intro v h4 hv
 have bad1:∀ h4,Grow h3 h4→∃ h5,h4.wr b 1 [.bool true]=some h5∧Lin h5 b W all j true∧Chg [b] h2 h5:=by
  intro h4 g4
  have a4:=a3.grow g4
  obtain ⟨h5,w5,c5,ch5,s5⟩:=a4.l.set g4.wf (i:=1) (v:=.bool true) (by simp) rfl
  exact ⟨h5,w5,⟨c5,ch5.keep _ _ (by simpa using a4.n) a4.w,a4.n,a4.le⟩,(c3.growr g4).trans ch5 g.wf (Comes.refl _ _)⟩
 unfold atoiSum at hv
 have fin:∀ h5 n,Lin h5 b W all j true→Chg [b] h2 h5→numG w=none→V.int .i64 0=jv ((numG w).getD 0)∧Lin { h5 with low:=n } b W all j (bd || (numG w).isNone)∧Chg [b] h { h5 with low:=n }:=by
  intro h5 n a5 c5 e
  rw [e]
  refine ⟨rfl,?_,(c5.of_same hsz hge).low n⟩
  rw [show (bd || (none:Option Int).isNone)=true by simp]
  exact ⟨a5.l,a5.w,a5.n,a5.le⟩
 rcases hq:Lib.atoiAll (u8 w) with n | _ | _
 ·rw [hq] at hv
  cases hv
  have hbd:=Lib.atoiAll_bounds hq
  have e0:numG w=if 0≤n∧itoaF n=w∧w.length≤9 then some n else none:=by unfold numG;rw [hq]
  refine omv rfl<|oex rfl rfl<|oex rfl rfl<|omv rfl<|omv rfl<|WO.nil<|WC.seq<|WC.seqO<|omv rfl<|WO.ops (StepK.isN rfl)<|omv rfl<|WO.run rfl<|omv rfl<|WO.run rfl ?_
  obtain ⟨h5,w5,a5,c5⟩:=bad1 h3 (Grow.refl c3.wf)
  by_cases h0:n<0
  ·refine obn rfl rfl (ltT h0) ?_
   (repeat (first | refine omv rfl ?_ | refine ols rfl (by first | with_reducible assumption | rfl) ?_ | refine ofa rfl ?_ | refine oad rfl rfl (by omega) ?_ | refine osb rfl rfl (by omega) ?_ | refine obn rfl rfl rfl ?_ | refine opt rfl rfl ?_ | refine opf rfl rfl ?_ | refine ont rfl ?_ | refine oeq rfl rfl rfl ?_ | refine oex rfl rfl ?_ | refine obu rfl rfl ?_ | refine ofd rfl rfl ?_ | refine olt rfl ?_ | refine onk rfl ?_ | refine old rfl (by first | with_reducible assumption | rfl) ?_ | refine WO.run rfl ?_ | refine WO.skip rfl rfl ?_ | refine WO.skipu rfl ?_))
   refine WO.nil<|WC.cond rfl (fun hc=>?_) (fun hc=>by cases hc)
   exact WC.seqO<|omv rfl<|onk rfl<|ofa rfl<|WO.op (StepK.store rfl rfl rfl w5)<|WO.nil<|WC.seqO<|omv rfl<|WO.nil<|WC.ret ⟨trivial,_,rfl,fun n=>fin h5 n a5 c5 (by rw [e0,if_neg (fun q=>by omega)])⟩
  ·refine obn rfl rfl (ltF h0)<|opf rfl rfl<|omv rfl<|WO.run rfl<|omv rfl<|WO.run rfl ?_
   refine WO.call rfl rfl (Ans.sum (R:=fun v h'=>v=.str (itoaF n)∧h'=h3) (S.itoa h3 n hbd.1 hbd.2) ⟨rfl,rfl⟩) ?_
   rintro _ _ ⟨rfl,rfl⟩
   refine WO.run rfl<|omv rfl<|WO.run rfl ?_
   by_cases h1:itoaF n=w
   ·refine obn rfl rfl (snF h1)<|opf rfl rfl<|omv rfl<|WO.run rfl<|omv rfl<|WO.run rfl<|olt rfl<|WO.run rfl ?_
    by_cases h9:(9:Int)<w.length
    ·refine obn rfl rfl (gtT h9)<|opf rfl rfl<|WO.nil<|WC.cond rfl (fun hc=>?_) (fun hc=>by cases hc)
     exact WC.seqO<|omv rfl<|onk rfl<|ofa rfl<|WO.op (StepK.store rfl rfl rfl w5)<|WO.nil<|WC.seqO<|omv rfl<|WO.nil<|WC.ret ⟨trivial,_,rfl,fun n=>fin h5 n a5 c5 (by rw [e0,if_neg (fun q=>by omega)])⟩
    ·refine obn rfl rfl (gtF h9)<|opf rfl rfl<|WO.nil<|WC.cond rfl (fun hc=>by cases hc) (fun hc=>WC.skip<|WC.seqO<|omv rfl<|omv rfl<|WO.nil<|WC.ret ⟨trivial,_,rfl,fun m=>?_⟩)
     rw [e0,if_pos ⟨by omega,h1,by omega⟩]
     refine ⟨rfl,?_,(c3.of_same hsz hge).low m⟩
     rw [show (bd || (some n).isNone)=bd by simp]
     exact ⟨a3.l,a3.w,a3.n,a3.le⟩
   ·refine obn rfl rfl (snT h1) ?_
    (repeat (first | refine omv rfl ?_ | refine ols rfl (by first | with_reducible assumption | rfl) ?_ | refine ofa rfl ?_ | refine oad rfl rfl (by omega) ?_ | refine osb rfl rfl (by omega) ?_ | refine obn rfl rfl rfl ?_ | refine opt rfl rfl ?_ | refine opf rfl rfl ?_ | refine ont rfl ?_ | refine oeq rfl rfl rfl ?_ | refine oex rfl rfl ?_ | refine obu rfl rfl ?_ | refine ofd rfl rfl ?_ | refine olt rfl ?_ | refine onk rfl ?_ | refine old rfl (by first | with_reducible assumption | rfl) ?_ | refine WO.run rfl ?_ | refine WO.skip rfl rfl ?_ | refine WO.skipu rfl ?_))
    refine WO.nil<|WC.cond rfl (fun hc=>?_) (fun hc=>by cases hc)
    exact WC.seqO<|omv rfl<|onk rfl<|ofa rfl<|WO.op (StepK.store rfl rfl rfl w5)<|WO.nil<|WC.seqO<|omv rfl<|WO.nil<|WC.ret ⟨trivial,_,rfl,fun n=>fin h5 n a5 c5 (by rw [e0,if_neg (fun q=>h1 q.2.1)])⟩
 all_goals
  rw [hq] at hv
  cases hv
  have e0:numG w=none:=by unfold numG;rw [hq]
  obtain ⟨h5,w5,a5,c5⟩:=bad1 (h3.push .dead) ((Grow.refl c3.wf).push _)
  refine omv rfl<|oex rfl rfl<|oex rfl rfl<|omv rfl<|omv rfl<|WO.nil<|WC.seq<|WC.seqO<|omv rfl<|WO.ops (StepK.isI rfl)<|omv rfl ?_
  (repeat (first | refine omv rfl ?_ | refine ols rfl (by first | with_reducible assumption | rfl) ?_ | refine ofa rfl ?_ | refine oad rfl rfl (by omega) ?_ | refine osb rfl rfl (by omega) ?_ | refine obn rfl rfl rfl ?_ | refine opt rfl rfl ?_ | refine opf rfl rfl ?_ | refine ont rfl ?_ | refine oeq rfl rfl rfl ?_ | refine oex rfl rfl ?_ | refine obu rfl rfl ?_ | refine ofd rfl rfl ?_ | refine olt rfl ?_ | refine onk rfl ?_ | refine old rfl (by first | with_reducible assumption | rfl) ?_ | refine WO.run rfl ?_ | refine WO.skip rfl rfl ?_ | refine WO.skipu rfl ?_))
  refine WO.nil<|WC.cond rfl (fun hc=>?_) (fun hc=>by cases hc)
  exact WC.seqO<|omv rfl<|onk rfl<|ofa rfl<|WO.op (StepK.store rfl rfl rfl w5)<|WO.nil<|WC.seqO<|omv rfl<|WO.nil<|WC.ret ⟨trivial,_,rfl,fun n=>fin h5 n a5 c5 e0⟩
end
end Abs
end Go.Proofs.YthgcjbniipfnbaaGreatDoor
namespace Go.Proofs.YthgcjbniipfnbaaGreatDoor
namespace Abs
set_option linter.unusedVariables false
set_option linter.unusedSimpArgs false
open Go.RowKit
attribute [local irreducible] WO WC WD StepK Ans Does Runs DoesD
def nmL:List (List Nat):=[[99,114,101,97,116,101],[109,107,100,105,114],[108,105,110,107],[117,110,108,105,110,107],[114,109,100,105,114],[114,101,110,97,109,101],[114,101,97,100],[119,114,105,116,101],[116,114,117,110,99,97,116,101],[115,116,97,116],[108,105,115,116]]
def thL:List (List Nat):=[[],[115,121,110,99],[115,110,97,112],[114,111,108,108,98,97,99,107],[100,101,115,116,114,111,121],[115,101,101],[99,114,97,115,104],[115,116,101,112],[115,99,114,117,98],[115,112,111,105,108],[108,111,115,101],[102,114,101,101],[115,110,97,112,115],[112,97,116,104,115]]
def plL:List (List Nat):=[[],[115,121,110,99],[],[],[],[],[99,114,97,115,104],[],[115,99,114,117,98],[],[],[102,114,101,101],[115,110,97,112,115],[112,97,116,104,115]]
def idxF (w:List Nat):List (List Nat)→Nat→Int
 | [],_=>-1
 | t::r,k=>if w=t then k else idxF w r (k+1)
theorem kgeT {k:IntKind} {a b:Int} (h:b≤a):binA .geq (.int k a) (.int k b)=some (.bool true):=by simp [binA,h]
theorem kgeF {k:IntKind} {a b:Int} (h:¬ b≤a):binA .geq (.int k a) (.int k b)=some (.bool false):=by simp [binA];omega
theorem kleT {k:IntKind} {a b:Int} (h:a≤b):binA .leq (.int k a) (.int k b)=some (.bool true):=by simp [binA,h]
theorem kleF {k:IntKind} {a b:Int} (h:¬ a≤b):binA .leq (.int k a) (.int k b)=some (.bool false):=by simp [binA];omega
theorem kltF {k:IntKind} {a b:Int} (h:¬ a<b):binA .lss (.int k a) (.int k b)=some (.bool false):=by simp [binA,h]
theorem kgtT {k:IntKind} {a b:Int} (h:b<a):binA .gtr (.int k a) (.int k b)=some (.bool true):=by simp [binA,h]
theorem kgtF {k:IntKind} {a b:Int} (h:¬ b<a):binA .gtr (.int k a) (.int k b)=some (.bool false):=by simp [binA];omega
theorem keqT {k:IntKind} {a b:Int} (h:a=b):binA .eql (.int k a) (.int k b)=some (.bool true):=by simp [binA,h]
theorem keqF {k:IntKind} {a b:Int} (h:a≠b):binA .eql (.int k a) (.int k b)=some (.bool false):=by simp [binA,h]
theorem wrapU {n:Int} (h1:0≤n) (h2:n<18446744073709551616):IntKind.u64.wrap n=n:=by
 have hd:IntKind.u64.wrap n=n % 18446744073709551616:=by simp [IntKind.wrap,IntKind.signed,IntKind.bits]
 omega
theorem idxF_cons (w t:List Nat) (r:List (List Nat)) (k:Nat):idxF w (t::r) k=if w=t then (k:Int) else idxF w r (k+1):=rfl
section
variable {C:Cfg} (S:StdL C)
include S
theorem sindex_ans (h:Heap) (hw:Wf h) (x:V) (ts:List (List Nat)) (w:List Nat) (sx:Sl h 1 x (strs ts)) (hn:ts.length≤1000000):Ans C 83 [x,.str w] h fun v h'=>v=jv (idxF w ts 0)∧Grow h h':=by
 have hF:C.F 83=some a83:=S.f rfl
 unfold a83 at hF
 refine Ans.val (fun _ _=>S.s _ _ _ rfl) hF rfl rfl hw fun h2 g=>?_
 clear hF
 have s2:=sx.grow g
 have hlen:slLen x=some ts.length:=by have:=s2.len;simpa using this
 refine WC.seqO<|omv rfl<|WO.nil<|WC.seq<|WC.seqO<|omv rfl<|ols rfl hlen<|omv rfl<|WO.nil<|WC.block ?_
 refine WC.loop (σ:=Nat) (fun j=>[(0,x),(1,.str w),(7,jv ts.length),(8,jv j)]) (fun j h'=>j≤ts.length∧h'=h2∧idxF w ts 0=idxF w (ts.drop j) j) (fun j=>ts.length-j) 0
  (Cov.cons rfl (Cov.cons rfl (Cov.cons rfl (Cov.cons rfl (Cov.nil _))))) ⟨Nat.zero_le _,rfl,rfl⟩ ?_
 rintro j _ ⟨hj,rfl,hI⟩
 refine WC.seqO ?_
 by_cases hlt:j<ts.length
 ·refine obn rfl rfl (ltT (by omega))<|WO.nil<|WC.seq<|WC.cond rfl (fun hc=>WC.skip ?_) (fun hc=>by cases hc)
  obtain ⟨c,o,k1,k2⟩:=s2.at (i:=j) (by simpa using hlt)
  rw [List.getElem_map] at k2
  have k3:Heap.rd _ c o=some (.str ts[j]):=rds_rd k2 (j:=0) rfl
  rw [List.drop_eq_getElem_cons hlt] at hI
  rw [idxF_cons] at hI
  generalize ts[j]=t at *
  refine WC.seq<|WC.block<|WC.seqO<|omv rfl<|omv rfl<|WO.nil<|WC.seqO<|omv rfl<|omv rfl<|omv rfl<|WO.ops (StepK.idxSl rfl rfl k1)<|old rfl k3 ?_
  by_cases he:w=t
  ·rw [if_pos he] at hI
   exact obn rfl rfl (seT he)<|WO.nil<|WC.cond rfl (fun hc=>WC.seqO<|omv rfl<|omv rfl<|WO.nil<|WC.ret ⟨trivial,g,by rw [hI];rfl⟩) (fun hc=>by cases hc)
  ·rw [if_neg he] at hI
   exact obn rfl rfl (seF he)<|WO.nil<|WC.cond rfl (fun hc=>by cases hc) (fun hc=>WC.skip<|WC.ops<|oad rfl rfl (by omega)<|omv rfl<|WO.nil ⟨j+1,Cov.cons rfl (Cov.cons rfl (Cov.cons rfl (Cov.cons rfl (Cov.nil _)))),⟨hlt,rfl,hI⟩,by omega⟩)
 ·rw [List.drop_eq_nil_of_le (by omega)] at hI
  exact obn rfl rfl (ltF (by omega))<|WO.nil<|WC.seq<|WC.cond rfl (fun hc=>by cases hc) (fun hc=>WC.exit<|WC.seqO<|omv rfl<|WO.nil<|WC.ret ⟨trivial,g,by rw [hI];rfl⟩)
def fndF (ts:List (List Nat)) (w:List Nat):Int:=if w=[] then -1 else idxF w ts 0
theorem find_ans (h:Heap) (hw:Wf h) (x:V) (ts:List (List Nat)) (w:List Nat) (sx:Sl h 1 x (strs ts)) (hn:ts.length≤1000000):Ans C 41 [x,.str w] h fun v h'=>v=jv (fndF ts w)∧Grow h h':=by
 have hF:C.F 41=some a41:=S.f rfl
 unfold a41 at hF
 refine Ans.val (fun _ _=>S.s _ _ _ rfl) hF rfl rfl hw fun h2 g=>?_
 clear hF
 unfold fndF
 refine WC.seqO<|omv rfl<|WO.nil<|WC.seq<|WC.seqO<|omv rfl ?_
 by_cases h0:w=[]
 ·rw [if_pos h0]
  exact obn rfl rfl (seT h0)<|WO.nil<|WC.cond rfl (fun hc=>WC.seqO<|omv rfl<|WO.nil<|WC.ret ⟨trivial,g,rfl⟩) (fun hc=>by cases hc)
 ·rw [if_neg h0]
  refine obn rfl rfl (seF h0)<|WO.nil<|WC.cond rfl (fun hc=>by cases hc) (fun hc=>WC.skip<|WC.seqO<|omv rfl<|omv rfl ?_)
  refine WO.call rfl rfl (sindex_ans S h2 g.wf x ts w (sx.grow g) hn) ?_
  rintro _ h3 ⟨rfl,g3⟩
  exact omv rfl<|WO.nil<|WC.ret ⟨trivial,g.trans g3,rfl⟩
theorem names_ans (h:Heap) (hw:Wf h):Ans C 39 [] h fun v h'=>v=.agg (nmL.map V.str)∧Grow h h':=by
 have hF:C.F 39=some a39:=S.f rfl
 unfold a39 at hF
 refine Ans.val (fun _ _=>S.s _ _ _ rfl) hF rfl rfl hw fun h2 g=>?_
 clear hF
 refine WC.seqO<|WO.ops StepK.alloc<|WO.nil<|WC.seqO<|obu rfl rfl ?_
 have c3:=Cl.new h2 (List.replicate 11 (.str [])) none
 have g3:=g.push (.cells (List.replicate 11 (.str [])) (.tip [] 0 none))
 change WO C _ _ (h2.push (.cells (List.replicate 11 (.str [])) (.tip [] 0 none))) _
 have:=g.size
 generalize h2.push (.cells (List.replicate 11 (.str [])) (.tip [] 0 none))=h3 at *
 generalize h2.size=p at *
 obtain ⟨h4,w4,c4,ch4,s4⟩:=c3.sets g3.wf (i:=0) (us:=nmL.map V.str) (by decide) (by decide)
 refine WO.op (StepK.store (v:=.agg (nmL.map V.str)) rfl rfl rfl w4)<|WO.nil<|WC.ret ⟨trivial,ch4.newGrow g3 hw (by simpa using this),retE_cells rfl (Cl.rds c4 rfl)⟩
theorem things_ans (h:Heap) (hw:Wf h):Ans C 40 [] h fun v h'=>v=.agg (thL.map V.str)∧Grow h h':=by
 have hF:C.F 40=some a40:=S.f rfl
 unfold a40 at hF
 refine Ans.val (fun _ _=>S.s _ _ _ rfl) hF rfl rfl hw fun h2 g=>?_
 clear hF
 refine WC.seqO<|WO.ops StepK.alloc<|WO.nil<|WC.seqO<|obu rfl rfl ?_
 have c3:=Cl.new h2 (List.replicate 14 (.str [])) none
 have g3:=g.push (.cells (List.replicate 14 (.str [])) (.tip [] 0 none))
 change WO C _ _ (h2.push (.cells (List.replicate 14 (.str [])) (.tip [] 0 none))) _
 have:=g.size
 generalize h2.push (.cells (List.replicate 14 (.str [])) (.tip [] 0 none))=h3 at *
 generalize h2.size=p at *
 obtain ⟨h4,w4,c4,ch4,s4⟩:=c3.sets g3.wf (i:=0) (us:=thL.map V.str) (by decide) (by decide)
 refine WO.op (StepK.store (v:=.agg (thL.map V.str)) rfl rfl rfl w4)<|WO.nil<|WC.ret ⟨trivial,ch4.newGrow g3 hw (by simpa using this),retE_cells rfl (Cl.rds c4 rfl)⟩
end
end Abs
end Go.Proofs.YthgcjbniipfnbaaGreatDoor
namespace Go.Proofs.YthgcjbniipfnbaaGreatDoor
namespace Abs
set_option linter.unusedVariables false
set_option linter.unusedSimpArgs false
open Go.RowKit
attribute [local irreducible] WO WC WD StepK Ans Does Runs DoesD
theorem StepK.mkI {e:List (Nat × V)} {h:Heap} {x:Opd} {t:Nat} {v:V} (hx:evE e x=some v):StepK e h (.mkIface t x) (.iface t v) h:=by unfold StepK;intro tm hs;simp only [opK,hs.ev hx]
theorem WC.seqV {C:Cfg} {a b:AC} {e:List (Nat × V)} {h:Heap} {Q:Ex→List (Nat × V)→Heap→Prop} {M:List (Nat × V)→Heap→Prop}
  (hx:WC C a e h (fun x e' h'=>match x with | .normal=>M e' h' | x=>Q x e' h')) (hm:∀ e' h',M e' h'→WC C b e' h' Q):WC C (.seq a b) e h Q :=
 WC.seq (hx.mono fun x e' h' q=>by
  cases x with
  | normal=>exact hm e' h' q
  | exit id=>exact q
  | ret=>exact q)
theorem wrap8 {n:Int} (h1:0≤n) (h2:n<256):IntKind.u8.wrap n=n:=by
 have hd:IntKind.u8.wrap n=n % 256:=by simp [IntKind.wrap,IntKind.signed,IntKind.bits]
 omega
abbrev uw (n:Nat):V:=.int .u64 (n:Int)
def lowF (c:Nat):Nat:=c ||| 32
def dvF (c:Nat):Nat:=if 48≤c∧c≤57 then c-48 else if 97≤lowF c∧lowF c≤122 then lowF c-97+10 else 99
def puF (n:Nat):List Nat→Option Nat
 | []=>some n
 | c::r=>if dvF c<16∧n*16+dvF c≤255 then puF (n*16+dvF c) r else none
theorem lowF_lt {c:Nat} (h:c<256):lowF c<256:=by
 have:∀ x:_root_.Fin 256,lowF x.val<256:=by decide +kernel
 exact this ⟨c,h⟩
section
variable {C:Cfg} (S:StdL C)
include S
theorem lower_ans (h:Heap) (hw:Wf h) (c:Nat) (hc:c<256):Ans C 172 [bv c] h fun v h'=>v=bv (lowF c)∧Grow h h':=by
 have hF:C.F 172=some a172:=S.f rfl
 unfold a172 at hF
 refine Ans.val (fun _ _=>S.s _ _ _ rfl) hF rfl rfl hw fun h2 g=>?_
 clear hF
 have e2:binA .or (bv c) (.int .u8 32)=some (bv (lowF c)):=by
  have:∀ x:_root_.Fin 256,IntKind.u8.wrap ((BitVec.ofInt IntKind.u8.bits (Int.ofNat x.val) ||| BitVec.ofInt IntKind.u8.bits 32).toNat)=Int.ofNat (lowF x.val):=by decide +kernel
  show some (V.int .u8 (IntKind.u8.wrap ((BitVec.ofInt IntKind.u8.bits (Int.ofNat c) ||| BitVec.ofInt IntKind.u8.bits 32).toNat)))=_
  rw [this ⟨c,hc⟩]
 exact WC.seqO<|omv rfl<|WO.nil<|WC.seqO<|omv rfl<|obn rfl rfl e2<|omv rfl<|WO.nil<|WC.ret ⟨trivial,g,rfl⟩
def PuR (p:List Nat) (v:V):Prop:=∃ (x:Nat) (e:V),v=.tuple [uw x,e]∧x≤255∧(∀ m,puF 0 p=some m→x=m)∧(e=.nilIface∨∃ n:Int,(n=1∨n=2)∧e=.iface 214 (jv n))
theorem puint0_ans (h:Heap) (hw:Wf h) (p:List Nat) (hp:Byt p) (hl:p.length≤1000000):Ans C 117 [.str p,jv 16,jv 8] h fun v h'=>PuR p v∧Grow h h':=by
 have hF:C.F 117=some a117:=S.f rfl
 unfold a117 at hF
 refine Ans.fn (fun _ _=>S.s _ _ _ rfl) hF rfl rfl hw fun h2 g=>?_
 clear hF
 have fin:∀ (h3:Heap) (x:Ex) (e':List (Nat × V)) (n:Nat) (e:V),Fin x→Grow h h3→Env.get e' 6=some (uw n)→Env.get e' 7=some e→PuR p (.tuple [uw n,e])→Fin x∧Wf h3∧∃ v,retE e' h3 [.tmp 6,.tmp 7]=some v∧(∀ h4,Grow h3 h4→PuR p v∧Grow h h4)∧(v.scopd h.size=true→PuR p v∧Grow h h):=by
  intro h3 x e' n e hx g3 h6 h7 hr
  refine ⟨hx,g3.wf,_,?_,fun h4 g4=>⟨hr,g3.trans g4⟩,fun _=>⟨hr,Grow.refl hw⟩⟩
  simp only [retE,ressE,resE,h6,h7,oneOf]
 refine WC.seqO<|omv rfl<|omv rfl<|WO.nil<|WC.seq<|WC.seqO<|omv rfl ?_
 by_cases h0:p=[]
 ·refine obn rfl rfl (seT h0)<|WO.nil<|WC.cond rfl (fun hc=>WC.seqO<|WO.ops (StepK.mkI rfl)<|omv rfl<|omv rfl<|WO.nil<|WC.ret<|fin _ _ _ 0 (.iface 214 (jv 2)) trivial g rfl rfl ?_) (fun hc=>by cases hc)
  exact ⟨0,_,rfl,by omega,fun m hm=>by rw [h0] at hm;exact Option.some.inj hm,.inr ⟨2,.inr rfl,rfl⟩⟩
 refine obn rfl rfl (seF h0)<|WO.nil<|WC.cond rfl (fun hc=>by cases hc) (fun hc=>WC.skip ?_)
 refine WC.seqO<|omv rfl<|obn rfl rfl (eqF (by decide))<|omv rfl<|WO.nil<|WC.seqO<|omv rfl<|omv rfl<|WO.nil<|WC.seq<|WC.block<|WC.seqO<|omv rfl<|obn rfl rfl rfl<|omv rfl<|WO.run rfl<|omv rfl<|WO.run rfl<|obn rfl rfl rfl<|opt rfl rfl<|omv rfl<|WO.nil<|WC.cond rfl (fun hc=>WC.skip ?_) (fun hc=>by cases hc)
 refine WC.seq<|WC.seqO<|omv rfl<|obn rfl rfl (eqF (by decide))<|WO.nil<|WC.cond rfl (fun hc=>by cases hc) (fun hc=>?_)
 refine WC.seqO<|omv rfl<|obn rfl rfl (ltF (by decide))<|omv rfl<|WO.run rfl<|omv rfl<|WO.run rfl<|obn rfl rfl (gtF (by decide))<|opf rfl rfl<|WO.nil<|WC.cond rfl (fun hc=>by cases hc) (fun hc=>WC.skip ?_)
 refine WC.seqO<|omv rfl<|WO.nil<|WC.seq<|WC.seqO<|omv rfl<|WO.nil<|WC.block<|WC.seqO<|obn rfl rfl (eqF (by decide))<|omv rfl<|WO.nil<|WC.cond rfl (fun hc=>by cases hc) (fun hc=>?_)
 refine WC.seqO<|obn rfl rfl (eqT (by decide))<|omv rfl<|WO.nil<|WC.cond rfl (fun hc=>?_) (fun hc=>by cases hc)
 refine WC.ops<|omv rfl<|WO.nil ?_
 refine WC.seqO<|omv rfl<|WO.ops (StepK.toInt (m:=8) rfl rfl)<|obn rfl rfl (show binA .shl (.int .u64 1) (.int .u64 8)=some (uw 256) from rfl)<|obn rfl rfl (show binA .sub (uw 256) (.int .u64 1)=some (uw 255) from rfl)<|omv rfl<|WO.nil ?_
 refine WC.seqO<|omv rfl<|WO.nil<|WC.seqO<|omv rfl<|WO.nil<|WC.seq<|WC.seqO<|omv rfl<|WO.ops (StepK.toBytes rfl) ?_
 have cb:=Cl.new h2 (bytesV p) none
 have g3:=g.push (.cells (bytesV p) (.tip [] 0 none))
 change WO C _ _ (h2.push (.cells (bytesV p) (.tip [] 0 none))) _
 generalize h2.push (.cells (bytesV p) (.tip [] 0 none))=h3 at *
 generalize h2.size=q at *
 refine ols rfl rfl<|omv rfl<|WO.nil<|WC.block ?_
 refine WC.loop (σ:=Nat × Nat) (fun s=>[(0,.str p),(1,jv 16),(8,.bool false),(10,.int .u64 1152921504606846976),(11,uw 255),(12,.bool false),(99,.oslice q 0 p.length p.length 0),(100,jv p.length),(13,uw s.2),(101,jv s.1)])
  (fun s h'=>Grow h h'∧Cl h' q (bytesV p)∧s.1≤p.length∧s.2≤255∧puF 0 p=puF s.2 (p.drop s.1)) (fun s=>p.length-s.1) (0,0)
  (Cov.cons rfl (Cov.cons rfl (Cov.cons rfl (Cov.cons rfl (Cov.cons rfl (Cov.cons rfl (Cov.cons rfl (Cov.cons rfl (Cov.cons rfl (Cov.cons rfl (Cov.nil _))))))))))) ⟨g3,cb,Nat.zero_le _,by decide,rfl⟩ ?_
 rintro ⟨j,n⟩ h4 ⟨g4,cb4,hj,hn,hI⟩
 simp only at g4 cb4 hj hn hI
 refine WC.seqO ?_
 by_cases hlt:j<p.length
 ·refine obn rfl rfl (ltT (by omega))<|WO.nil<|WC.seq<|WC.cond rfl (fun hc=>WC.skip ?_) (fun hc=>by cases hc)
  have ix:idxSlA 1 (.oslice q 0 p.length p.length 0) (jv j)=some (.ptr (some (q,j))):=by
   simp only [idxSlA,intV];rw [if_pos ⟨by omega,by omega⟩];simp
  have rd:h4.rd q j=some (bv p[j]):=cb4.rd (by rw [bytesV,List.getElem?_map,List.getElem?_eq_getElem hlt];rfl)
  have hcb:=hp _ (List.getElem_mem hlt)
  rw [List.drop_eq_getElem_cons hlt] at hI
  generalize p[j]=c at *
  have hI':puF 0 p=if dvF c<16∧n*16+dvF c≤255 then puF (n*16+dvF c) (p.drop (j+1)) else none:=hI
  clear hI
  have no:∀ h5 (e':List (Nat × V)) (x:Nat) (k:Int),Grow h h5→¬ (dvF c<16∧n*16+dvF c≤255)→(k=1∨k=2)→x≤255→Env.get e' 6=some (uw x)→Env.get e' 7=some (.iface 214 (jv k))→Fin .ret∧Wf h5∧∃ v,retE e' h5 [.tmp 6,.tmp 7]=some v∧(∀ h4,Grow h5 h4→PuR p v∧Grow h h4)∧(v.scopd h.size=true→PuR p v∧Grow h h):=by
   intro h5 e' x k g5 hno hk hx h6 h7
   refine fin h5 .ret e' x _ trivial g5 h6 h7 ⟨x,_,rfl,hx,fun m hm=>?_,.inr ⟨k,hk,rfl⟩⟩
   rw [hI',if_neg hno] at hm;cases hm
  refine WC.seq<|WC.block<|WC.seqO<|WO.ops (StepK.idxSl rfl rfl ix)<|old rfl rd<|omv rfl<|WO.nil<|WC.seqO<|omv rfl<|WO.nil ?_
  refine WC.seqV (M:=fun e' h'=>Cov [(0,.str p),(1,jv 16),(8,.bool false),(10,.int .u64 1152921504606846976),(11,uw 255),(12,.bool false),(99,.oslice q 0 p.length p.length 0),(100,jv p.length),(13,uw n),(101,jv j),(16,bv (dvF c))] e'∧Grow h h'∧Cl h' q (bytesV p)) ?_ ?_
  ·refine WC.block ?_
   refine WC.seqV (M:=fun e' h'=>Cov [(0,.str p),(1,jv 16),(8,.bool false),(10,.int .u64 1152921504606846976),(11,uw 255),(12,.bool false),(99,.oslice q 0 p.length p.length 0),(100,jv p.length),(13,uw n),(101,jv j),(15,bv c),(106,.bool false)] e'∧h'=h4) ?_ ?_
   ·by_cases h95:c=95
    ·exact WC.ops<|omv rfl<|obn rfl rfl (keqT (by show Int.ofNat c=95;simp;omega))<|omv rfl<|WO.run rfl<|omv rfl<|opt rfl rfl<|omv rfl<|WO.nil ⟨(Cov.cons rfl (Cov.cons rfl (Cov.cons rfl (Cov.cons rfl (Cov.cons rfl (Cov.cons rfl (Cov.cons rfl (Cov.cons rfl (Cov.cons rfl (Cov.cons rfl (Cov.cons rfl (Cov.cons rfl (Cov.nil _))))))))))))),rfl⟩
    ·exact WC.ops<|omv rfl<|obn rfl rfl (keqF (by show ¬ Int.ofNat c=95;simp;omega))<|omv rfl<|WO.skip rfl rfl<|opf rfl rfl<|omv rfl<|WO.nil ⟨(Cov.cons rfl (Cov.cons rfl (Cov.cons rfl (Cov.cons rfl (Cov.cons rfl (Cov.cons rfl (Cov.cons rfl (Cov.cons rfl (Cov.cons rfl (Cov.cons rfl (Cov.cons rfl (Cov.cons rfl (Cov.nil _))))))))))))),rfl⟩
   rintro e5 h5 ⟨k5,rfl⟩
   refine WC.cov k5 ?_
   refine WC.cond rfl (fun hc=>by cases hc) (fun hc=>?_)
   have hlw:=lowF_lt hcb
   refine WC.seqV (M:=fun e' h'=>Cov [(0,.str p),(1,jv 16),(8,.bool false),(10,.int .u64 1152921504606846976),(11,uw 255),(12,.bool false),(99,.oslice q 0 p.length p.length 0),(100,jv p.length),(13,uw n),(101,jv j),(15,bv c),(112,.bool (decide (48≤c∧c≤57)))] e'∧h'=h5) ?_ ?_
   ·by_cases h1:48≤c
    ·refine WC.ops<|omv rfl<|obn rfl rfl (kleT (by show (48:Int)≤Int.ofNat c;simp;omega))<|omv rfl<|WO.run rfl<|omv rfl<|WO.run rfl ?_
     by_cases h2:c≤57
     ·refine obn rfl rfl (kleT (by show Int.ofNat c≤57;simp;omega))<|opt rfl rfl<|omv rfl<|WO.nil ?_
      rw [decide_eq_true (show 48≤c∧c≤57 from ⟨h1,h2⟩)]
      exact ⟨(Cov.cons rfl (Cov.cons rfl (Cov.cons rfl (Cov.cons rfl (Cov.cons rfl (Cov.cons rfl (Cov.cons rfl (Cov.cons rfl (Cov.cons rfl (Cov.cons rfl (Cov.cons rfl (Cov.cons rfl (Cov.nil _))))))))))))),rfl⟩
     ·refine obn rfl rfl (kleF (by show ¬ Int.ofNat c≤57;simp;omega))<|opt rfl rfl<|omv rfl<|WO.nil ?_
      rw [decide_eq_false (show ¬ (48≤c∧c≤57) from fun q=>h2 q.2)]
      exact ⟨(Cov.cons rfl (Cov.cons rfl (Cov.cons rfl (Cov.cons rfl (Cov.cons rfl (Cov.cons rfl (Cov.cons rfl (Cov.cons rfl (Cov.cons rfl (Cov.cons rfl (Cov.cons rfl (Cov.cons rfl (Cov.nil _))))))))))))),rfl⟩
    ·refine WC.ops<|omv rfl<|obn rfl rfl (kleF (by show ¬ (48:Int)≤Int.ofNat c;simp;omega))<|omv rfl<|WO.skip rfl rfl<|WO.skip rfl rfl<|opf rfl rfl<|omv rfl<|WO.nil ?_
     rw [decide_eq_false (show ¬ (48≤c∧c≤57) from fun q=>h1 q.1)]
     exact ⟨(Cov.cons rfl (Cov.cons rfl (Cov.cons rfl (Cov.cons rfl (Cov.cons rfl (Cov.cons rfl (Cov.cons rfl (Cov.cons rfl (Cov.cons rfl (Cov.cons rfl (Cov.cons rfl (Cov.cons rfl (Cov.nil _))))))))))))),rfl⟩
   clear k5
   rintro e5 h5 ⟨k5,rfl⟩
   refine WC.cov k5 ?_
   refine WC.cond rfl (fun hc=>?_) (fun hc=>?_)
   ·have h48:=of_decide_eq_true hc
    have s1:binA .sub (bv c) (.int .u8 48)=some (bv (dvF c)):=by
     have:dvF c=c-48:=by unfold dvF;rw [if_pos h48]
     rw [this]
     simp only [binA,if_true]
     rw [wrap8 (by simp;omega) (by simp;omega)]
     congr 2;simp;omega
    exact WC.ops<|omv rfl<|obn rfl rfl s1<|omv rfl<|WO.nil ⟨(Cov.cons rfl (Cov.cons rfl (Cov.cons rfl (Cov.cons rfl (Cov.cons rfl (Cov.cons rfl (Cov.cons rfl (Cov.cons rfl (Cov.cons rfl (Cov.cons rfl (Cov.cons rfl (Cov.nil _)))))))))))),g4,cb4⟩
   ·have h48:=of_decide_eq_false hc
    refine WC.seqO<|omv rfl ?_
    refine WO.call rfl rfl (lower_ans S _ g4.wf c hcb) ?_
    rintro _ h6 ⟨rfl,g6⟩
    have g46:=g4.trans g6
    have cb6:=cb4.grow g6
    by_cases h97:97≤lowF c
    ·refine obn rfl rfl (kleT (by show (97:Int)≤Int.ofNat (lowF c);simp;omega))<|omv rfl<|WO.run rfl<|omv rfl<|WO.run rfl ?_
     refine WO.call rfl rfl (lower_ans S h6 g46.wf c hcb) ?_
     rintro _ h7 ⟨rfl,g7⟩
     have g47:=g46.trans g7
     have cb7:=cb6.grow g7
     by_cases h122:lowF c≤122
     ·refine WO.run rfl<|obn rfl rfl (kleT (by show Int.ofNat (lowF c)≤122;simp;omega))<|opt rfl rfl<|omv rfl<|WO.nil<|WC.cond rfl (fun hc=>WC.ops<|omv rfl ?_) (fun hc=>by cases hc)
      refine WO.call rfl rfl (lower_ans S h7 g47.wf c hcb) ?_
      rintro _ h8 ⟨rfl,g8⟩
      have s1:binA .sub (bv (lowF c)) (.int .u8 97)=some (bv (lowF c-97)):=by
       simp only [binA,if_true]
       rw [wrap8 (by simp;omega) (by simp;omega)]
       congr 2;simp;omega
      have s2:binA .add (bv (lowF c-97)) (.int .u8 10)=some (bv (dvF c)):=by
       simp only [binA,if_true]
       rw [wrap8 (by simp;omega) (by simp;omega)]
       have:dvF c=lowF c-97+10:=by unfold dvF;rw [if_neg h48,if_pos ⟨h97,h122⟩]
       rw [this];congr 2
      exact obn rfl rfl s1<|obn rfl rfl s2<|omv rfl<|WO.nil ⟨(Cov.cons rfl (Cov.cons rfl (Cov.cons rfl (Cov.cons rfl (Cov.cons rfl (Cov.cons rfl (Cov.cons rfl (Cov.cons rfl (Cov.cons rfl (Cov.cons rfl (Cov.cons rfl (Cov.nil _)))))))))))),g47.trans g8,cb7.grow g8⟩
     ·refine WO.run rfl<|obn rfl rfl (kleF (by show ¬ Int.ofNat (lowF c)≤122;simp;omega))<|opt rfl rfl<|omv rfl<|WO.nil<|WC.cond rfl (fun hc=>by cases hc) (fun hc=>WC.seqO<|WO.ops (StepK.mkI rfl)<|omv rfl<|omv rfl<|WO.nil<|WC.ret<|no h7 _ 0 2 g47 (fun q=>?_) (.inr rfl) (by omega) rfl rfl)
      have:dvF c=99:=by unfold dvF;rw [if_neg h48,if_neg (fun q=>h122 q.2)]
      omega
    ·refine obn rfl rfl (kleF (by show ¬ (97:Int)≤Int.ofNat (lowF c);simp;omega))<|omv rfl<|WO.skip rfl rfl<|WO.skip rfl rfl<|WO.skip rfl rfl<|opf rfl rfl<|omv rfl<|WO.nil<|WC.cond rfl (fun hc=>by cases hc) (fun hc=>WC.seqO<|WO.ops (StepK.mkI rfl)<|omv rfl<|omv rfl<|WO.nil<|WC.ret<|no h6 _ 0 2 g46 (fun q=>?_) (.inr rfl) (by omega) rfl rfl)
     have:dvF c=99:=by unfold dvF;rw [if_neg h48,if_neg (fun q=>h97 q.1)]
     omega
  ·rintro e5 h5 ⟨k5,g5,cb5⟩
   refine WC.cov k5 ?_
   have tw:IntKind.u8.wrap (16:Int)=16:=by decide
   refine WC.seq<|WC.seqO<|omv rfl<|omv rfl<|WO.ops (StepK.toInt rfl tw) ?_
   by_cases hd:dvF c<16
   ·refine obn rfl rfl (kgeF (by show ¬ (16:Int)≤Int.ofNat (dvF c);simp;omega))<|WO.nil<|WC.cond rfl (fun hc=>by cases hc) (fun hc=>WC.skip ?_)
    have mw:IntKind.u64.wrap ((n:Int)*16)=((n*16:Nat):Int):=by rw [wrapU (by omega) (by omega)];omega
    have mm:binA .mul (uw n) (.int .u64 16)=some (uw (n*16)):=by simp only [binA,if_true];rw [mw]
    have am:binA .add (uw (n*16)) (uw (dvF c))=some (uw (n*16+dvF c)):=by
     simp only [binA,if_true]
     rw [wrapU (by omega) (by omega)];rfl
    refine WC.seq<|WC.seqO<|omv rfl<|omv rfl<|obn rfl rfl (kgeF (by omega))<|WO.nil<|WC.cond rfl (fun hc=>by cases hc) (fun hc=>WC.skip ?_)
    refine WC.seqO<|omv rfl<|omv rfl<|WO.ops (StepK.toInt (m:=16) rfl (by decide))<|obn rfl rfl mm<|omv rfl<|WO.nil<|WC.seqO<|omv rfl<|omv rfl<|WO.ops (StepK.toInt (m:=(dvF c:Int)) rfl (wrapU (by simp) (by simp;omega)))<|obn rfl rfl am<|omv rfl<|WO.nil ?_
    refine WC.seq<|WC.seqO<|omv rfl<|omv rfl<|obn rfl rfl (kltF (by omega))<|omv rfl<|WO.run rfl<|omv rfl<|WO.run rfl<|omv rfl<|WO.run rfl ?_
    by_cases h255:n*16+dvF c≤255
    ·refine obn rfl rfl (kgtF (by omega))<|opf rfl rfl<|WO.nil<|WC.cond rfl (fun hc=>by cases hc) (fun hc=>WC.skip<|WC.ops<|omv rfl<|omv rfl<|WO.nil<|WC.ops<|oad rfl rfl (by omega)<|omv rfl<|WO.nil ⟨(j+1,n*16+dvF c),Cov.cons rfl (Cov.cons rfl (Cov.cons rfl (Cov.cons rfl (Cov.cons rfl (Cov.cons rfl (Cov.cons rfl (Cov.cons rfl (Cov.cons rfl (Cov.cons rfl (Cov.nil _)))))))))),⟨g5,cb5,hlt,h255,?_⟩,by simp only;omega⟩)
     rw [hI',if_pos ⟨hd,h255⟩]
    ·exact obn rfl rfl (kgtT (by omega))<|opf rfl rfl<|WO.nil<|WC.cond rfl (fun hc=>WC.seqO<|omv rfl<|WO.ops (StepK.mkI rfl)<|omv rfl<|omv rfl<|WO.nil<|WC.ret<|no h5 _ 255 1 g5 (fun q=>h255 q.2) (.inl rfl) (by omega) rfl rfl) (fun hc=>by cases hc)
   ·exact obn rfl rfl (kgeT (by show (16:Int)≤Int.ofNat (dvF c);simp;omega))<|WO.nil<|WC.cond rfl (fun hc=>WC.seqO<|WO.ops (StepK.mkI rfl)<|omv rfl<|omv rfl<|WO.nil<|WC.ret<|no h5 _ 0 2 g5 (fun q=>hd q.1) (.inr rfl) (by omega) rfl rfl) (fun hc=>by cases hc)
 ·rw [List.drop_eq_nil_of_le (by omega)] at hI
  refine obn rfl rfl (ltF (by omega))<|WO.nil<|WC.seq<|WC.cond rfl (fun hc=>by cases hc) (fun hc=>WC.exit ?_)
  refine WC.seq<|WC.seqO<|omv rfl<|omv rfl<|WO.skip rfl rfl<|WO.skip rfl rfl<|WO.skip rfl rfl<|opf rfl rfl<|WO.nil<|WC.cond rfl (fun hc=>by cases hc) (fun hc=>WC.skip ?_)
  refine WC.seqO<|omv rfl<|omv rfl<|omv rfl<|WO.nil<|WC.ret<|fin h4 _ _ n .nilIface trivial g4 rfl rfl ⟨n,_,rfl,hn,fun m hm=>?_,.inl rfl⟩
  rw [hI] at hm
  exact Option.some.inj hm
end
end Abs
end Go.Proofs.YthgcjbniipfnbaaGreatDoor
namespace Go.Proofs.YthgcjbniipfnbaaGreatDoor
namespace Abs
set_option linter.unusedVariables false
set_option linter.unusedSimpArgs false
open Go.RowKit
attribute [local irreducible] WO WC WD StepK Ans Does Runs DoesD
structure Feeds (C:Cfg) (h:Heap) (l n:Nat) (vals:Nat→List V) (J:Nat→Heap→Prop):Prop where
 zero:J 0 h
 step:∀ i,i<n→∀ h',J i h'→Yld C l (vals i) h' fun v h2=>v=.bool true∧J (i+1) h2
 grow:∀ i h1 h2,J i h1→Grow h1 h2→J i h2
 lowJ:∀ i h1 n,J i h1→J i { h1 with low:=n }
 locJ:∀ i h1,J i h1→(∀ b,b<h.size→h1.get b=h.get b)→J i h
theorem ThenX.on {C:Cfg} {b:AC} {Q:Ex→List (Nat × V)→List V→Heap→Prop} {e:List (Nat × V)} {d:List V} {h:Heap} (hx:WX C b e d h Q):ThenX C b Q .normal e d h:=hx
theorem puF_hx {c:Nat} (h:c<256):puF 0 [hx (c / 16),hx (c % 16)]=some c:=by
 have:∀ x:_root_.Fin 256,puF 0 [hx (x.val / 16),hx (x.val % 16)]=some x.val:=by decide +kernel
 exact this ⟨c,h⟩
abbrev prt (n i:Nat):Nat:=min 2 (n-2*i)
section
variable {C:Cfg} (S:StdL C)
include S
theorem puint_ans (h:Heap) (hw:Wf h) (p:List Nat) (hp:Byt p) (hl:p.length≤1000000):Ans C 86 [.str p,jv 16,jv 8] h fun v h'=>(∃ (x:Nat) (e:V),v=.tuple [uw x,e]∧x≤255∧(∀ m,puF 0 p=some m→x=m))∧Grow h h':=by
 have hF:C.F 86=some a86:=S.f rfl
 unfold a86 at hF
 refine Ans.fn (fun _ _=>S.s _ _ _ rfl) hF rfl rfl hw fun h2 g=>?_
 clear hF
 refine WC.seqO<|omv rfl<|omv rfl<|WO.nil<|WC.seqO<|omv rfl<|omv rfl<|omv rfl ?_
 refine WO.call rfl rfl (puint0_ans S h2 g.wf p hp hl) ?_
 rintro _ h3 ⟨⟨x,e,rfl,hx,hm,he⟩,g3⟩
 have g13:=g.trans g3
 refine omv rfl<|oex rfl rfl<|oex rfl rfl<|omv rfl<|omv rfl<|WO.nil<|WC.seq<|WC.seqO<|omv rfl ?_
 rcases he with rfl | ⟨n,hn,rfl⟩
 ·refine WO.ops (StepK.isN rfl)<|WO.nil<|WC.cond rfl (fun hc=>by cases hc) (fun hc=>WC.skip<|WC.seqO<|omv rfl<|omv rfl<|omv rfl<|WO.nil<|WC.ret ⟨trivial,g13.wf,.tuple [uw x,.nilIface],rfl,fun h4 g4=>⟨⟨x,_,rfl,hx,hm⟩,g13.trans g4⟩,fun _=>⟨⟨x,_,rfl,hx,hm⟩,Grow.refl hw⟩⟩)
 ·refine WO.ops (StepK.isI rfl)<|WO.nil<|WC.cond rfl (fun hc=>WC.seqO<|omv rfl<|omv rfl<|omv rfl<|omv rfl<|omv rfl ?_) (fun hc=>by cases hc)
  refine WO.call rfl rfl (Ans.sum (R:=fun v h'=>v=.iface 217 (.ptr (some (h3.size,0)))∧h'=h3.push .dead) (S.terr h3 16 8 p n hl hn) ⟨rfl,rfl⟩) ?_
  rintro _ h4 ⟨rfl,rfl⟩
  have g4:=g13.push .dead
  exact omv rfl<|omv rfl<|WO.nil<|WC.ret ⟨trivial,g4.wf,.tuple [uw x,.iface 217 (.ptr (some (h3.size,0)))],rfl,fun h4 g5=>⟨⟨x,_,rfl,hx,hm⟩,g4.trans g5⟩,fun _=>⟨⟨x,_,rfl,hx,hm⟩,Grow.refl hw⟩⟩
theorem chunk_ans (h:Heap) (hw:Wf h) (x:V) (hx:V.one x=true):Ans C 85 [x,jv 2] h fun r h'=>∃ q q3,r=.func (.func 116) [] [.ptr (some (q,0)),.ptr (some (q3,0))]∧Grow h h'∧Cl h' q [x]∧Cl h' q3 [jv 2]∧h.size≤q∧h.size≤q3:=by
 have hF:C.F 85=some a85:=S.f rfl
 unfold a85 at hF
 refine Ans.fn (fun _ _=>S.s _ _ _ rfl) hF rfl rfl hw (fun h2 g=>?_)
 clear hF
 refine WC.seqO (WO.ops (StepK.box rfl) ?_)
 have c1:Cl (h2.push (.cells x.cellsOf (.tip [] 0 none))) h2.size [x]:=by
  have:=Cl.new h2 [x] none
  rwa [show x.cellsOf=[x] from by cases x <;> first | rfl | (simp [V.one] at hx)]
 have g3:=g.push (.cells x.cellsOf (.tip [] 0 none))
 have hs:=g.size
 have z3:(h2.push (.cells x.cellsOf (.tip [] 0 none))).size=h2.size+1:=rfl
 change WO C _ _ (h2.push (.cells x.cellsOf (.tip [] 0 none))) _
 generalize h2.push (.cells x.cellsOf (.tip [] 0 none))=h3 at *
 generalize h2.size=q at *
 refine WO.ops (StepK.box rfl) ?_
 have c2:=Cl.new h3 [jv 2] none
 have c1':=c1.grow ((Grow.refl g3.wf).push (.cells [jv 2] (.tip [] 0 none)))
 have g4:=g3.push (.cells [jv 2] (.tip [] 0 none))
 change WO C _ _ (h3.push (.cells [jv 2] (.tip [] 0 none))) _
 generalize h3.push (.cells [jv 2] (.tip [] 0 none))=h4 at *
 generalize h3.size=q3 at *
 refine omv rfl<|WO.nil<|WC.seq<|WC.seqO<|old rfl (c2.rd (i:=0) rfl)<|obn rfl rfl (ltF (by decide))<|WO.nil<|WC.cond rfl (fun hc=>by cases hc) (fun hc=>WC.skip ?_)
 refine WC.seqO<|omf rfl rfl<|omv rfl<|WO.nil<|WC.ret ⟨trivial,g4.wf,_,rfl,fun h5 g5=>⟨q,q3,rfl,g4.trans g5,c1'.grow g5,c2.grow g5,hs,by omega⟩,fun hq=>?_⟩
 change (V.func (.func 116) [] [.ptr (some (q,0)),.ptr (some (q3,0))]).scopd h.size=true at hq
 simp [V.scopd,V.scopeds] at hq
 omega
theorem chunk1_ans (h:Heap) (hw:Wf h) (l q q3 bY n:Nat) (hn:n≤1000000) {J:Nat→Heap→Prop} (hFe:Feeds C h l ((n+1) / 2) (fun i=>[.slice (some (bY,2*i)) (prt n i) (prt n i)]) J)
  (inv:∀ i h',J i h'→Wf h'∧Cl h' q [.oslice bY 0 n n 0]∧Cl h' q3 [jv 2]):Ans C 116 [.yld l,.ptr (some (q,0)),.ptr (some (q3,0))] h fun v h'=>J ((n+1) / 2) h':=by
 have hF:C.F 116=some a116:=S.f rfl
 unfold a116 at hF
 refine Ans.loc S.hm (S.s _ _ _ rfl) hF rfl rfl hw (fun h2 g hs2 hg2=>?_) (fun v h1 hl hr _=>hFe.locJ _ _ hr hl)
 clear hF
 have j0:J 0 h2:=hFe.grow 0 h h2 hFe.zero g
 refine WC.seqO<|omv rfl<|WO.nil<|WC.block ?_
 refine WC.loop (σ:=Nat) (fun p=>[(0,.yld l),(1,.ptr (some (q,0))),(2,.ptr (some (q3,0))),(4,jv ((2*p:Nat):Int))]) (fun p h'=>p≤(n+1) / 2∧J p h') (fun p=>(n+1) / 2-p) 0
  (Cov.cons rfl (Cov.cons rfl (Cov.cons rfl (Cov.cons rfl (Cov.nil _))))) ⟨Nat.zero_le _,j0⟩ ?_
 rintro p h3 ⟨hp,j3⟩
 obtain ⟨w3,c1,c2⟩:=inv p h3 j3
 have r1:h3.rd q 0=some (.oslice bY 0 n n 0):=c1.rd rfl
 have r2:h3.rd q3 0=some (jv 2):=c2.rd rfl
 refine WC.seq<|WC.seqO<|omv rfl<|old rfl r1<|ols rfl rfl ?_
 by_cases hlt:p<(n+1) / 2
 ·refine obn rfl rfl (ltT (by omega))<|WO.nil<|WC.cond rfl (fun hc=>WC.skip ?_) (fun hc=>by cases hc)
  have s1:sliceSlA 1 (.oslice bY 0 n n 0) (some (jv ((2*p:Nat):Int))) none none=some (.oslice bY (0+2*p*1) (n-2*p) (n-2*p) 0):=by
   simp only [sliceSlA,boundsA,intV]
   rw [if_pos (.inr trivial),if_pos ⟨by omega,by omega⟩];rfl
  refine WC.seq<|WC.block<|WC.seqD<|WD.load1 rfl r2<|WD.load1 rfl r1<|dmv rfl<|WD.pure (StepK.sliceSl rfl rfl rfl rfl s1) rfl<|dls rfl rfl<|dmn rfl rfl<|dmv rfl<|WD.nil (by repeat (first | exact trivial | refine ⟨by with_reducible assumption,?_⟩)) ?_
  have hk:(if ((n-2*p:Nat):Int)<2 then ((n-2*p:Nat):Int) else 2)=((prt n p:Nat):Int):=by
   unfold prt;split <;> omega
  rw [hk]
  have hk1:prt n p≤n-2*p:=Nat.min_le_right _ _
  have s2:sliceSlA 1 (.oslice bY 0 n n 0) (some (jv ((2*p:Nat):Int))) (some (jv (((2*p:Nat):Int)+(prt n p:Nat)))) (some (jv (((2*p:Nat):Int)+(prt n p:Nat))))=some (.slice (some (bY,2*p)) (prt n p) (prt n p)):=by
   generalize prt n p=k at *
   have e:(((2*p:Nat):Int)+(k:Nat))=((2*p+k:Nat):Int):=by omega
   rw [e]
   simp only [sliceSlA,boundsA,intV]
   rw [if_pos (.inr trivial),if_pos ⟨by omega,by omega,rfl⟩]
   simp only [Int.toNat_natCast]
   rw [if_pos ⟨by omega,by omega⟩]
   simp only [Int.toNat_natCast]
   rw [if_pos ⟨by omega,by omega⟩]
   simp
  refine WC.seqO<|omv rfl<|old rfl r1<|omv rfl<|omv rfl<|omv rfl<|oad rfl rfl (by omega)<|omv rfl<|omv rfl<|oad rfl rfl (by omega)<|WO.ops (StepK.sliceSl rfl rfl rfl rfl s2) ?_
  refine WO.yld rfl rfl (hFe.step p hlt h3 j3) ?_
  rintro _ h4 ⟨rfl,j4⟩
  obtain ⟨w4,d1,d2⟩:=inv (p+1) h4 j4
  refine ont rfl<|WO.nil<|WC.cond rfl (fun hc=>by cases hc) (fun hc=>WC.skip<|WC.ops<|omv rfl<|old rfl (d2.rd (i:=0) rfl)<|oad rfl rfl (by omega)<|omv rfl<|WO.nil ⟨p+1,?_,⟨hlt,j4⟩,by omega⟩)
  have e1:(((2*p:Nat):Int)+2)=((2*(p+1):Nat):Int):=by omega
  rw [e1]
  exact Cov.cons rfl (Cov.cons rfl (Cov.cons rfl (Cov.cons rfl (Cov.nil _))))
 ·obtain rfl:p=(n+1) / 2:=by omega
  refine obn rfl rfl (ltF (by omega))<|WO.nil<|WC.cond rfl (fun hc=>by cases hc) (fun hc=>WC.exit ?_)
  exact ⟨trivial,.tuple [],rfl,fun n=>hFe.lowJ _ _ _ j3⟩
end
end Abs
end Go.Proofs.YthgcjbniipfnbaaGreatDoor
namespace Go.Proofs.YthgcjbniipfnbaaGreatDoor
namespace Abs
set_option linter.unusedVariables false
set_option linter.unusedSimpArgs false
open Go.RowKit
attribute [local irreducible] WO WC WD StepK Ans Does Runs DoesD
theorem one_cells {w:V} (h:V.one w=true):w.cellsOf=[w]:=by cases w <;> first | rfl | cases h
theorem Cl.putNe {h:Heap} {b c:Nat} {cs:List V} (a:Cl h b cs) (hc:b≠c) (o:Obj):Cl (h.put c o) b cs:=a.of_get (h:=h.put c o) (by rw [get_put,if_neg hc])
theorem append_size {h h':Heap} {sz bytes:Nat} {tyK:Option Nat} {x y v:V} (hx:appendA h sz bytes tyK x y=some (v,h')):h.size≤h'.size:=by
 unfold appendA at hx
 split at hx
 ·split at hx
  ·split at hx
   ·exact (HM.core hx).size
   ·cases hx
  ·cases hx
 ·cases hx
def byAsg:AC:=.ops [⟨(some 5),none,.mv (.t 15)⟩]
def byBody:AC:=.block 1 (.seq (.ops [⟨(some 17),none,.mv (.t 5)⟩,⟨(some 18),none,.toStr (.t 17)⟩,⟨(some 19),none,.call (.c (.func (.func 86) [] [])) [(.t 18),(.c (.int .i64 (16))),(.c (.int .i64 (8)))]⟩,⟨(some 16),none,.mv (.t 19)⟩,⟨(some 20),none,.extract 0 (.t 16)⟩,⟨(some 21),none,.extract 1 (.t 16)⟩,⟨(some 6),none,.mv (.t 20)⟩,⟨(some 7),none,.mv (.t 21)⟩])
 (.ops [⟨(some 22),none,.load none (.t 4)⟩,⟨(some 23),none,.mv (.t 6)⟩,⟨(some 24),none,.toInt .u8 (.t 23)⟩,⟨(some 25),none,.buildSl (some 5) [(.int .u8 (0))] 1 [(0,1,(.t 24))]⟩,⟨(some 26),none,.append 1 1 (some 5) (.t 22) (.t 25)⟩,⟨none,none,.store 1 (.t 4) (.t 26)⟩]))
abbrev bvs (out:List Nat):List (List V):=out.map fun c=>[bv c]
structure ByJ (h0 h8:Heap) (m p4:Nat) (w:List Nat) (e:List (Nat × V)) (n:Nat) (h:Heap):Prop where
 gr:Grow h0 h
 ch:Chg [p4,m+1] h8 h
 l:∃ x out,Cl h p4 [x]∧Grown h h0.size 1 x (bvs out)∧(∀ c,c<h8.size→Off x c)∧out.length=n∧Byt out∧(∀ t,Byt t→hexF t=w→out=t.take n)
 lp:LoopAt h (m+1) e [15] byAsg byBody
theorem hexF_drop {t w:List Nat} (h:hexF t=w) (n:Nat):w.drop (2*n)=hexF (t.drop n):=by
 subst h
 by_cases hn:n≤t.length
 ·have h1:hexF t=hexF (t.take n)++hexF (t.drop n):=by rw [←hexF_app,List.take_append_drop]
  rw [h1]
  exact List.drop_left' (by rw [hexF_len,List.length_take];omega)
 ·rw [List.drop_eq_nil_of_le (by rw [hexF_len];omega),List.drop_eq_nil_of_le (by omega)];rfl
theorem one_app {h:Heap} {sz bytes:Nat} {tyK:Option Nat} {x y v:V} {h':Heap} (hx:appendA h sz bytes tyK x y=some (v,h')):V.one v=true:=by
 unfold appendA at hx
 repeat' split at hx
 all_goals first | (cases hx;done) | skip
 unfold appendCore at hx
 repeat' split at hx
 all_goals first | (cases hx;rfl) | (cases hx;done)
section
variable {C:Cfg} (S:StdL C)
include S
theorem by_step {h0 h8 h:Heap} {m p4 bY:Nat} {w:List Nat} {e:List (Nat × V)} {n:Nat} (hw0:Wf h0) (hw8:Wf h8) (hb:Byt w) (hl:w.length≤1000000) (J:ByJ h0 h8 m p4 w e n h) (hn:n<(w.length+1) / 2)
  (he:Env.get e 4=some (.ptr (some (p4,0)))) (cY:Cl h8 bY (bytesV w)) (nY:bY∉[p4,m+1]) (np:p4≠m+1) (hp4:h0.size≤p4) (hm:h0.size≤m) (h48:p4<h8.size) (hm8:m+1<h8.size) :
  Yld C (m+1) [.slice (some (bY,2*n)) (prt w.length n) (prt w.length n)] h fun r h'=>r=.bool true∧ByJ h0 h8 m p4 w e (n+1) h':=by
 obtain ⟨nt,tm,hg,hs⟩:=J.lp
 have lm:=Wf.lt J.gr.wf hg
 refine Yld.body hg hs rfl ?_
 refine WC.ops (omv rfl (WO.nil ⟨rfl,rfl,?_⟩))
 have cB:Chg [p4,m+1] h8 (h.put (m+1) (.loop .busy none nt tm [15] byAsg byBody)):=by
  refine ⟨(J.gr.put (by omega) lm hw0 _).wf,J.ch.size,fun b o hb hq=>?_⟩
  rw [get_put,if_neg (by rintro rfl;exact hb (by simp))]
  exact J.ch.keep b o hb hq
 have gB:Grow h0 (h.put (m+1) (.loop .busy none nt tm [15] byAsg byBody)):=J.gr.put (by omega) lm hw0 _
 obtain ⟨x,out,j1,j2,j3,j4,j5,j6⟩:=J.l
 have k1:Cl (h.put (m+1) (.loop .busy none nt tm [15] byAsg byBody)) p4 [x]:=j1.putNe np _
 have k2:Grown (h.put (m+1) (.loop .busy none nt tm [15] byAsg byBody)) h0.size 1 x (bvs out):=j2.frame fun b o hq o2 l k z hx=>by
  rw [get_put,if_neg (j3 _ hm8 _ _ _ _ _ hx)];exact hq
 have bz:(h.put (m+1) (.loop .busy none nt tm [15] byAsg byBody)).get (m+1)=some (.loop .busy none nt tm [15] byAsg byBody):=by rw [get_put,if_pos rfl]
 generalize h.put (m+1) (.loop .busy none nt tm [15] byAsg byBody)=hB at *
 have hkn:prt w.length n≤w.length-2*n:=Nat.min_le_right _ _
 have hk0:prt w.length n≠0:=by
  have:2*n<w.length:=by omega
  show min 2 (w.length-2*n)≠0
  omega
 have cYB:=cY.chg cB nY
 have ts:toStrA hB (.slice (some (bY,2*n)) (prt w.length n) (prt w.length n))=some (.str ((w.drop (2*n)).take (prt w.length n))):=by
  have:=cYB.rdsAt (o:=2*n) (n:=prt w.length n) (by simp [bytesV];omega)
  simp only [toStrA,slLen,slCells]
  rw [if_neg hk0,Nat.mul_one,this]
  have e1:((bytesV w).drop (2*n)).take (prt w.length n)=((w.drop (2*n)).take (prt w.length n)).map bv:=by
   simp only [bytesV,List.map_take,List.map_drop]
  simp only [e1]
  rw [u8s_bv _ ((hb.drop _).take _)]
 refine WC.block<|WC.seqO<|omv rfl<|WO.ops (StepK.toStr rfl ts) ?_
 refine WO.call rfl rfl (puint_ans S hB gB.wf _ ((hb.drop _).take _) (by simp;omega)) ?_
 rintro _ h5 ⟨⟨u,er,rfl,hu,hpu⟩,g5⟩
 have g05:=gB.trans g5
 have c85:=cB.growr g5
 replace k1:=k1.grow g5
 replace k2:=k2.grow g5
 replace bz:=g5.ext _ _ bz
 have s5:=c85.size
 refine omv rfl<|oex rfl rfl<|oex rfl rfl<|omv rfl<|omv rfl<|WO.nil<|WC.ops ?_
 refine old he (k1.rd (i:=0) rfl)<|omv rfl<|WO.ops (StepK.toInt (m:=(u:Int)) rfl (wrap8 (by omega) (by omega)))<|WO.ops (StepK.buildSl rfl rfl) ?_
 have gp:=(Grow.refl g05.wf).push (.cells [bv u] (.tip [] 0 (some 5)))
 have sy:Sl (h5.push (.cells [bv u] (.tip [] 0 (some 5)))) 1 (.slice (some (h5.size,0)) 1 1) [[bv u]]:=sl_one (get_push_self _ _) rfl
 change WO C _ _ (h5.push (.cells [bv u] (.tip [] 0 (some 5)))) _
 have g06:=g05.trans gp
 have c86:=c85.growr gp
 replace k1:=k1.grow gp
 replace k2:=k2.grow gp
 replace bz:=gp.ext _ _ bz
 have s6:=c86.size
 generalize h5.push (.cells [bv u] (.tip [] 0 (some 5)))=h6 at *
 obtain ⟨v,h7,a1,a2,a3,a4,a5⟩:=Grown.append2 (bytes:=1) (tyK:=some 5) hw0 g06 k2 sy (by decide) (by decide) (roomy1 (by simp;omega)) (by simp [V.one])
 refine WO.ops (StepK.append rfl rfl a1) ?_
 have k17:Cl h7 p4 [x]:=k1.imp fun _ q=>a4 _ _ q (j3 p4 h48)
 have bz7:=a4 _ _ bz (j3 _ hm8)
 obtain ⟨h9,b1,b2,b3,b4⟩:=k17.set a3.wf (i:=0) (v:=v) (by simp) (one_app a1)
 refine WO.op (StepK.store he rfl (by have:=one_app a1;rw [one_cells this];rfl) (by have:=one_app a1;rw [one_cells this];exact b1)) ?_
 have bz9:=b3.keep _ _ (by simp;omega) bz7
 have g09:Grow h0 h9:=b3.newGrow a3 hw0 (fun y hy=>by obtain rfl:=List.mem_singleton.1 hy;exact hp4)
 have off:∀ c,c<h8.size→Off v c:=fun c hc=>a5 c (by omega) (j3 c hc)
 have s7:=append_size a1
 have s9:=b3.size
 refine WO.nil ⟨bz9,rfl,g09.put (by omega) (Wf.lt g09.wf bz9) hw0 _,⟨(g09.put (by omega) (Wf.lt g09.wf bz9) hw0 _).wf,?_,?_⟩,⟨v,out++[u],b2.putNe np _,?_,off,by simp [j4],?_,?_⟩,nt,tm,by rw [get_put,if_pos rfl],hs⟩
 ·show h8.size≤h9.size;omega
 ·intro b o hb2 hq
  rw [get_put,if_neg (by rintro rfl;exact hb2 (by simp))]
  exact b3.keep _ _ (fun q=>hb2 (by simp at q ⊢;exact .inl q)) (a4 _ _ (c86.keep b o hb2 hq) (j3 b (Wf.lt hw8 hq)))
 ·have q9:Grown h9 h0.size 1 v (bvs out++[[bv u]]):=a2.frame fun b o hq o2 l k z hx=>b3.keep _ _ (by have:=off p4 h48 _ _ _ _ _ hx;simpa using this) hq
  have e:bvs (out++[u])=bvs out++[[bv u]]:=by simp [bvs]
  rw [e]
  exact q9.frame fun b o hq o2 l k z hx=>by
   rw [get_put,if_neg (off _ hm8 _ _ _ _ _ hx)];exact hq
 ·exact j5.app fun b hb=>by simp at hb;omega
 ·intro t ht hxt
  have hlw:w.length=2*t.length:=by rw [←hxt,hexF_len]
  have hnt:n<t.length:=by omega
  have hk2:prt w.length n=2:=by show min 2 (w.length-2*n)=2;omega
  have hu:u=t[n]:=by
   refine hpu _ ?_
   rw [hk2,hexF_drop hxt,List.drop_eq_getElem_cons hnt]
   have:hexF (t[n]::t.drop (n+1))=[hx (t[n] / 16),hx (t[n] % 16)]++hexF (t.drop (n+1)):=by unfold hexF;rw [List.flatMap_cons]
   rw [this]
   exact puF_hx (ht _ (List.getElem_mem hnt))
  rw [j6 t ht hxt,hu,List.take_succ_eq_append_getElem hnt]
end
end Abs
end Go.Proofs.YthgcjbniipfnbaaGreatDoor
