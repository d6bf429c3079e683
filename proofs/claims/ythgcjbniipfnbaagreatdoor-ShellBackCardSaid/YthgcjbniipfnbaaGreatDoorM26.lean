/- Layer 24: items that come in. -/
import Derived.Test.YthgcjbniipfnbaaGreatDoorM25
import Derived.Test.YthgcjbniipfnbaaGreatDoorA38
import Derived.Test.YthgcjbniipfnbaaGreatDoorH38
import Derived.SizedLaws
namespace Go.Proofs.YthgcjbniipfnbaaGreatDoor
namespace Abs
set_option linter.unusedVariables false
set_option linter.unusedSimpArgs false
set_option maxRecDepth 100000
open Go.RowKit Go.ChangeShapes Go.WideShapes Go.Joins
theorem list_of {α:Type} {g:α→List V} {es:List (List V)} (h:∀ c∈es,∃ a,c=g a):∃ l:List α,es=l.map g:=by
 induction es with
 | nil=>exact ⟨[],rfl⟩
 | cons a r ih =>
  obtain ⟨e,he⟩:=h a List.mem_cons_self
  obtain ⟨l,hl⟩:=ih fun c hc=>h c (List.mem_cons_of_mem _ hc)
  exact ⟨e::l,by rw [he,hl];rfl⟩
section
variable {H:Type} {enc:TypeId × Value→H} {w:World} {held:Bool}
theorem gw2_pos (hG:GW gl2 w):0<w.heap.size:=Nat.lt_of_le_of_lt (Nat.zero_le _) (hG _ List.mem_cons_self).1
theorem bool_elem {fuel:Nat} {cs:List Value} {y:DataW H × List MemPlace} (h:DataW.trod enc Tryz.prog w 0 (fun _=>true) held fuel 4 cs=some y):∃ vs,VRs noRho vs cs∧vs.length=1∧∃ b,vs=[V.bool b]:=by
 obtain ⟨a,p0,_⟩:=DataW.trod_bool Tryz.underlying4 h
 subst p0
 exact ⟨[.bool a],.cons _ _ _ _ (.bool _) .nil,rfl,_,rfl⟩
theorem open_list {α:Type} {g:α→List V} {sz t e:Nat} (hsz:sz≠0) (ht:Tryz.prog.underlying t=some (.slice e)) (hc:Tryz.prog.cellsOf e=sz)
  (hel:∀ n cs y,DataW.trod enc Tryz.prog w 0 (fun _=>true) held n e cs=some y→∃ vs,VRs noRho vs cs∧vs.length=sz∧∃ a,vs=g a) {fuel:Nat} {c:Value} {y:DataW H × List MemPlace} (hd:DataW.trod enc Tryz.prog w 0 (fun _=>true) held fuel t [c]=some y)
  (ρ:Rho) (h:Heap) (r:Rel Tryz.prog w.heap.size w ρ h w) (hpos:0<w.heap.size):∃ (ρ':Rho) (h':Heap) (x:V) (l:List α),Rel Tryz.prog w.heap.size w ρ' h' w∧RLe ρ ρ'∧Grow h h'∧VR ρ' x c∧Sl h' sz x (l.map g)∧l.length≤9223372036854775807:=by
 obtain ⟨ρ',h',x,es,r',hle,gr,hv,hs,hφ,hm⟩:=open_slT hsz ht hc hd (fun _ c=>∃ a,c=g a) (fun _ _ _ _ q=>q) (fun n cs y hy ρ h r=>by
   obtain ⟨vs,q1,q2,q3⟩:=hel n cs y hy
   exact ⟨ρ,h,vs,r,fun _ _ q=>q,Grow.refl r.fresh,q1.mono (noRho_le _),q2,q3⟩) r hpos
 obtain ⟨l,rfl⟩:=list_of hφ
 rw [List.length_map] at hm
 cases hv with
 | cons _ _ _ _ hv _=>exact ⟨ρ',h',x,l,r',hle,gr,hv,hs,Nat.le_trans hm (by decide)⟩
theorem agg_each {P:Program} {t:TypeId} {fs:Array Field} {parts:List (DataW H)} (ht:P.underlying t=some (.struct fs)) (h:((DataW.agg parts).weights P t).all (·≤reachBytes)=true):(DataW.weightsEach P (fs.toList.map (·.type)) parts).all (·≤reachBytes)=true:=by
 unfold DataW.weights at h
 rw [ht] at h
 exact h
theorem each_at {P:Program} {ts:List TypeId} {ds:List (DataW H)} {j:Nat} {t:TypeId} {d:DataW H} (h:(DataW.weightsEach P ts ds).all (·≤reachBytes)=true) (ht:ts[j]? = some t) (hd:ds[j]? = some d):(d.weights P t).all (·≤reachBytes)=true :=
 List.all_eq_true.2 fun n hn=>List.all_eq_true.1 h n (DataW.weights_mem_each ht hd n hn)
theorem wf_rng {n:Int} (h:(Lit.int .i64 n).wf=true):-9223372036854775808≤n∧n≤9223372036854775807:=by
 simp [Lit.wf,IntKind.min,IntKind.max,IntKind.signed,IntKind.bits] at h
 omega
theorem str_len {b:ByteArray} (h:b.data.toList.length≤reachBytes):(strOf b).length≤1000000000000000000:=by
 have h1:(strOf b).length=b.data.toList.length:=by unfold strOf;simp
 unfold reachBytes at h
 omega
theorem open_item (hpos:0<w.heap.size) {fuel:Nat} {cs:List Value} {y:DataW H × List MemPlace} (hd:DataW.trod enc Tryz.prog w 0 (fun _=>true) held fuel 33 cs=some y) (hwt:(y.1.weights Tryz.prog 33).all (·≤reachBytes)=true) (ρ:Rho) (h:Heap) (r:Rel Tryz.prog w.heap.size w ρ h w) :
  ∃ (ρ':Rho) (h':Heap) (x:ItV) (u:V) (k:Nat),Rel Tryz.prog w.heap.size w ρ' h' w∧RLe ρ ρ'∧Grow h h'∧VRs ρ' (x.ck u) cs∧slLen u=some k∧k≤9223372036854775807∧ItIn x ∧
   (x.name.length≤1000000000000000000∧x.data.length≤1000000000000000000∧x.o.path.length≤1000000000000000000∧x.o.to.length≤1000000000000000000∧x.o.data.length≤1000000000000000000):=by
 obtain ⟨xs,n,_,hy,hl,hlen,hf⟩:=DataW.trod_struct Tryz.underlying33 hd
 subst hy
 replace hwt:=agg_each Tryz.underlying33 hwt
 have hl:cs.length=14:=hl.trans (by kernel_rfl:Tryz.prog.cellsOf 33=14)
 match cs,hl,xs,hlen with
 | [c0,c1,c2,c3,c4,c5,c6,c7,c8,c9,c10,c11,c12,c13],_,[y0,y1,y2,y3,y4,y5,y6,y7],_ =>
  have g0:DataW.trod enc Tryz.prog w 0 (fun _=>true) held n 3 [c0]=some y0:=hf 0 _ rfl
  have g1:DataW.trod enc Tryz.prog w 0 (fun _=>true) held n 24 [c1,c2,c3,c4,c5,c6]=some y1:=hf 1 _ rfl
  have g2:DataW.trod enc Tryz.prog w 0 (fun _=>true) held n 9 [c7]=some y2:=hf 2 _ rfl
  have g3:DataW.trod enc Tryz.prog w 0 (fun _=>true) held n 3 [c8]=some y3:=hf 3 _ rfl
  have g4:DataW.trod enc Tryz.prog w 0 (fun _=>true) held n 3 [c9]=some y4:=hf 4 _ rfl
  have g5:DataW.trod enc Tryz.prog w 0 (fun _=>true) held n 26 [c10,c11]=some y5:=hf 5 _ rfl
  have g6:DataW.trod enc Tryz.prog w 0 (fun _=>true) held n 9 [c12]=some y6:=hf 6 _ rfl
  have g7:DataW.trod enc Tryz.prog w 0 (fun _=>true) held n 27 [c13]=some y7:=hf 7 _ rfl
  obtain ⟨xo,n2,_,ho,_,hlen2,hf2⟩:=DataW.trod_struct Tryz.underlying24 g1
  obtain ⟨xl,n3,_,_,_,hlen3,hf3⟩:=DataW.trod_struct Tryz.underlying26 g5
  match xo,hlen2,xl,hlen3 with
  | [z0,z1,z2,z3,z4,z5],_,[t0,t1],_ =>
   have k0:DataW.trod enc Tryz.prog w 0 (fun _=>true) held n2 3 [c1]=some z0:=hf2 0 _ rfl
   have k1:DataW.trod enc Tryz.prog w 0 (fun _=>true) held n2 9 [c2]=some z1:=hf2 1 _ rfl
   have k2:DataW.trod enc Tryz.prog w 0 (fun _=>true) held n2 9 [c3]=some z2:=hf2 2 _ rfl
   have k3:DataW.trod enc Tryz.prog w 0 (fun _=>true) held n2 3 [c4]=some z3:=hf2 3 _ rfl
   have k4:DataW.trod enc Tryz.prog w 0 (fun _=>true) held n2 3 [c5]=some z4:=hf2 4 _ rfl
   have k5:DataW.trod enc Tryz.prog w 0 (fun _=>true) held n2 9 [c6]=some z5:=hf2 5 _ rfl
   have l0:DataW.trod enc Tryz.prog w 0 (fun _=>true) held n3 3 [c10]=some t0:=hf3 0 _ rfl
   have l1:DataW.trod enc Tryz.prog w 0 (fun _=>true) held n3 3 [c11]=some t1:=hf3 1 _ rfl
   obtain ⟨a0,p0,_,_⟩:=DataW.trod_int Tryz.underlying3 g0
   obtain ⟨a2,p2,e2,_⟩:=DataW.trod_string Tryz.underlying9 g2
   obtain ⟨a3,p3,_,w3⟩:=DataW.trod_int Tryz.underlying3 g3
   obtain ⟨a4,p4,_,w4⟩:=DataW.trod_int Tryz.underlying3 g4
   obtain ⟨a6,p6,e6,_⟩:=DataW.trod_string Tryz.underlying9 g6
   obtain ⟨b0,q0,_,_⟩:=DataW.trod_int Tryz.underlying3 k0
   obtain ⟨b1,q1,f1,_⟩:=DataW.trod_string Tryz.underlying9 k1
   obtain ⟨b2,q2,f2,_⟩:=DataW.trod_string Tryz.underlying9 k2
   obtain ⟨b3,q3,_,x3⟩:=DataW.trod_int Tryz.underlying3 k3
   obtain ⟨b4,q4,_,x4⟩:=DataW.trod_int Tryz.underlying3 k4
   obtain ⟨b5,q5,f5,_⟩:=DataW.trod_string Tryz.underlying9 k5
   obtain ⟨d0,s0,_,v0⟩:=DataW.trod_int Tryz.underlying3 l0
   obtain ⟨d1,s1,_,v1⟩:=DataW.trod_int Tryz.underlying3 l1
   obtain ⟨ρ1,h1,u,us,r1,le1,gr1,hv1,sl1,hk1⟩:=open_list (g:=fun b=>[V.bool b]) (sz:=1) (by decide) Tryz.underlying27 (by kernel_rfl) (fun _ _ _ q=>bool_elem q) g7 ρ h r hpos
   cases p0;cases p2;cases p3;cases p4;cases p6;cases q0;cases q1;cases q2;cases q3;cases q4;cases q5;cases s0;cases s1
   subst e2 e6 f1 f2 f5 ho
   have wo:=agg_each Tryz.underlying24 (each_at (j:=1) hwt rfl rfl)
   have s2:=sized_string (j:=2) hwt rfl rfl
   have s6:=sized_string (j:=6) hwt rfl rfl
   have o1:=sized_string (j:=1) wo rfl rfl
   have o2:=sized_string (j:=2) wo rfl rfl
   have o5:=sized_string (j:=5) wo rfl rfl
   refine ⟨ρ1,h1,⟨a0,⟨b0,strOf b1,strOf b2,b3,b4,strOf b5⟩,strOf a2,a3,a4,d0,d1,strOf a6⟩,u,us.length,r1,le1,gr1,?_,by have:=sl1.len;simpa using this,hk1,⟨⟨byt_strOf _,byt_strOf _,byt_strOf _,byt_strOf _,byt_strOf _⟩,wf_rng w3,wf_rng w4,wf_rng v0,wf_rng v1,wf_rng x3,wf_rng x4⟩,str_len s2,str_len s6,str_len o1,str_len o2,str_len o5⟩
   exact .cons _ _ _ _ (.int _ _) (.cons _ _ _ _ (.int _ _) (.cons _ _ _ _ (.str _ _ rfl) (.cons _ _ _ _ (.str _ _ rfl) (.cons _ _ _ _ (.int _ _) (.cons _ _ _ _ (.int _ _) (.cons _ _ _ _ (.str _ _ rfl) (.cons _ _ _ _ (.str _ _ rfl) (.cons _ _ _ _ (.int _ _) (.cons _ _ _ _ (.int _ _) (.cons _ _ _ _ (.int _ _) (.cons _ _ _ _ (.int _ _) (.cons _ _ _ _ (.str _ _ rfl) (.cons _ _ _ _ hv1 .nil)))))))))))))
end
end Abs
end Go.Proofs.YthgcjbniipfnbaaGreatDoor
