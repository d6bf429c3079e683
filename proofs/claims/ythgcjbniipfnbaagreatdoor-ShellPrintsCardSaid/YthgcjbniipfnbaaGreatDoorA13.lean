/- The abstract machine's indexing, copies, conversions and maps are the model's. The abstract machine's makes, conversions and maps are the model's. The abstract machine's steps over unsafe: a builder's own address, its bytes as a string. The abstract machine's operations are the model's: all that calls nothing. The abstract machine's new blocks are the model's. -/
import Derived.Test.YthgcjbniipfnbaaGreatDoorA9
import Derived.Laws.MakeOwn
import Derived.Laws.BytesString
import Derived.Lib.ConvBytes
import Derived.Laws.IdiomMaps
import Derived.MapKept
import Derived.Lib.UnsafeStr
import Derived.Lib.Builder
import Derived.Maps.RangeRun
namespace Go.Proofs.YthgcjbniipfnbaaGreatDoor
namespace Abs
set_option linter.unusedVariables false
set_option linter.unusedSimpArgs false
open Go.RowKit
section
variable {P:Program} {B:Nat} {w0 w:World} {ρ:Rho} {h:Heap}
theorem lj (s:ByteArray) (l hh:Nat):strOf (s.extract l hh)=((strOf s).drop l).take (hh-l):=by
 simp [strOf,ByteArray.data_extract,List.extract_eq_take_drop,List.map_take,List.map_drop]
theorem nf {len:Nat} {lo hi:Option V} {l hh:Nat} (hb:ye len len lo hi=some (l,hh)) {isSl:Bool} {ulo uhi:Option Value} (h1:VRo ρ lo ulo) (h2:VRo ρ hi uhi) :
  (Instr.sliceBounds isSl len len ulo uhi none).run P w=.ok (l,hh,len) w∧l≤hh∧hh≤len:=te hb (Nat.le_refl _) (Nat.le_refl _) h1 h2
theorem nL {t:TypeId} (ht:P.underlying t=some .string) {x v:V} {lo hi:Option V} (hv:xr x lo hi=some v) {ux:Value} {ulo uhi:Option Value}
  (hx:VR ρ x ux) (h1:VRo ρ lo ulo) (h2:VRo ρ hi uhi):∃ u,(Instr.sliceAt t ux ulo uhi none).run P w=.ok u w∧VR ρ v u:=by
 unfold xr at hv
 split at hv
 ·rename_i s
  cases hx with
  | str b _ hs =>
  subst hs
  have hl:(strOf b).length=b.size:=by simp [strOf]
  rw [hl] at hv
  split at hv
  ·rename_i l hh hb
   cases hv
   obtain ⟨q1,q2,q3⟩:=nf (P:=P) (w:=w) (isSl:=false) hb h1 h2
   exact ⟨.string (b.extract l hh),by simp only [Instr.sliceAt,Sem.run_bind,zd ht,Result.andThen_ok,Instr.slice,Option.isSome_none,Bool.false_eq_true,if_false,Sem.run_pure,q1],.str _ _ (lj b l hh).symm⟩
  ·cases hv
 ·cases hv
theorem nM {t e:TypeId} {n sz:Nat} (ht:P.underlying t=some (.array n e)) (hs:zF P e=some sz) {x v:V} {lo hi:Option V} (hv:uH n sz x lo hi=some v) {ux:Value} {ulo uhi:Option Value}
  (hx:VR ρ x ux) (h1:VRo ρ lo ulo) (h2:VRo ρ hi uhi):∃ u,(Instr.sliceAt t ux ulo uhi none).run P w=.ok u w∧VR ρ v u:=by
 unfold uH at hv
 split at hv
 ·rename_i b o
  cases hx with
  | ptr _ _ em a he ha =>
  split at hv
  ·rename_i l hh hb
   cases hv
   obtain ⟨q1,q2,q3⟩:=nf (P:=P) (w:=w) (isSl:=false) hb h1 h2
   refine ⟨.slice (some (if n=l then a else a.add (l*sz))) (hh-l) (n-l),by simp only [Instr.sliceAt,Sem.run_bind,zd ht,Result.andThen_ok,Instr.sureAddr,q1,yb hs,Sem.run_pure],?_⟩
   refine .slice _ _ _ _ em _ he (fun hne=>?_) (by omega)
   rw [if_neg (by omega),ha,ym]
  ·cases hv
 ·cases hv
theorem i6 {t e:TypeId} {sz:Nat} (ht:P.underlying t=some (.slice e)) (hs:zF P e=some sz) {x i v:V} (hv:yw sz x i=some v) {ux ui:Value} (hx:VR ρ x ux) (hi:VR ρ i ui) :
  ∃ u,(Instr.indexAt t ux ui).run P w=.ok u w∧VR ρ v u:=by
 unfold yw at hv
 split at hv
 ·rename_i n hn
  obtain ⟨k,rfl⟩:=xS hn hi
  split at hv
  ·rename_i b o len cap
   cases hx with
   | slice _ _ _ _ em a he ha hl =>
   split at hv
   ·rename_i hk
    cases hv
    refine ⟨.pointer (some (a.add (n.toNat*sz))),?_,.ptr _ _ em _ he (by rw [ha (by omega),ym])⟩
    simp only [Instr.indexAt,asIntOf,Sem.run_bind,Sem.run_pure,Result.andThen_ok,zd ht,hk,and_self,if_true,yb hs]
   ·cases hv
  ·rename_i b o len cap z
   cases hx with
   | oslice _ _ _ _ _ cap' em a he ha hl hc =>
   split at hv
   ·rename_i hk
    cases hv
    refine ⟨.pointer (some (a.add (n.toNat*sz))),?_,.ptr _ _ em _ he (by rw [(ha (by omega)).1,ym])⟩
    simp only [Instr.indexAt,asIntOf,Sem.run_bind,Sem.run_pure,Result.andThen_ok,zd ht,hk,and_self,if_true,yb hs]
   ·cases hv
  ·cases hv
 ·cases hv
theorem jb {t e:TypeId} {n sz:Nat} (ht:P.underlying t=some (.array n e)) (hs:zF P e=some sz) {x i v:V} (hv:wb n sz x i=some v) {ux ui:Value} (hx:VR ρ x ux) (hi:VR ρ i ui) :
  ∃ u,(Instr.indexAt t ux ui).run P w=.ok u w∧VR ρ v u:=by
 unfold wb at hv
 split at hv
 ·rename_i m b o hn
  obtain ⟨k,rfl⟩:=xS hn hi
  cases hx with
  | ptr _ _ em a he ha =>
  split at hv
  ·rename_i hk
   cases hv
   refine ⟨.pointer (some (a.add (m.toNat*sz))),?_,.ptr _ _ em _ he (by rw [ha,ym])⟩
   simp only [Instr.indexAt,asIntOf,Sem.run_bind,Sem.run_pure,Result.andThen_ok,zd ht,Instr.sureAddr,hk,and_self,if_true,yb hs]
  ·cases hv
 ·cases hv
theorem ip {t:TypeId} (ht:P.underlying t=some .string) {x i v:V} (hv:xF x i=some v) {ux ui:Value} (hx:VR ρ x ux) (hi:VR ρ i ui) :
  ∃ u,(Instr.index t ux ui).run P w=.ok u w∧VR ρ v u:=by
 unfold xF at hv
 split at hv
 ·rename_i s n hn
  obtain ⟨k,rfl⟩:=xS hn hi
  cases hx with
  | str b _ hs =>
  subst hs
  split at hv
  ·rename_i h0
   split at hv
   ·rename_i c hc
    cases hv
    have hc':∃ d,b[n.toNat]? = some d∧d.toNat=c:=by
     simp only [strOf,List.getElem?_map,Option.map_eq_some_iff] at hc
     obtain ⟨d,hd,rfl⟩:=hc
     refine ⟨d,?_,rfl⟩
     have hlt:n.toNat<b.size:=by
      have:=(List.getElem?_eq_some_iff.1 hd).1
      simpa using this
     show (if hh:n.toNat<b.size then some (b[n.toNat]'hh) else none)=some d
     rw [dif_pos hlt]
     have:=(List.getElem?_eq_some_iff.1 hd).2
     rw [←this]
     rfl
    obtain ⟨d,hd,rfl⟩:=hc'
    refine ⟨_,?_,.int _ _⟩
    simp only [Instr.index,asIntOf,Sem.run_bind,Sem.run_pure,Result.andThen_ok,zd ht,h0,if_true,hd]
   ·cases hv
  ·cases hv
 ·cases hv
theorem iq {t e:TypeId} {n sz:Nat} {g:Option Nat} (ht:P.underlying t=some (.array n e)) (hs:zF P e=some sz) (hg:wD P e=some g) {x i v:V} (hv:ni n sz g x i=some v) {ux ui:Value} (hx:VR ρ x ux) (hi:VR ρ i ui) :
  ∃ u,(Instr.index t ux ui).run P w=.ok u w∧VR ρ v u:=by
 unfold ni at hv
 split at hv
 ·rename_i cs m hn
  obtain ⟨k,rfl⟩:=xS hn hi
  cases hx with
  | agg _ a ha =>
  split at hv
  ·rename_i hk
   obtain ⟨u,q1,q2⟩:=vT (P:=P) (w:=w) hg ha hv
   refine ⟨u,?_,q2⟩
   simp only [Instr.index,asIntOf,Sem.run_bind,Sem.run_pure,Result.andThen_ok,zd ht,hk,and_self,if_true,yb hs,q1]
  ·cases hv
 ·cases hv
theorem va {x:V} {n:Nat} (hn:zw x=some n) {ux:Value} (hx:VR ρ x ux):∃ A c,ux=.slice A n c:=by
 cases hx <;> simp only [zw,Option.some.injEq] at hn <;> first | (cases hn;done) | (subst hn;exact ⟨_,_,rfl⟩)
theorem ft (r:Rel P B w0 ρ h w) {t u e ty:TypeId} {sz:Nat} (ht:P.underlying t=some (.slice e)) (hs:zF P e=some sz) {x y v:V} {h':Heap} (hv:lC h sz x y=some (v,h')) {ux uy:Value} (hx:VR ρ x ux) (hy:VR ρ y uy) :
  ∃ uv w',(Builtin.copy_ #[t,u] ty #[ux,uy]).run P w=.ok uv w'∧VR ρ v uv∧Rel P B w0 ρ h' w':=by
 unfold lC at hv
 split at hv
 ·rename_i n m hn hm
  split at hv
  ·rename_i items hi
   obtain ⟨us,q1,q2⟩:=xa (P:=P) r hi hy ⟨m,hm,Nat.min_le_left _ _⟩
   obtain ⟨A,c,rfl⟩:=va hn hx
   obtain ⟨A2,c2,rfl⟩:=va hm hy
   have hrun:∀ w',(match A with | some a=>(storeCells a us).run P w=.ok () w' | none=>w'=w) →
     (Builtin.copy_ #[t,u] ty #[.slice A n c,.slice A2 m c2]).run P w=.ok (.int .i64 (min m n:Nat)) w':=by
    intro w' hw
    have q2':(Builtin.firstCells sz (Nat.min m n) (.slice A2 m c2)).run P w=.ok us.toArray w:=q2
    cases A with
    | none =>
     subst hw
     simp only [Builtin.copy_,List.getElem?_toArray,List.getElem?_cons_zero,List.getElem?_cons_succ,Sem.run_bind,zd ht,Result.andThen_ok,Builtin.lenOf,Sem.run_pure,yb hs,q2',goInt]
    | some a =>
     simp only at hw
     simp only [Builtin.copy_,List.getElem?_toArray,List.getElem?_cons_zero,List.getElem?_cons_succ,Sem.run_bind,zd ht,Result.andThen_ok,Builtin.lenOf,Sem.run_pure,yb hs,q2',goInt,hw]
   have hus0:min m n=0→us=[]:=by
    intro h0
    have:items=[]:=by
     unfold zR at hi
     split at hi
     ·cases hi;rfl
     ·rw [if_pos h0] at hi;cases hi;rfl
     ·rw [if_pos h0] at hi;cases hi;rfl
     ·cases hi
    subst this
    cases q1;rfl
   split at hv
   ·rename_i b o l c'
    cases hx with
    | slice _ _ _ _ em a he ha hl =>
    split at hv
    ·rename_i h0
     cases hv
     refine ⟨_,w,hrun w ?_,by rw [h0];exact .int _ _,r⟩
     simp only [hus0 h0];rfl
    ·rename_i h0
     split at hv
     ·rename_i h2 hw
      cases hv
      obtain ⟨w',g1,g2⟩:=r.wr (P:=P) hw he q1
      refine ⟨_,w',hrun w' ?_,.int _ _,g2⟩
      rw [ha (by omega)];exact g1
     ·cases hv
   ·rename_i b o l c' z
    cases hx with
    | oslice _ _ _ _ _ cap' em a he ha hl hc =>
    split at hv
    ·rename_i h0
     cases hv
     refine ⟨_,w,hrun w ?_,by rw [h0];exact .int _ _,r⟩
     simp only [hus0 h0];rfl
    ·rename_i h0
     split at hv
     ·rename_i h2 hw
      cases hv
      obtain ⟨w',g1,g2⟩:=r.wr (P:=P) hw he q1
      refine ⟨_,w',hrun w' ?_,.int _ _,g2⟩
      rw [(ha (by omega)).1];exact g1
     ·cases hv
   ·cases hx
    cases hv
    exact ⟨_,w,hrun w rfl,.int _ _,r⟩
   ·cases hv
  ·cases hv
 ·cases hv
theorem wu (z:Array Value):∀ n:Nat,(Builtin.zeroCells z n).toList=(List.replicate n z.toList).flatten
 | 0=>by simp [Builtin.zeroCells]
 | n+1=>by
  have ih:=wu z n
  simp only [Builtin.zeroCells,Array.toList_map,Array.toList_range] at ih ⊢
  rw [Nat.add_mul,Nat.one_mul,List.range_add,List.map_append,ih,List.replicate_succ',List.flatten_append]
  congr 1
  apply List.ext_getElem?
  intro i
  by_cases hi:i<z.size
  ·have:(n*z.size+i) % z.size=i:=by rw [Nat.mul_comm,Nat.mul_add_mod,Nat.mod_eq_of_lt hi]
   simp [hi,this]
  ·simp [hi]
theorem tS {zs:List V} {z:Array Value} (hz:VRs ρ zs z.toList):∀ n:Nat,VRs ρ (tT n zs) (List.replicate n z.toList).flatten
 | 0=>.nil
 | n+1=>by
  rw [List.replicate_succ,List.flatten_cons]
  exact hz.append (tS hz n)
theorem ij (r:Rel P B w0 ρ h w) {t e ty:TypeId} {sz:Nat} {zs:List V} (ht:P.underlying t=some (.slice e)) (hs:zF P e=some sz) (hz:wL P e=some zs) {x v:V} {h':Heap} (hv:rZ h sz zs x=some (v,h')) {ux:Value} (hx:VR ρ x ux) :
  ∃ uv w',(Builtin.clear_ #[t] ty #[ux]).run P w=.ok uv w'∧VR ρ v uv∧Rel P B w0 ρ h' w':=by
 obtain ⟨z,hzv,hzr⟩:=xP hz
 unfold rZ at hv
 split at hv
 ·cases hv
 ·rename_i hn
  cases hv
  obtain ⟨A,c,rfl⟩:=va hn hx
  refine ⟨.tuple #[],w,?_,.tuple _ _ .nil,r⟩
  cases A <;> simp [Builtin.clear_,zd ht]
 ·rename_i n hn0 hn
  obtain ⟨A,c,rfl⟩:=va hn hx
  have hnz:n≠0:=fun h0=>by subst h0;exact hn0 rfl
  have hcs:VRs ρ (tT n zs) (Builtin.zeroCells z.cells n).toList:=by rw [wu];exact tS (hzr ρ) n
  obtain ⟨n',rfl⟩:∃ m,n=m+1:=⟨n-1,by omega⟩
  split at hv
  ·rename_i b o l c'
   cases hx with
   | slice _ _ _ _ em a he ha hl =>
   split at hv
   ·rename_i h2 hw
    cases hv
    obtain ⟨w',g1,g2⟩:=r.wr (P:=P) hw he hcs
    refine ⟨.tuple #[],w',?_,.tuple _ _ .nil,g2⟩
    rw [ha (by omega)]
    simp [Builtin.clear_,zd ht,xw hzv,g1]
   ·cases hv
  ·rename_i b o l c' zz
   cases hx with
   | oslice _ _ _ _ _ cap' em a he ha hl hc =>
   split at hv
   ·rename_i h2 hw
    cases hv
    obtain ⟨w',g1,g2⟩:=r.wr (P:=P) hw he hcs
    refine ⟨.tuple #[],w',?_,.tuple _ _ .nil,g2⟩
    rw [(ha (by omega)).1]
    simp [Builtin.clear_,zd ht,xw hzv,g1]
   ·cases hv
  ·cases hv
end
end Abs
end Go.Proofs.YthgcjbniipfnbaaGreatDoor
namespace Go.Proofs.YthgcjbniipfnbaaGreatDoor
namespace Abs
set_option linter.unusedVariables false
set_option linter.unusedSimpArgs false
open Go.RowKit
section
variable {P:Program} {B:Nat} {w0 w:World} {ρ:Rho} {h:Heap}
theorem Rel.lay' (r:Rel P B w0 ρ h w) {b:Nat} {o:Obj} (hb:ρ b=none) (hlt:b<h.size) (hg:h.get b=some o) (ob:Go.Obj) (lim:Nat) {w':World}
  (hsz:w'.heap.size=w.heap.size+1) (hold:∀ k,k<w.heap.size→w'.heap[k]? = w.heap[k]?) (hnew:w'.heap[w.heap.size]? = some ob) (hbel:Below w.heap.size w w')
  (hrel:ORel P B (Rho.with_ ρ b ⟨w.heap.size,0,lim⟩) w' ⟨w.heap.size,0,lim⟩ o):Rel P B w0 (Rho.with_ ρ b ⟨w.heap.size,0,lim⟩) h w':=by
 have e1:∀ k:Nat,w'.heap[k]? = (w.alloc ob).heap[k]?:=by
  intro k
  show _=(w.heap.push ob)[k]?
  rw [Array.getElem?_push]
  by_cases hk:k=w.heap.size
  ·rw [if_pos hk,hk];exact hnew
  ·rw [if_neg hk]
   by_cases hlt:k<w.heap.size
   ·exact hold k hlt
   ·rw [Array.getElem?_eq_none (by omega),Array.getElem?_eq_none (by omega)]
 have r1:=r.lay hb hlt hg ob lim (hrel.heap (e1 _).symm)
 exact ⟨r1.dom,fun x e hx=>let ⟨o',q1,q2⟩:=r1.obj x e hx;⟨o',q1,q2.heap (e1 _)⟩,r1.sep,
  fun x e o' h1 h2 h3=>by have:=r1.live x e o' h1 h2 h3;simp at this;omega,r1.fresh,
  r.below.trans ⟨hbel.os,hbel.tape,hbel.output,hbel.size,fun k hk=>hbel.block k (Nat.lt_of_lt_of_le hk r.base)⟩,by have:=r.base;omega,r1.glob⟩
theorem kR (r:Rel P B w0 ρ h w) {t e:TypeId} {sz bytes:Nat} {zs:List V} (ht:P.underlying t=some (.slice e)) (hs:zF P e=some sz) (hb:vF P e=some bytes) (hz:wL P e=some zs) (hzl:zs.length=sz)
  {l c v:V} {h':Heap} (hv:yU h sz bytes zs l c=some (v,h')) {ul uc:Value} (hl:VR ρ l ul) (hc:VR ρ c uc) :
  ∃ n m:Nat,v=.slice (some (h.size,0)) n m∧h'=h.push (.cells (tT m zs) (.tip [] 0 none))∧n≤m ∧
   ∃ (C:Array Value),(Instr.makeSlice t ul uc).run P w=.ok (.slice (some ⟨w.heap.size,0,none⟩) n m) (w.alloc (.cells C e))∧VRs ρ (tT m zs) C.toList:=by
 cases l with
 | int kl l =>
  cases c with
  | int kc c =>
   cases hl
   cases hc
   unfold yU at hv
   simp only at hv
   by_cases hk:0≤l∧l≤c∧c≤1099511627776∧c*bytes≤140737488355328
   ·rw [if_pos hk] at hv
    cases hv
    obtain ⟨z,hzv,hzr⟩:=xP hz
    obtain ⟨i,hi,rfl,rfl⟩:=nZ hs hb
    have hiz:i.zero=some z:=by unfold xk at hzv;rw [hi] at hzv;simpa using hzv
    have hzs:z.cells.size=i.size:=by
     have:=(hzr ρ).length
     simp only [Array.length_toList] at this
     omega
    refine ⟨l.toNat,c.toNat,rfl,rfl,by omega,madeCells z.cells (c.toNat*i.size),?_,?_⟩
    ·exact run_make w t e i z ht hi hiz kl kc l c hk.1 hk.2.1 (by rw [Int.mul_comm];omega) (by omega)
    ·have:(madeCells z.cells (c.toNat*i.size)).toList=(List.replicate c.toNat z.cells.toList).flatten:=by
      rw [←wu,←hzs];rfl
     rw [this]
     exact tS (hzr ρ) _
   ·rw [if_neg hk] at hv;cases hv
  | _=>simp [yU] at hv
 | _=>simp [yU] at hv
theorem qb (s:ByteArray):VRs ρ (zT (strOf s)) (s.data.map fun b=>Value.int .u8 b.toNat).toList:=by
 simp only [zT,strOf,List.map_map,Array.toList_map]
 generalize s.data.toList=l
 induction l with
 | nil=>exact .nil
 | cons x l ih=>exact .cons _ _ _ _ (.int _ _) ih
theorem mY (r:Rel P B w0 ρ h w) {src dst e:TypeId} {b:Nat} (hs:P.underlying src=some .string) (hd:P.underlying dst=some (.slice e)) (he:P.underlying e=some (.int .u8)) {s:List Nat} {us:Value} (hx:VR ρ (.str s) us)
  (hb:ρ b=none) (hlt:b<h.size) (hg:h.get b=some (.cells (zT s) (.tip [] 0 none))) :
  ∃ (u:Value) (w':World) (em:Emb),(convert src dst us).run P w=.ok u w'∧VR (Rho.with_ ρ b em) (.oslice b 0 s.length s.length 0) u∧Rel P B w0 (Rho.with_ ρ b em) h w':=by
 cases hx with
 | str sb _ hs' =>
 subst hs'
 have hrun:=Lib.run_convert_string_bytes w src dst e sb hs hd he
 have hle:RLe ρ (Rho.with_ ρ b ⟨w.heap.size,0,(Lib.bytesCells w e sb).size⟩):=yJ hb
 have hlen:(strOf sb).length=sb.size:=by simp [strOf]
 have hcap:sb.size≤grownCap w sb.size 0 e:=grownCap_ge _ _ _ _
 refine ⟨_,_,⟨w.heap.size,0,(Lib.bytesCells w e sb).size⟩,hrun,?_,?_⟩
 ·rw [hlen]
  exact .oslice _ _ _ _ _ _ _ _ zU (fun _=>⟨by simp [at_],.inl rfl⟩) (Nat.le_refl _) hcap
 ·refine r.lay' hb hlt hg _ _ (Lib.bytesWorld_size w e sb) (fun k hk=>Lib.bytesWorld_at_old w e sb k hk) (Lib.bytesWorld_at_new w e sb)
   ⟨?_,?_,?_,by rw [Lib.bytesWorld_size];omega,fun k hk=>Lib.bytesWorld_at_old w e sb k hk⟩ ⟨r.base,?_,⟨⟨_,_,_,Lib.bytesWorld_at_new w e sb,rfl,.inr (.inr ⟨rfl,by simp only [Lib.bytesCells];simp⟩),fun t ht=>by cases ht⟩,?_⟩⟩
  ·unfold Lib.bytesWorld World.freeze;split <;> rfl
  ·unfold Lib.bytesWorld World.freeze;split <;> rfl
  ·unfold Lib.bytesWorld World.freeze;split <;> rfl
  ·intro i v hi
   obtain ⟨u,q1,q2⟩:=(qb (ρ:=ρ) sb).get i v hi
   refine ⟨u,?_,q2.mono hle⟩
   have hin:i<sb.size:=by
    have:=(List.getElem?_eq_some_iff.1 hi).1
    simpa [zT,strOf] using this
   unfold World.cell?
   have:(Lib.bytesWorld w e sb).heap[(at_ ⟨w.heap.size,0,(Lib.bytesCells w e sb).size⟩ i).block]? = _:=Lib.bytesWorld_at_new w e sb
   rw [this]
   show (Lib.bytesCells w e sb)[0+i]? = some u
   rw [Nat.zero_add]
   unfold Lib.bytesCells
   rw [Array.getElem?_append_left (by simpa using hin)]
   simpa using q1
  ·simp only [zT,List.length_map,hlen,Nat.zero_add]
   unfold Lib.bytesCells
   simp
theorem sO:∀ {cs:List V} {l:List Nat},u8s cs=some l→∀ {us:List Value},VRs ρ cs us→∃ ns:List Int,us=ns.map (Value.int .u8)∧l=ns.map fun n=>n.toNat % 256
 | [],l,h,us,hv=>by cases h;cases hv;exact ⟨[],rfl,rfl⟩
 | .int .u8 n::r,l,h,us,hv=>by
  unfold u8s at h
  split at h
  ·rename_i l' hl'
   cases h
   cases hv with
   | cons _ u _ us hu ht =>
   cases hu
   obtain ⟨ns,q1,q2⟩:=sO hl' ht
   exact ⟨n::ns,by rw [q1];rfl,by rw [q2];rfl⟩
  ·cases h
 | .int .i8 _::_,_,h,_,_ | .int .i16 _::_,_,h,_,_ | .int .i32 _::_,_,h,_,_ | .int .i64 _::_,_,h,_,_ | .int .u16 _::_,_,h,_,_ | .int .u32 _::_,_,h,_,_ | .int .u64 _::_,_,h,_,_
 | .bool _::_,_,h,_,_ | .str _::_,_,h,_,_ | .ptr _::_,_,h,_,_ | .slice ..::_,_,h,_,_ | .oslice ..::_,_,h,_,_ | .map _::_,_,h,_,_ | .func ..::_,_,h,_,_ | .nilFunc::_,_,h,_,_ | .iface ..::_,_,h,_,_ | .nilIface::_,_,h,_,_
 | .agg _::_,_,h,_,_ | .tuple _::_,_,h,_,_=>by simp [u8s] at h
theorem tV:∀ (ns:List Int) (s:ByteArray),strOf (ns.foldl (fun r n=>r.push (UInt8.ofNat n.toNat)) s)=strOf s++ns.map fun n=>n.toNat % 256
 | [],s=>by simp
 | n::ns,s=>by
  rw [List.foldl_cons,tV ns]
  simp [strOf,ByteArray.push]
theorem jJ (r:Rel P B w0 ρ h w) {src dst e:TypeId} (hs:P.underlying src=some (.slice e)) (he:P.underlying e=some (.int .u8)) (hd:P.underlying dst=some .string) {x v:V} (hv:yW h x=some v) {ux:Value} (hx:VR ρ x ux) :
  ∃ u,(convert src dst ux).run P w=.ok u w∧VR ρ v u:=by
 unfold yW at hv
 split at hv
 ·rename_i n hn
  split at hv
  ·rename_i cs hc
   split at hv
   ·rename_i l hl
    cases hv
    obtain ⟨us,q1,q2⟩:=xa (P:=P) r hc hx ⟨n,hn,Nat.le_refl _⟩
    obtain ⟨ns,g1,g2⟩:=sO hl q1
    obtain ⟨A,c,rfl⟩:=va hn hx
    rw [run_convert_bytes_string w src dst e A n c hs he hd]
    cases A with
    | none =>
     refine ⟨.string .empty,rfl,.str _ _ ?_⟩
     have:us=[]:=by
      simp only [Builtin.firstCells,Sem.run_pure,Result.ok.injEq,and_true] at q2
      have:=congrArg Array.toList q2
      simpa using this.symm
     subst this
     have:ns=[]:=List.map_eq_nil_iff.1 g1.symm
     subst this
     rw [g2];rfl
    | some a =>
     simp only [Builtin.firstCells,Nat.mul_one] at q2
     rw [g1] at q2
     rw [run_bytesToString w a n c ns q2]
     refine ⟨_,rfl,.str _ _ ?_⟩
     rw [tV,g2]
     rfl
   ·cases hv
  ·cases hv
 ·cases hv
/-! ### Maps -/
def qh (k:FK) (d:TypeDesc):Prop :=
 match k with
 | .int=>∃ i,d=.int i
 | .str=>d=.string
 | .bool=>d=.bool
 | _=>False
theorem qD {t:TypeId} {kk:FK} (hk:t8 P t=some kk):∃ d,P.underlying t=some d∧qh kk d:=by
 unfold t8 at hk
 split at hk
 ·rename_i i hu;cases hk;exact ⟨_,hu,⟨i,rfl⟩⟩
 ·rename_i hu;cases hk;exact ⟨_,hu,rfl⟩
 ·rename_i hu;cases hk;exact ⟨_,hu,rfl⟩
 ·cases hk
theorem gE {kk:FK} {d:TypeDesc} (hd:qh kk d) {x y:V} (hs:xe kk x y=true) {ux uy:Value} (hx:VR ρ x ux) (hy:VR ρ y uy):Instr.sameNow d ux uy=some (V.beq x y):=by
 unfold xe at hs
 split at hs
 ·obtain ⟨i,rfl⟩:=hd
  cases hx;cases hy
  have hk:=of_decide_eq_true hs
  subst hk
  simp [Instr.sameNow,V.beq]
 ·cases hd
  cases hx with
  | str s _ hs1 =>
  cases hy with
  | str s' _ hs2 =>
  subst hs1 hs2
  simp only [Instr.sameNow,V.beq]
  rw [beq_toListBytes,ls]
 ·cases hd
  cases hx;cases hy
  simp [Instr.sameNow,V.beq]
 ·cases hs
theorem wR {kk:FK} {d:TypeDesc} (hd:qh kk d) {k:V} {uk:Value} (hk:VR ρ k uk):∀ {es:List (V × V)} {ces:List MapEntry} (hm:MR ρ es ces) (hok:(es.all fun e=>xe kk k e.1)=true) (n:Nat),
  (xA k es=none∧Instr.findNow d uk ces n=some none∧(∀ v,vK k v es=es++[(k,v)])∧pY k es=es∧∀ bs,rX k es bs=bs) ∨
  (∃ i m a v,Instr.findNow d uk ces n=some (some (n+i,m.val))∧ces[i]? = some m∧es[i]? = some (a,v)∧V.beq k a=true∧xA k es=some v∧VR ρ v m.val∧(∀ v',vK k v' es=es.set i (k,v'))∧pY k es=es.eraseIdx i∧∀ bs,rX k es bs=bs.eraseIdx i∧qJ k es bs=bs[i]?)
 | [],[],hm,hok,n=>.inl ⟨rfl,rfl,fun _=>rfl,rfl,fun bs=>by simp [rX]⟩
 | (a,v)::es,m::ces,hm,hok,n=>by
  obtain ⟨h1,h2,h3⟩:=hm
  simp only [List.all_cons,Bool.and_eq_true] at hok
  have hs:=gE hd hok.1 hk h1
  cases hb:V.beq k a with
  | true =>
   rw [hb] at hs
   refine .inr ⟨0,m,a,v,?_,rfl,rfl,hb,?_,h2,fun v'=>?_,?_,fun bs=>?_⟩
   ·simp [Instr.findNow,hs]
   ·simp [xA,hb]
   ·simp [vK,hb]
   ·simp [pY,hb]
   ·cases bs <;> simp [rX,qJ,hb]
  | false =>
   rw [hb] at hs
   rcases wR hd hk h3 hok.2 (n+1) with ⟨q1,q2,q3,q4,q9⟩ | ⟨i,m',a',v',q1,q2,q3,q4,q5,q6,q7,q8,q9⟩
   ·refine .inl ⟨by simp [xA,hb,q1],by simp [Instr.findNow,hs,q2],fun v'=>by simp [vK,hb,q3],by simp [pY,hb,q4],fun bs=>by cases bs <;> simp [rX,hb,q9]⟩
   ·refine .inr ⟨i+1,m',a',v',?_,by simpa using q2,by simpa using q3,q4,by simp [xA,hb,q5],q6,fun v''=>by simp [vK,hb,q7],by simp [pY,hb,q8],fun bs=>by cases bs <;> simp [rX,qJ,hb,q9]⟩
    rw [show n+(i+1)=n+1+i by omega]
    simp [Instr.findNow,hs,q1]
 | [],_::_,hm,_,_=>hm.elim
 | _::_,[],hm,_,_=>hm.elim
theorem yT {kk:FK} {kt:TypeId} {d:TypeDesc} (hu:P.underlying kt=some d) (hd:qh kk d) (em:Bool) (n:Nat) (k:Value):(Instr.checkKey em (n+1) kt k).run P w=.ok () w:=by
 unfold qh at hd
 split at hd
 ·obtain ⟨i,rfl⟩:=hd
  simp only [Instr.checkKey,Sem.run_bind,zd hu,Result.andThen_ok,Sem.run_pure]
 ·subst hd
  simp only [Instr.checkKey,Sem.run_bind,zd hu,Result.andThen_ok,Sem.run_pure]
 ·subst hd
  simp only [Instr.checkKey,Sem.run_bind,zd hu,Result.andThen_ok,Sem.run_pure]
 ·exact hd.elim
theorem wk (r:Rel P B w0 ρ h w) {b:Nat} {e:Emb} {es:List (V × V)} {bs:List Nat} {cl:Nat} (hb:ρ b=some e) (hg:h.get b=some (.map es bs cl)):∃ ces,w.heap[e.blk]? = some (.map ces cl)∧MR ρ es ces.toList∧bs=ces.toList.map MapEntry.born:=by
 obtain ⟨o,h1,h2⟩:=r.obj b e hb
 rw [hg] at h1
 cases h1
 exact h2.2
theorem yD {b:Nat} {ces:Array MapEntry} {clock:Nat} (hh:w.heap[b]? = some (.map ces clock)):(getObj b).run P w=.ok (.map ces clock) w:=by
 simp only [getObj,Sem.run,hh]
theorem xx {b:Nat} {ces:Array MapEntry} {clock:Nat} (hh:w.heap[b]? = some (.map ces clock)) (o:Go.Obj):(setObj b o).run P w=.ok () { w with heap:=w.heap.setIfInBounds b o }:=by
 simp only [setObj,Sem.run,hh]
theorem kT (r:Rel P B w0 ρ h w) {t kt et:TypeId} {kk:FK} {z:Value} {zv:V} {ok:Bool} (ht:P.underlying t=some (.map kt et)) (hk:t8 P kt=some kk) (hz:xk P et=some z) (hzv:ofV z=some zv)
  {m k v:V} (hv:wH h kk zv ok m k=some v) {um uk:Value} (hm:VR ρ m um) (hkr:VR ρ k uk):∃ u,(Instr.lookup t um uk ok).run P w=.ok u w∧VR ρ v u:=by
 obtain ⟨d,hu,hd⟩:=qD hk
 have fin:∀ (es:List (V × V)) (ces:List MapEntry),MR ρ es ces→xR kk k es=true →
   ((Instr.findKey kt uk ces).run P w=.ok none w∧xA k es=none)∨(∃ i u v,(Instr.findKey kt uk ces).run P w=.ok (some (i,u)) w∧xA k es=some v∧VR ρ v u):=by
  intro es ces hmr hok
  unfold xR at hok
  simp only [Bool.and_eq_true] at hok
  rcases wR hd hkr hmr hok.2 0 with ⟨q1,q2,_,_,_⟩ | ⟨i,m',a',v',q1,q2,q3,q4,q5,q6,_,_,_⟩
  ·exact .inl ⟨by simp only [Instr.findKey,Sem.run_bind,zd hu,Result.andThen_ok,q2,Sem.run_pure],q1⟩
  ·exact .inr ⟨0+i,_,_,by simp only [Instr.findKey,Sem.run_bind,zd hu,Result.andThen_ok,q1,Sem.run_pure],q5,q6⟩
 have out:∀ (v:V) (u:Value) (b:Bool),VR ρ v u→VR ρ (if ok=true then V.tuple [v,.bool b] else v) (if ok=true then Value.tuple #[u,.bool b] else u):=by
  intro v u b hvu
  cases ok
  ·exact hvu
  ·exact .tuple _ _ (.cons _ _ _ _ hvu (.cons _ _ _ _ (.bool _) .nil))
 unfold wH at hv
 split at hv
 ·rename_i es hes
  split at hv
  ·rename_i hok
   cases hv
   unfold qA at hes
   split at hes
   ·cases hes
    cases hm
    rcases fin [] [] trivial hok with ⟨q1,q2⟩ | ⟨i,u,v,q1,q2,q3⟩
    ·refine ⟨_,?_,by rw [q2];exact out _ _ _ (vA ρ hzv)⟩
     simp only [Instr.lookup,Sem.run_bind,zd ht,Result.andThen_ok,Sem.run_pure,yT hu hd,q1,xw hz]
     rfl
    ·cases q2
   ·rename_i b
    split at hes
    ·rename_i es' bs cl hg
     cases hes
     cases hm with
     | map _ e rr he hr =>
     subst hr
     obtain ⟨ces,g1,g2,_⟩:=wk r he hg
     rcases fin es ces.toList g2 hok with ⟨q1,q2⟩ | ⟨i,u,v,q1,q2,q3⟩
     ·refine ⟨_,?_,by rw [q2];exact out _ _ _ (vA ρ hzv)⟩
      simp only [Instr.lookup,Sem.run_bind,zd ht,Result.andThen_ok,yD g1,Sem.run_pure,yT hu hd,q1,xw hz]
      rfl
     ·refine ⟨_,?_,by rw [q2];exact out _ _ _ q3⟩
      simp only [Instr.lookup,Sem.run_bind,zd ht,Result.andThen_ok,yD g1,Sem.run_pure,yT hu hd,q1]
      rfl
    ·cases hes
   ·cases hes
  ·cases hv
 ·cases hv
theorem MR.append:∀ {x:List (V × V)} {y:List MapEntry} {k v:V} {m:MapEntry},MR ρ x y→VR ρ k m.key→VR ρ v m.val→MR ρ (x++[(k,v)]) (y++[m])
 | [],[],_,_,_,_,h1,h2=>⟨h1,h2,trivial⟩
 | (a,b)::x,n::y,_,_,_,h,h1,h2=>⟨h.1,h.2.1,MR.append h.2.2 h1 h2⟩
 | [],_::_,_,_,_,h,_,_=>h.elim
 | _::_,[],_,_,_,h,_,_=>h.elim
theorem MR.set:∀ {x:List (V × V)} {y:List MapEntry} {k v:V} {m:MapEntry} (i:Nat),MR ρ x y→VR ρ k m.key→VR ρ v m.val→MR ρ (x.set i (k,v)) (y.set i m)
 | [],[],_,_,_,_,_,_,_=>trivial
 | (a,b)::x,n::y,_,_,_,0,h,h1,h2=>⟨h1,h2,h.2.2⟩
 | (a,b)::x,n::y,_,_,_,i+1,h,h1,h2=>⟨h.1,h.2.1,MR.set i h.2.2 h1 h2⟩
 | [],_::_,_,_,_,_,h,_,_=>h.elim
 | _::_,[],_,_,_,_,h,_,_=>h.elim
theorem MR.erase:∀ {x:List (V × V)} {y:List MapEntry} (i:Nat),MR ρ x y→MR ρ (x.eraseIdx i) (y.eraseIdx i)
 | [],[],_,_=>trivial
 | (a,b)::x,n::y,0,h=>h.2.2
 | (a,b)::x,n::y,i+1,h=>⟨h.1,h.2.1,MR.erase i h.2.2⟩
 | [],_::_,_,h=>h.elim
 | _::_,[],_,h=>h.elim
theorem MR.length:∀ {x:List (V × V)} {y:List MapEntry},MR ρ x y→x.length=y.length
 | [],[],_=>rfl
 | (a,b)::x,n::y,h=>by simp [MR.length h.2.2]
 | [],_::_,h=>h.elim
 | _::_,[],h=>h.elim
theorem MR.key:∀ {x:List (V × V)} {y:List MapEntry} {i:Nat} {a v:V} {m:MapEntry},MR ρ x y→x[i]? = some (a,v)→y[i]? = some m→VR ρ a m.key
 | (a,b)::x,n::y,0,_,_,_,h,h1,h2=>by simp at h1 h2;obtain ⟨rfl,rfl⟩:=h1;subst h2;exact h.1
 | (a,b)::x,n::y,i+1,_,_,_,h,h1,h2=>by simp at h1 h2;exact MR.key h.2.2 h1 h2
 | [],[],_,_,_,_,_,h1,_=>by simp at h1
 | [],_::_,_,_,_,_,h,_,_=>h.elim
 | _::_,[],_,_,_,_,h,_,_=>h.elim
theorem qT {kk:FK} {x y:V} (hs:xe kk x y=true) (hb:V.beq x y=true) {ux uy:Value} (hx:VR ρ x ux) (hy:VR ρ y uy):(Instr.keyThatStays uy ux).run P w=.ok ux w:=by
 have:=V.beq_eq x y hb
 subst this
 have hsb:Instr.sameBits 10000 uy ux=true:=by
  unfold xe at hs
  split at hs
  ·cases hx;cases hy;simp [Instr.sameBits]
  ·cases hx with
   | str s _ h1 =>
   cases hy with
   | str s' _ h2 =>
   simp only [Instr.sameBits]
   rw [beq_toListBytes,ls,←h1,←h2,mT]
  ·cases hx;cases hy;simp [Instr.sameBits]
  ·cases hs
 simp only [Instr.keyThatStays,hsb,if_true,Sem.run_pure]
theorem mS {α β:Type} (f:α→β):∀ (l:List α) (i:Nat),(l.map f).eraseIdx i=(l.eraseIdx i).map f
 | [],_=>rfl
 | a::l,0=>rfl
 | a::l,i+1=>by simp [mS f l i]
theorem io (ces:Array MapEntry) (i:Nat) (uk uv:Value):(ces.modify i fun e=>{ e with key:=uk,val:=uv }).toList.map MapEntry.born=ces.toList.map MapEntry.born:=by
 rw [Array.toList_modify]
 generalize ces.toList=l
 induction l generalizing i with
 | nil=>simp
 | cons a l ih=>cases i <;> simp_all [List.modify_cons]
theorem jz (ces:Array MapEntry) (i:Nat) (uv:Value):(ces.modify i fun e=>{ e with val:=uv }).toList.map MapEntry.born=ces.toList.map MapEntry.born:=by
 rw [Array.toList_modify]
 generalize ces.toList=l
 induction l generalizing i with
 | nil=>simp
 | cons a l ih=>cases i <;> simp_all [List.modify_cons]
theorem jA (ces:Array MapEntry) (i:Nat) (uk:Value):(ces.modify i fun e=>{ e with key:=uk }).toList.map MapEntry.born=ces.toList.map MapEntry.born:=by
 rw [Array.toList_modify]
 generalize ces.toList=l
 induction l generalizing i with
 | nil=>simp
 | cons a l ih=>cases i <;> simp_all [List.modify_cons]
theorem rG (r:Rel P B w0 ρ h w) {t kt et:TypeId} {kk:FK} (ht:P.underlying t=some (.map kt et)) (hk:t8 P kt=some kk) {m k v:V} {h':Heap} (hv:vf h kk m k v=some h') {um uk uv:Value}
  (hm:VR ρ m um) (hkr:VR ρ k uk) (hvr:VR ρ v uv):∃ w',(Instr.mapUpdate t um uk uv).run P w=.ok () w'∧Rel P B w0 ρ h' w':=by
 obtain ⟨d,hu,hd⟩:=qD hk
 unfold vf at hv
 split at hv
 ·rename_i b
  split at hv
  ·rename_i es bs cl hg
   split at hv
   ·rename_i hok
    cases hv
    cases hm with
    | map _ e rr he hr =>
    subst hr
    obtain ⟨ces,g1,g2,g3⟩:=wk r he hg
    unfold xR at hok
    simp only [Bool.and_eq_true] at hok
    rcases wR hd hkr g2 hok.2 0 with ⟨q1,q2,q3,_⟩ | ⟨i,m',a',v',q1,q2,q3,q4,q5,q6,q7,_⟩
    ·rw [q1]
     refine ⟨_,?_,r.setMap he hg (ces.push { key:=uk,val:=uv,born:=cl }) _ (cl+1) ?_ ?_⟩
     ·simp only [Instr.mapUpdate,Sem.run_bind,zd ht,Result.andThen_ok,yD g1,yT hu hd,Instr.findKey,zd hu,q2,Sem.run_pure,xx g1]
     ·rw [q3,Array.toList_push];exact g2.append hkr hvr
     ·rw [g3,Array.toList_push,List.map_append];rfl
    ·rw [q5]
     have hsk:xe kk k a'=true:=List.all_eq_true.1 hok.2 _ (List.mem_of_getElem? q3)
     have hkey:=qT (P:=P) (w:=w) hsk q4 hkr (g2.key q3 q2)
     have hget:ces[i]? = some m':=by simpa using q2
     refine ⟨_,?_,r.setMap he hg (ces.modify i fun e=>{ e with key:=uk,val:=uv }) _ cl ?_ (by rw [io];exact g3)⟩
     ·simp only [Instr.mapUpdate,Sem.run_bind,zd ht,Result.andThen_ok,yD g1,yT hu hd,Instr.findKey,zd hu,q1,Sem.run_pure,Nat.zero_add,hget,Option.map_some,Option.getD_some,hkey,xx g1]
     ·rw [q7]
      have:(ces.modify i fun e=>{ e with key:=uk,val:=uv }).toList=ces.toList.set i { m' with key:=uk,val:=uv }:=by
       rw [Array.toList_modify,List.modify_eq_set,q2]
       rfl
      rw [this]
      exact MR.set i g2 hkr hvr
   ·cases hv
  ·cases hv
 ·cases hv
theorem kP (r:Rel P B w0 ρ h w) {t kt et:TypeId} {kk:FK} {z:Value} {zv:V} (ht:P.underlying t=some (.map kt et)) (hk:t8 P kt=some kk) (hz:xk P et=some z) (hzv:ofV z=some zv) {m k v:V} {h':Heap} (hv:qB h kk zv m k=some (v,h')) {um uk:Value}
  (hm:VR ρ m um) (hkr:VR ρ k uk):∃ u w',(Instr.mapEntry t um uk).run P w=.ok u w'∧VR ρ v u∧Rel P B w0 ρ h' w':=by
 obtain ⟨d,hu,hd⟩:=qD hk
 unfold qB at hv
 split at hv
 ·rename_i b
  split at hv
  ·rename_i es bs cl hg
   split at hv
   ·rename_i hok
    cases hm with
    | map _ e rr he hr =>
    subst hr
    obtain ⟨ces,g1,g2,g3⟩:=wk r he hg
    unfold xR at hok
    simp only [Bool.and_eq_true] at hok
    rcases wR hd hkr g2 hok.2 0 with ⟨q1,q2,q3,_⟩ | ⟨i,m',a',v',q1,q2,q3,q4,q5,q6,q7,_,q8⟩
    ·rw [q1] at hv
     simp only [Option.some.injEq,Prod.mk.injEq] at hv
     obtain ⟨rfl,rfl⟩:=hv
     refine ⟨_,_,?_,.tuple _ _ (.cons _ _ _ _ (vA ρ hzv) (.cons _ _ _ _ (.int _ _) .nil)),r.setMap he hg (ces.push { key:=uk,val:=z,born:=cl }) _ (cl+1) ?_ ?_⟩
     ·simp only [Instr.mapEntry,Sem.run_bind,zd ht,Result.andThen_ok,yD g1,yT hu hd,Instr.findKey,zd hu,q2,Sem.run_pure,xw hz,xx g1,goInt]
     ·rw [q3,Array.toList_push];exact g2.append hkr (vA ρ hzv)
     ·rw [g3,Array.toList_push,List.map_append];rfl
    ·have hget:ces[i]? = some m':=by simpa using q2
     have hbn:qJ k es bs=some m'.born:=by
      rw [(q8 bs).2,g3,List.getElem?_map,q2];rfl
     rw [q5,hbn] at hv
     simp only [Option.some.injEq,Prod.mk.injEq] at hv
     obtain ⟨rfl,rfl⟩:=hv
     have hsk:xe kk k a'=true:=List.all_eq_true.1 hok.2 _ (List.mem_of_getElem? q3)
     have hkey:=qT (P:=P) (w:=w) hsk q4 hkr (g2.key q3 q2)
     refine ⟨_,_,?_,.tuple _ _ (.cons _ _ _ _ q6 (.cons _ _ _ _ (.int _ _) .nil)),r.setMap he hg (ces.modify i fun e=>{ e with key:=uk }) _ cl ?_ (by rw [jA];exact g3)⟩
     ·simp only [Instr.mapEntry,Sem.run_bind,zd ht,Result.andThen_ok,yD g1,yT hu hd,Instr.findKey,zd hu,q1,Sem.run_pure,Nat.zero_add,hget,Option.map_some,Option.getD_some,hkey,xx g1,goInt]
     ·rw [q7]
      have:(ces.modify i fun e=>{ e with key:=uk }).toList=ces.toList.set i { m' with key:=uk }:=by
       rw [Array.toList_modify,List.modify_eq_set,q2]
       rfl
      rw [this]
      exact MR.set i g2 hkr q6
   ·cases hv
  ·cases hv
 ·cases hv
theorem ot {n:Nat} {x:V} {ux:Value} (hx:VR ρ x ux):∀ {es:List (V × V)} {ces:List MapEntry} {es':List (V × V)},MR ρ es ces→lX n x es (ces.map MapEntry.born)=some es' →
  ∃ i m,ces.findIdx? (fun e=>(e.born:Int) == (n:Int))=some i∧ces[i]? = some m∧MR ρ es' (ces.set i { m with val:=ux })
 | [],[],_,_,hs=>by simp [lX] at hs
 | (a,v)::es,m::ces,es',hm,hs=>by
  simp only [List.map_cons,lX] at hs
  by_cases hb:m.born=n
  ·rw [if_pos hb] at hs
   cases hs
   exact ⟨0,m,by simp [List.findIdx?_cons,hb],rfl,hm.1,hx,hm.2.2⟩
  ·rw [if_neg hb] at hs
   split at hs
   ·rename_i l hl
    cases hs
    obtain ⟨i,m',q1,q2,q3⟩:=ot hx hm.2.2 hl
    refine ⟨i+1,m',?_,by simpa using q2,hm.1,hm.2.1,q3⟩
    rw [List.findIdx?_cons,q1]
    have:((m.born:Int) == (n:Int))=false:=by simp;omega
    rw [this];rfl
   ·cases hs
 | [],_::_,_,hm,_=>hm.elim
 | _::_,[],_,hm,_=>hm.elim
theorem ib (r:Rel P B w0 ρ h w) {t:TypeId} {m s x:V} {h':Heap} (hv:oX h m s x=some h') {um us ux:Value} (hm:VR ρ m um) (hsr:VR ρ s us) (hxr:VR ρ x ux) :
  ∃ w',(Instr.entryStore t um us ux).run P w=.ok () w'∧Rel P B w0 ρ h' w':=by
 unfold oX at hv
 split at hv
 ·rename_i b k n
  split at hv
  ·rename_i es bs cl hg
   split at hv
   ·rename_i hn
    split at hv
    ·rename_i es' hes
     cases hv
     cases hm with
     | map _ e rr he hr =>
     subst hr
     cases hsr
     obtain ⟨ces,g1,g2,g3⟩:=wk r he hg
     rw [g3] at hes
     obtain ⟨i,m',q1,q2,q3⟩:=ot hxr g2 hes
     have hnn:((n.toNat:Nat):Int)=n:=by omega
     rw [hnn] at q1
     have hf:ces.findIdx? (fun e=>(e.born:Int) == n)=some i:=by
      obtain ⟨l⟩:=ces
      simpa using q1
     refine ⟨_,?_,r.setMap he hg (ces.modify i fun e=>{ e with val:=ux }) _ cl ?_ (by rw [jz];exact g3)⟩
     ·simp only [Instr.entryStore,Sem.run_bind,Result.andThen_ok,yD g1,asInt,asIntOf,Sem.run_pure,hf,xx g1]
     ·have:(ces.modify i fun e=>{ e with val:=ux }).toList=ces.toList.set i { m' with val:=ux }:=by
       rw [Array.toList_modify,List.modify_eq_set,q2]
       rfl
      rw [this]
      exact q3
    ·cases hv
   ·cases hv
  ·cases hv
 ·cases hv
theorem kQ (r:Rel P B w0 ρ h w) {t u kt et ty:TypeId} {kk:FK} (ht:P.underlying t=some (.map kt et)) (hk:t8 P kt=some kk) {m k:V} {h':Heap} (hv:tv h kk m k=some h') {um uk:Value}
  (hm:VR ρ m um) (hkr:VR ρ k uk):∃ w',(Builtin.delete_ #[t,u] ty #[um,uk]).run P w=.ok (.tuple #[]) w'∧Rel P B w0 ρ h' w':=by
 obtain ⟨d,hu,hd⟩:=qD hk
 unfold tv at hv
 split at hv
 ·cases hv
  cases hm
  refine ⟨w,?_,r⟩
  simp [Builtin.delete_,zd ht,yT hu hd]
 ·rename_i b
  split at hv
  ·rename_i es bs cl hg
   split at hv
   ·rename_i hok
    cases hv
    cases hm with
    | map _ e rr he hr =>
    subst hr
    obtain ⟨ces,g1,g2,g3⟩:=wk r he hg
    unfold xR at hok
    simp only [Bool.and_eq_true] at hok
    rcases wR hd hkr g2 hok.2 0 with ⟨q1,q2,_,q3,q8⟩ | ⟨i,m',a',v',q1,q2,q3,q4,q5,q6,_,q7,q8⟩
    ·refine ⟨_,?_,r.setMap he hg ces _ cl (by rw [q3];exact g2) (by rw [q8];exact g3)⟩
     simp [Builtin.delete_,zd ht,yD g1,yT hu hd,Instr.findKey,zd hu,q2,xx g1]
    ·have:(ces.eraseIdxIfInBounds i).toList=ces.toList.eraseIdx i:=by
      rw [Array.toList_eraseIdxIfInBounds]
     refine ⟨_,?_,r.setMap he hg (ces.eraseIdxIfInBounds i) _ cl ?_ (by rw [(q8 bs).1,this,g3];exact mS _ _ _)⟩
     ·simp [Builtin.delete_,zd ht,yD g1,yT hu hd,Instr.findKey,zd hu,q1,xx g1]
     ·rw [q7,this]
      exact MR.erase i g2
   ·cases hv
  ·cases hv
 ·cases hv
end
end Abs
end Go.Proofs.YthgcjbniipfnbaaGreatDoor
namespace Go.Proofs.YthgcjbniipfnbaaGreatDoor
namespace Abs
set_option linter.unusedVariables false
set_option linter.unusedSimpArgs false
open Go.RowKit
section
variable {P:Program} {B:Nat} {w0 w:World} {ρ:Rho} {h:Heap}
theorem tA (w:World) (a:Addr) (n k:Nat) (hk:k≠a.block):(w.freeze a n).heap[k]? = w.heap[k]?:=by
 unfold World.freeze
 split
 ·rfl
 ·simp only [Array.getElem?_modify]
  rw [if_neg (Ne.symm hk)]
theorem tE (w:World) (a:Addr) (n:Nat) {c:Array Value} {el:TypeId} {fr:Nat × Nat} (hn:n≠0) (hc:w.heap[a.block]? = some (.cells c el fr)) :
  (w.freeze a n).heap[a.block]? = some (.cells c el (if fr.1 == fr.2 then (a.off,a.off+n) else (min fr.1 a.off,max fr.2 (a.off+n)))):=by
 unfold World.freeze
 rw [if_neg hn]
 simp only [Array.getElem?_modify]
 rw [if_pos trivial,hc]
 rfl
theorem uY (w:World) (a:Addr) (n:Nat):(w.freeze a n).heap.size=w.heap.size:=by
 unfold World.freeze
 split
 ·rfl
 ·simp
theorem ik (w:World) (a:Addr) (n:Nat) (q:Addr):(w.freeze a n).cell? q=w.cell? q:=by
 by_cases hn:n=0
 ·unfold World.freeze;rw [if_pos hn]
 unfold World.cell?
 by_cases hk:q.block=a.block
 ·rw [hk]
  cases hh:w.heap[a.block]? with
  | none =>
   have:(w.freeze a n).heap[a.block]? = none:=by
    rw [Array.getElem?_eq_none_iff,uY]
    exact Array.getElem?_eq_none_iff.1 hh
   rw [this]
  | some o =>
   cases o with
   | cells c el fr=>rw [tE w a n hn hh]
   | _ =>
    unfold World.freeze
    rw [if_neg hn]
    simp only [Array.getElem?_modify]
    rw [if_pos trivial,hh]
    rfl
 ·rw [tA w a n _ hk]
theorem Rel.frozen (r:Rel P B w0 ρ h w) {b:Nat} {e:Emb} {cs:List V} {S:List Nat} {fz:Nat} {t:Nat} (hb:ρ b=some e) (hg:h.get b=some (.cells cs (.tip S fz (some t)))) (n:Nat) (hn:n≠0) :
  Rel P B w0 ρ (h.put b (.cells cs (.tip S (max fz n) (some t)))) (w.freeze ⟨e.blk,0,none⟩ n):=by
 obtain ⟨o0,hg0,hr0⟩:=r.obj b e hb
 rw [hg] at hg0
 cases hg0
 obtain ⟨hB,hcf,hown⟩:=hr0
 obtain ⟨⟨c,el,fr,hc,hs,hf,hty⟩,hroom⟩:=hown
 obtain ⟨rfl,hoff⟩:=hty t rfl
 have facts:∀ {e':Emb} {ds:List V},CellFacts ρ w e' ds→CellFacts ρ (w.freeze ⟨e.blk,0,none⟩ n) e' ds:=fun hh i v hi=>by
  obtain ⟨u,q1,q2⟩:=hh i v hi
  exact ⟨u,by rw [ik];exact q1,q2⟩
 refine ⟨r.dom,fun x e' hx=>?_,?_,fun x e' o' h1 h2 h3=>?_,fun x hx=>?_,Lib.below_freeze r.below (by exact hB) n,by rw [uY];exact r.base,r.glob⟩
 ·rw [Heap.get_put]
  by_cases hxb:x=b
  ·subst hxb
   rw [hb] at hx
   cases hx
   refine ⟨.cells cs (.tip S (max fz n) (some el)),by rw [if_pos rfl],hB,facts hcf,⟨⟨c,el,_,tE w ⟨e.blk,0,none⟩ n hn hc,hs,?_,fun t' ht'=>by cases ht';exact ⟨rfl,hoff⟩⟩,hroom⟩⟩
   have hm:fz≤max fz n∧n≤max fz n:=⟨Nat.le_max_left _ _,Nat.le_max_right _ _⟩
   rw [hoff] at hf ⊢
   refine .inr (.inl ?_)
   rcases hf with q | q | ⟨q,_⟩
   ·simp only [q,beq_self_eq_true,if_true];omega
   ·by_cases hfr:fr.1=fr.2
    ·simp only [hfr,beq_self_eq_true,if_true];omega
    ·have:(fr.1 == fr.2)=false:=by simpa using hfr
     simp only [this,Bool.false_eq_true,if_false];omega
   ·cases q
  ·rw [if_neg hxb]
   obtain ⟨o',h1,h2⟩:=r.obj x e' hx
   refine ⟨o',h1,?_⟩
   by_cases hbk:e'.blk=e.blk
   ·cases o' with
    | dead=>trivial
    | cells ds st =>
     have hs:=r.sep b x e e' _ _ S hb hx (Ne.symm hxb) hg rfl h1 rfl hbk
     cases st with
     | ro=>exact absurd (h2.1) (by rw [hbk];omega)
     | tip S' fz' ty'=>exact absurd hs.2.1 (by simp [Obj.sups])
     | sup=>exact facts h2
    | map _ _ _ | loop _ _ _ _ _ _ _ | dfr | iter _ _ _ _ =>
     have hs:=r.sep b x e e' _ _ S hb hx (Ne.symm hxb) hg rfl h1 rfl hbk
     exact absurd hs.2.1 (by simp [Obj.sups])
   ·exact h2.heap (tA _ _ _ _ hbk)
 ·intro x x' e1 e2 o1 o2 S' h1 h2 h3 h4 h5 h6 h7 h8
  rw [Heap.get_put] at h4 h6
  by_cases hx:x=b
  ·subst hx
   rw [if_pos rfl] at h4
   cases h4
   cases h5
   rw [if_neg (Ne.symm h3)] at h6
   have:=r.sep x x' e1 e2 (.cells cs (.tip S fz (some el))) o2 S h1 h2 h3 hg rfl h6 h7 h8
   exact this
  ·rw [if_neg hx] at h4
   by_cases hx':x'=b
   ·subst hx'
    rw [if_pos rfl] at h6
    cases h6
    exact absurd (r.sep x x' e1 e2 o1 _ S' h1 h2 h3 h4 h5 hg rfl h8).2.1 (by simp [Obj.sups])
   ·rw [if_neg hx'] at h6
    exact r.sep x x' e1 e2 o1 o2 S' h1 h2 h3 h4 h5 h6 h7 h8
 ·rw [Heap.get_put] at h2
  rw [uY]
  by_cases hxb:x=b
  ·subst hxb;exact r.live x e' _ h1 hg rfl
  ·rw [if_neg hxb] at h2;exact r.live x e' o' h1 h2 h3
 ·rw [Heap.get_put,if_neg (by have:h.size≤x:=hx;have:=r.dom b e hb;omega)]
  exact r.fresh x hx
theorem jY {t:TypeId} {count:Nat} (hc:P.cellsOf t≠0) (hn:1≤count):liesAt P P.depth t count 0 t 1=true:=by
 have hd:P.depth=(2*(P.types.size+Made.depth)+1)+1:=rfl
 rw [hd]
 simp only [liesAt,Bool.or_eq_true]
 left
 rw [hd]
 simp [rowAt,hc,hn,sameLayout]
theorem oo {x v:V} (hv:xv x=some v) {ux:Value} (hx:VR ρ x ux) (ts:Array TypeId) (ty:TypeId) :
  ∃ u,(Builtin.unsafeSliceData_ ts ty #[ux]).run P w=.ok u w∧VR ρ v u:=by
 cases hx with
 | sliceNil=>cases hv;exact ⟨_,rfl,.ptrNil⟩
 | slice b o len cap e a he ha hl =>
  simp only [xv] at hv
  split at hv
  ·cases hv
  ·rename_i hc
   cases hv
   exact ⟨_,Lib.run_unsafeSliceData_row w ts ty a len cap hc,.ptr b o e a he (ha hc)⟩
 | oslice b o len cap sz cap' e a he ha hl hcap =>
  simp only [xv] at hv
  split at hv
  ·cases hv
  ·rename_i hc
   cases hv
   have hc':cap'≠0:=by omega
   exact ⟨_,Lib.run_unsafeSliceData_row w ts ty a len cap' hc',.ptr b o e a he (ha hc').1⟩
 | _=>cases hv
theorem sZ:∀ (ns:List Int) (a:Addr) (acc:ByteArray),(∀ j n,ns[j]? = some n→w.cell? (a.add j)=some (.int .u8 n)) →
  (loadBytes a acc ns.length).run P w=.ok (ns.foldl (fun r n=>r.push (UInt8.ofNat n.toNat)) acc) w
 | [],a,acc,_=>rfl
 | n::ns,a,acc,h=>by
  have h0:w.cell? a=some (.int .u8 n):=by
   have:=h 0 n rfl
   simpa [Addr.add] using this
  have ih:=sZ ns (a.add 1) (acc.push n.toNat.toUInt8) (fun j y hy=>by
   have:=h (j+1) y (by simpa using hy)
   have e:(a.add 1).add j=a.add (j+1):=by
    unfold Addr.add
    by_cases hj:j=0
    ·subst hj;simp
    ·simp [hj];omega
   rw [e];exact this)
  simp only [List.length_cons,loadBytes,Sem.run_bind,run_load,h0,Result.andThen]
  rw [ih]
  rfl
theorem lU (r:Rel P B w0 ρ h w) {x n v:V} {h':Heap} {bt:Nat} (hv:wZ h bt x n=some (v,h')) {ux un:Value} (hx:VR ρ x ux) (hn:VR ρ n un) (pt it ty:TypeId) (hp:P.underlying pt=some (.pointer bt)) (hc:P.cellsOf bt=1) :
  ∃ u w',(Builtin.unsafeString_ #[pt,it] ty #[ux,un]).run P w=.ok u w'∧VR ρ v u∧Rel P B w0 ρ h' w':=by
 have hmax:IntKind.i64.max=9223372036854775807:=rfl
 unfold wZ at hv
 split at hv
 ·rename_i n
  cases hn
  split at hv
  ·cases hx
   split at hv
   ·rename_i h0
    cases hv
    subst h0
    exact ⟨_,w,Lib.run_unsafeString_none w pt it ty none,.str _ _ rfl,r⟩
   ·cases hv
  ·rename_i b o
   cases hx with
   | ptr _ _ e a he ha =>
   split at hv
   ·rename_i h0
    cases hv
    subst h0
    exact ⟨_,w,Lib.run_unsafeString_none w pt it ty (some a),.str _ _ rfl,r⟩
   ·rename_i h0
    split at hv
    ·rename_i cs S fz ty2 hg
     split at hv
     ·rename_i hcond
      obtain ⟨hpos,hle,rfl,rfl,hmx⟩:=hcond
      split at hv
      ·rename_i l hl
       cases hv
       obtain ⟨o0,hg0,hr0⟩:=r.obj b e he
       rw [hg] at hg0
       cases hg0
       obtain ⟨hB,hcf,hown⟩:=hr0
       obtain ⟨⟨c,el,fr,hcell,hs,hf,hty⟩,hroom⟩:=hown
       obtain ⟨rfl,hoff⟩:=hty _ rfl
       have hsh:w.shape? e.blk=some (el,c.size):=by unfold World.shape?;rw [hcell]
       have hcs:∃ us,VRs ρ (cs.take n.toNat) us∧∀ j u,us[j]? = some u→w.cell? (at_ e j)=some u:=by
        have:=r.rds (P:=P) (n:=n.toNat) (o:=0) (cs:=cs.take n.toNat) he (by simp only [Heap.rds,hg];rw [if_pos (by omega)];simp)
        have key:∀ (ds:List V) (o:Nat),(∀ i v,ds[i]? = some v→∃ u,w.cell? (at_ e (o+i))=some u∧VR ρ v u)→∃ us,VRs ρ ds us∧∀ j u,us[j]? = some u→w.cell? (at_ e (o+j))=some u:=by
         intro ds
         induction ds with
         | nil=>intro o _;exact ⟨[],.nil,fun j u hj=>by simp at hj⟩
         | cons d ds ih =>
          intro o hh
          obtain ⟨u,q1,q2⟩:=hh 0 d rfl
          obtain ⟨us,g1,g2⟩:=ih (o+1) (fun i v hi=>by
           obtain ⟨u,q1,q2⟩:=hh (i+1) v (by simpa using hi)
           exact ⟨u,by rw [show o+1+i=o+(i+1) by omega];exact q1,q2⟩)
          refine ⟨u::us,.cons _ _ _ _ q2 g1,fun j u' hj=>?_⟩
          cases j with
          | zero=>simp at hj;subst hj;exact q1
          | succ j=>rw [show o+(j+1)=o+1+j by omega];exact g2 j u' (by simpa using hj)
        obtain ⟨us,g1,g2⟩:=key (cs.take n.toNat) 0 (fun i v hi=>by
         have hi':cs[i]? = some v:=by
          rw [List.getElem?_take] at hi
          split at hi
          ·exact hi
          ·cases hi
         obtain ⟨u,q1,q2⟩:=hcf i v hi'
         exact ⟨u,by rw [Nat.zero_add];exact q1,q2⟩)
        exact ⟨us,g1,fun j u hj=>by have:=g2 j u hj;rwa [Nat.zero_add] at this⟩
       obtain ⟨us,g1,g2⟩:=hcs
       obtain ⟨ns,q1,q2⟩:=sO hl g1
       subst q1
       have hlen:ns.length=n.toNat:=by
        have:=g1.length
        simp only [List.length_take,List.length_map] at this
        omega
       have ea:a=⟨e.blk,0,none⟩:=by rw [ha];simp [at_,hoff]
       have hload:=sZ (P:=P) (w:=w) ns ⟨e.blk,0,none⟩ .empty (fun j m hj=>by
        have:=g2 j (.int .u8 m) (by rw [List.getElem?_map,hj];rfl)
        have e2:(⟨e.blk,0,none⟩:Addr).add j=at_ e j:=by
         unfold Addr.add at_
         by_cases hj0:j=0
         ·subst hj0;simp [hoff]
         ·simp [hj0,hoff]
        rw [e2];exact this)
       rw [hlen] at hload
       have hlies:=Lib.liesAt_bytes (P:=P) hc (c.size / P.cellsOf el) n.toNat (by rw [hc,Nat.div_one];omega)
       have hdef:Builtin.unsafeString_ #[pt,it] ty #[.pointer (some ⟨e.blk,0,none⟩),.int .i64 n] =
         (do
          let n ←asInt (.int .i64 n)
          if n<0 then runtimePanic (.error "unsafe.String: len out of range")
          if n > IntKind.i64.max then unsupported (.unsafePointer "String: a length above the largest int")
          if n=0 then pure (.string .empty)
          else if ←variablesAt ⟨e.blk,0,none⟩ (←elemOf pt) n.toNat then do
           let s ←loadBytes ⟨e.blk,0,none⟩ .empty n.toNat
           freeze ⟨e.blk,0,none⟩ n.toNat
           pure (.string s)
          else unsupported (.unsafePointer "String: not so many bytes at ptr")):=rfl
       refine ⟨.string (ns.foldl (fun r n=>r.push (UInt8.ofNat n.toNat)) .empty),w.freeze ⟨e.blk,0,none⟩ n.toNat,?_,?_,r.frozen he hg n.toNat (by omega)⟩
       ·rw [ea,hdef]
        have hneg:¬ n<0:=by omega
        have h63:¬ (9223372036854775807:Int)<n:=by omega
        have hz:¬ n=0:=h0
        simp [asInt,asIntOf,hmax,h63,hneg,hz,variablesAt,hsh,elemOf,run_underlying hp,hlies,hload]
       ·refine .str _ _ ?_
        rw [tV,q2]
        rfl
      ·cases hv
     ·cases hv
    ·cases hv
  ·cases hv
 ·cases hv
theorem gv (r:Rel P B w0 ρ h w) {x:V} (hv:qk h x=true) {ux:Value} (hx:VR ρ x ux) {src dst t:TypeId} {n:Nat} (hs:P.underlying src=some (.pointer t)) (hd:P.underlying dst=some .unsafePointer) (ht:zF P t=some (n+1)) :
  (convert src dst ux).run P w=.ok ux w:=by
 unfold qk at hv
 split at hv
 ·rename_i b o
  cases hx with
  | ptr _ _ e a he ha =>
  split at hv
  ·rename_i cs S fz ty hg
   have ho:=of_decide_eq_true hv
   obtain ⟨o0,hg0,hr0⟩:=r.obj b e he
   rw [hg] at hg0
   cases hg0
   obtain ⟨hB,hcf,⟨⟨c,el,fr,hcell,hs',hf,hty⟩,hroom⟩⟩:=hr0
   obtain ⟨j,hj,hjs⟩:=Option.map_eq_some_iff.1 ht
   subst ha
   exact Lib.run_to_unsafe w (at_ e o) hs hd hj (by omega) (e:=el) (cells:=c.size) (by show w.shape? e.blk=_;unfold World.shape?;rw [hcell]) (by show e.off+o<_;omega)
  ·cases hv
 ·cases hv
theorem jV (r:Rel P B w0 ρ h w) {u n:Nat} {x:V} (hv:tu h u (n+1) x=true) {ux:Value} (hx:VR ρ x ux) {src dst:TypeId} (hs:P.underlying src=some .unsafePointer) (hd:P.underlying dst=some (.pointer u)) (ht:zF P u=some (n+1))
  (hcl:P.cellsOf u=n+1):(convert src dst ux).run P w=.ok ux w:=by
 unfold tu at hv
 split at hv
 ·rename_i b o
  cases hx with
  | ptr _ _ e a he ha =>
  split at hv
  ·rename_i cs S fz ty hg
   obtain ⟨rfl,rfl,hle⟩:=of_decide_eq_true hv
   obtain ⟨o0,hg0,hr0⟩:=r.obj b e he
   rw [hg] at hg0
   cases hg0
   obtain ⟨hB,hcf,⟨⟨c,el,fr,hcell,hs',hf,hty⟩,hroom⟩⟩:=hr0
   obtain ⟨rfl,hoff⟩:=hty _ rfl
   obtain ⟨j,hj,hjs⟩:=Option.map_eq_some_iff.1 ht
   subst ha
   refine Lib.run_from_unsafe w (at_ e 0) hs hd hj (e:=el) (cells:=c.size) (by show w.shape? e.blk=_;unfold World.shape?;rw [hcell]) ?_
   show liesAt P P.depth el (c.size / P.cellsOf el) (e.off+0) el 1=true
   rw [hoff]
   exact jY (by omega) (by rw [hcl];exact (Nat.one_le_div_iff (by omega)).2 (by omega))
  ·cases hv
 ·cases hv
end
end Abs
end Go.Proofs.YthgcjbniipfnbaaGreatDoor
namespace Go.Proofs.YthgcjbniipfnbaaGreatDoor
namespace Abs
set_option linter.unusedVariables false
set_option linter.unusedSimpArgs false
open Go.RowKit
section
variable {P:Program} {B:Nat} {w0 w:World} {ρ:Rho} {h:Heap}
def fH (P:Program) (o:Oper) (a:Act) (w:World) (u:Value) (w':World):Prop :=
 (execOp a.eval o).run P w=.ok (.value u) w'∨((execOp a.eval o).run P w=.ok .skip w'∧u=undef)
theorem zn {s:Sem Value} {u:Value} {w w':World} (h:s.run P w=.ok u w'):(do pure (Next.value (←s)):Sem Next).run P w=.ok (.value u) w':=by
 simp only [Sem.run_bind,h,Result.andThen_ok,Sem.run_pure]
theorem tQ {s:Sem Unit} {w w':World} (h:s.run P w=.ok () w'):(do s;pure Next.skip:Sem Next).run P w=.ok .skip w':=by
 simp only [Sem.run_bind,h,Result.andThen_ok,Sem.run_pure]
abbrev Out (P:Program) (B:Nat) (w0:World) (ρ:Rho) (n:Nat) (o:Oper) (a:Act) (w:World) (v:V) (h':Heap):Prop :=
 ∃ u w' ρ',fH P o a w u w'∧VR ρ' v u∧Rel P B w0 ρ' h' w'∧New ρ ρ' n
theorem Out.same (r:Rel P B w0 ρ h w) {n:Nat} {o:Oper} {a:Act} {v:V} {u:Value} (hd:(execOp a.eval o).run P w=.ok (.value u) w) (hv:VR ρ v u):Out P B w0 ρ n o a w v h :=
 ⟨u,w,ρ,.inl hd,hv,r,New.refl _ _⟩
theorem bf {op:BinOp} {t:TypeId} {ox oy:Operand} {x y:V} {b:Bool} {d:EqD} (hd:tc P 1000 t=some d) (hg:P.eqGuardType P.depth t=false) (hv:eqA d x y=some b) {ux uy:Value} (hx:VR ρ x ux) (hy:VR ρ y uy)
  (hop:op=.eql∨op=.neq) (hni:(fa P t || gZ P t)=false):(do eqGuard op t ox oy ux uy;binOp op t ux uy:Sem Value).run P w=.ok (.bool (if op=.neq then !b else b)) w:=by
 have hguard:(eqGuard op t ox oy ux uy).run P w=.ok () w:=by
  cases d with
  | flat k =>
   refine vW op t ox oy ?_ ?_
   ·rintro ⟨rfl,rfl⟩
    cases hx;cases hy
    cases k <;> simp [eqA,xT] at hv
   ·rintro c e ⟨rfl,rfl⟩
    cases hx;cases hy
    cases k <;> simp [eqA,xT] at hv
  | struct fs =>
   cases x <;> try (simp [eqA] at hv;done)
   cases y <;> try (simp [eqA] at hv;done)
   cases hx;cases hy
   exact run_eqGuard_agg w op t ox oy _ _ hg
 have heq:=rT (P:=P) (w:=w) 1000 hd hv hx hy 10000 (by omega)
 have hbin:(binOp op t ux uy).run P w=((Op.equalIn 10000 t ux uy).run P w).andThen fun b w'=>.ok (.bool (if op=.neq then !b else b)) w':=by
  cases d with
  | flat k =>
   have hc:=be hd
   rcases hop with rfl | rfl <;> simp only [eqA] at hv <;> unfold xT at hv <;> split at hv <;> first | (cases hv;done) | skip
   all_goals (cases hx;cases hy)
   all_goals try (cases hv;done)
   all_goals (first | rw [heq] | skip)
   all_goals simp only [Result.andThen_ok,reduceCtorEq,if_false,if_true]
   all_goals first
    | (rfl;done)
    | (simp only [binOp,Op.equal,Op.maxDepth,Sem.run_bind,heq,Result.andThen_ok,Sem.run_pure,reduceCtorEq,if_false,if_true];done)
    | (obtain ⟨i,hi⟩:=hc;simp [fa,hi] at hni;done)
    | (have hc':P.underlying t=some .string:=hc;simp [gZ,hc'] at hni;done)
  | struct fs =>
   cases x <;> try (simp [eqA] at hv;done)
   cases y <;> try (simp [eqA] at hv;done)
   cases hx;cases hy
   rcases hop with rfl | rfl
   ·rw [run_eql_struct];simp
   ·rw [run_neq_struct];simp
 simp only [Sem.run_bind,hguard,Result.andThen_ok,hbin,heq]
theorem wI {t:TypeId} {neg:Bool} {x:Operand} {y0:Operand} {k:K} (hk:oU P t neg x y0=some k):∃ x',zp x=some x'∧k=.isNil neg x'∧y0=.const .nilIface∧∃ i,P.underlying t=some (.interface i):=by
 unfold oU at hk
 split at hk
 ·rename_i i x' h1 h2
  cases hk
  exact ⟨x',h2,rfl,rfl,i,h1⟩
 ·cases hk
theorem oJ {op:BinOp} {t:TypeId} {x:Operand} {i:Array (String × TypeId)} (hu:P.underlying t=some (.interface i)) (hop:op=.eql∨op=.neq) {v:V} {ux:Value} (hx:VR ρ v ux) {b:Bool} (hv:(v=.nilIface∧b=true)∨(∃ t' v',v=.iface t' v'∧b=false)) :
  (do eqGuard op t x (.const .nilIface) ux .nilIface;binOp op t ux .nilIface:Sem Value).run P w=.ok (.bool (if op=.neq then !b else b)) w:=by
 rcases hv with ⟨rfl,rfl⟩ | ⟨t',v',rfl,rfl⟩
 ·cases hx
  have hg:(eqGuard op t x (.const .nilIface) .nilIface .nilIface).run P w=.ok () w:=by
   rcases hop with rfl | rfl <;> simp [eqGuard]
  have he:(Op.equal t .nilIface .nilIface).run P w=.ok true w:=by
   show (Op.equalIn (9999+1) t .nilIface .nilIface).run P w=_
   unfold Op.equalIn
   simp only [Sem.run_bind,zd hu,Result.andThen_ok,Sem.run_pure]
  rcases hop with rfl | rfl <;> simp [hg,binOp,he]
 ·cases hx
  have hg:=vW (P:=P) (w:=w) op t x (.const .nilIface) (a:=.iface t' ‹Value›) (b:=.nilIface) (by simp) (by simp)
  have he:(Op.equal t (.iface t' ‹Value›) .nilIface).run P w=.ok false w:=by
   show (Op.equalIn (9999+1) t (.iface t' ‹Value›) .nilIface).run P w=_
   unfold Op.equalIn
   simp only [Sem.run_bind,zd hu,Result.andThen_ok,Sem.run_pure]
  rcases hop with rfl | rfl <;> simp [hg,binOp,he]
theorem qe {e t:TypeId} (h:qf P e=some t):e=t:=by
 unfold qf at h
 split at h
 ·cases h;rfl
 ·cases h;rfl
 ·cases h
theorem zE (a:Act) (b:Builtin) (args:List Operand) (ts:List TypeId) (dst:Option Tmp) (type:TypeId) (pos:String) (after:Array Edge) (guard:Option (Nat × Bool)) {s:Sem Value} (hb:∀ cs,builtin b ts.toArray type cs (args.map a.eval).toArray=(do pure (Next.value (←s))))
  {u:Value} {w w':World} (hs:s.run P w=.ok u w'):(execOp a.eval ⟨dst,.call ⟨.builtin b,args.toArray,ts.toArray⟩,type,pos,after,guard⟩).run P w=.ok (.value u) w':=by
 simp only [execOp,resolve,invoke,Sem.run_bind,Sem.run_pure,Result.andThen_ok,List.map_toArray,hb,hs]
theorem qR (mx:Bool):∀ (r:List V) (us:List Value) (k:IntKind) (a m:Int),VRs ρ r us→qy mx a r=some m→(us.foldlM (m:=Sem) (if mx then Builtin.max2 else Builtin.min2) (.int k a)).run P w=.ok (.int k m) w
 | [],_,k,a,m,.nil,h=>by cases h;rfl
 | .int k' b::r,_,k,a,m,.cons _ _ _ us hv ht,h=>by
  cases hv
  simp only [qy] at h
  rw [List.foldlM_cons]
  have:((if mx then Builtin.max2 else Builtin.min2) (.int k a) (.int k' b)).run P w=.ok (.int k (if mx then (if b > a then b else a) else (if b<a then b else a))) w:=by
   cases mx <;> simp [Builtin.max2,Builtin.min2]
  simp only [Sem.run_bind,this,Result.andThen_ok]
  exact qR mx r us k _ m ht h
 | .bool _::_,_,_,_,_,_,h | .str _::_,_,_,_,_,_,h | .ptr _::_,_,_,_,_,_,h | .slice ..::_,_,_,_,_,_,h | .oslice ..::_,_,_,_,_,_,h | .map _::_,_,_,_,_,_,h | .func ..::_,_,_,_,_,_,h
 | .nilFunc::_,_,_,_,_,_,h | .iface ..::_,_,_,_,_,_,h | .nilIface::_,_,_,_,_,_,h | .agg _::_,_,_,_,_,_,h | .tuple _::_,_,_,_,_,_,h | .yld _::_,_,_,_,_,_,h=>by simp [qy] at h
theorem oM (mx:Bool) {k:IntKind} {a m:Int} {r:List V} {us:List Value} (hv:VRs ρ (.int k a::r) us) (h:qy mx a r=some m) :
  (match us with | []=>stuck "" | x::rest=>rest.foldlM (m:=Sem) (if mx then Builtin.max2 else Builtin.min2) x).run P w=.ok (.int k m) w∧True:=by
 cases hv with
 | cons _ u _ us hu ht =>
  cases hu
  exact ⟨qR mx r us k a m ht h,trivial⟩
theorem ln {b:Builtin} {args:List Operand} {ts:List TypeId} {dst:Option Tmp} {type:TypeId} {pos:String} {after:Array Edge} {guard:Option (Nat × Bool)} {k:K} (hk:wB P b ts args=some k) (hna:k.isAlloc=false)
  {nt:Nat} {tm:TM} {a:Act} (ht:TMR ρ nt tm a.tmps) (r:Rel P B w0 ρ h w) {v:V} {h':Heap} (hx:opK k tm h=some (v,h')) :
  Out P B w0 ρ h.size ⟨dst,.call ⟨.builtin b,args.toArray,ts.toArray⟩,type,pos,after,guard⟩ a w v h':=by
 cases b <;> simp only [wB] at hk
 case append =>
  split at hk
  case h_2=>cases hk
  rename_i t u x y
  unfold uq at hk
  split at hk
  ·rename_i x' y' e hx' hy' hu
   split at hk
   ·rename_i s bt z hs hb hz
    split at hk
    ·rename_i hc
     obtain ⟨hzl,hs0,hb0⟩:=hc
     split at hk
     ·rename_i d hd
      cases hk
      simp only [opK] at hx
      split at hx
      ·rename_i p q hp hq
       unfold zX at hx
       split at hx
       ·rename_i n hn
        split at hx
        ·rename_i items hi
         split at hx
         ·rename_i hcond
          obtain ⟨_,_,hil,hone⟩:=hcond
          obtain ⟨us,g1,g2⟩:=jZ (P:=P) r hi (zb ht hy' hq) hn
          obtain ⟨uv,w',ρ',q1,q2,q3,q4⟩:=nc (P:=P) (ty:=type) r ⟨hu,.inl ⟨d,hd⟩⟩ hs hb hz hzl (zb ht hx' hp) g1 g2 hil hone hb0 hs0 (fun t=>qe) hx
          exact ⟨uv,w',ρ',.inl (zE a _ _ _ _ _ _ _ _ (fun _=>rfl) q1),q2,q3,q4⟩
         ·cases hx
        ·cases hx
       ·cases hx
      ·cases hx
     ·rename_i hd
      split at hk
      ·rename_i h11
       obtain ⟨rfl,rfl⟩:=h11
       cases hk
       simp only [opK] at hx
       split at hx
       ·rename_i p q hp hq
        unfold sE at hx
        split at hx
        ·rename_i s
         have hvy:=zb ht hy' hq
         cases hcr:a.eval y <;> rw [hcr] at hvy
         case string sb =>
          cases hvy with
          | str _ _ hsb =>
          subst hsb
          have hlen:(strOf sb).length=sb.size:=by simp [strOf]
          rw [hlen] at hx
          have hfc:∀ w:World,(Builtin.firstCells 1 sb.size (.string sb)).run P w=.ok (sb.data.map fun b=>Value.int .u8 b.toNat).toList.toArray w:=by
           intro w
           simp only [Builtin.firstCells,Sem.run_pure]
           have:sb.extract 0 sb.size=sb:=by
            rw [ByteArray.ext_iff];simp [ByteArray.data_extract]
           rw [this]
          have hit:nr P w 1 sb.size (.string sb) (sb.data.map fun b=>Value.int .u8 b.toNat).toList:=⟨fun _=>rfl,hfc w,hfc w.drew⟩
          obtain ⟨uv,w',ρ',q1,q2,q3,q4⟩:=nc (P:=P) (ty:=type) r ⟨hu,.inr hd⟩ hs hb hz hzl (zb ht hx' hp) (qb sb) hit (by simp [zT,strOf]) (by simp [zT,V.one]) hb0 hs0 (fun t=>qe) hx
          refine ⟨uv,w',ρ',.inl (zE a _ _ _ _ _ _ _ _ (fun _=>rfl) ?_),q2,q3,q4⟩
          simp only [List.map_cons,List.map_nil,hcr]
          exact q1
         all_goals cases hvy
        ·cases hx
       ·cases hx
      ·cases hk
     ·cases hk
    ·cases hk
   ·cases hk
  ·cases hk
 case unsafeSliceData =>
  split at hk
  case h_2=>cases hk
  rename_i x
  split at hk
  ·rename_i x' hx'
   cases hk
   simp only [opK] at hx
   split at hx
   ·rename_i p hp
    split at hx
    ·rename_i q hq
     cases hx
     obtain ⟨u,q1,q2⟩:=oo (P:=P) (w:=w) hq (zb ht hx' hp) ts.toArray type
     exact ⟨u,w,ρ,.inl (zE a _ _ _ _ _ _ _ _ (fun _=>rfl) q1),q2,r,New.refl _ _⟩
    ·cases hx
   ·cases hx
  ·cases hk
 case unsafeString =>
  split at hk
  case h_2=>cases hk
  rename_i pt it x n
  split at hk
  ·rename_i x' n' e hx' hn' hp'
   split at hk
   ·rename_i hc
    cases hk
    simp only [opK] at hx
    split at hx
    ·rename_i p q hp hq
     obtain ⟨u,w',q1,q2,q3⟩:=lU (P:=P) r hx (zb ht hx' hp) (zb ht hn' hq) pt it type hp' hc
     exact ⟨u,w',ρ,.inl (zE a _ _ _ _ _ _ _ _ (fun _=>rfl) q1),q2,q3,New.refl _ _⟩
    ·cases hx
   ·cases hk
  ·cases hk
 case len =>
  split at hk
  case h_2=>cases hk
  rename_i t x
  unfold nW at hk
  split at hk
  ·rename_i x' hx' hu
   cases hk
   simp only [opK] at hx
   split at hx
   ·rename_i l hq
    cases hx
    have hv:=zb ht hx' hq
    cases hcr:a.eval x <;> rw [hcr] at hv
    case string sb =>
     cases hv with
     | str _ _ hs =>
     subst hs
     refine Out.same r (zE a _ _ _ _ _ _ _ _ (fun _=>rfl) (u:=.int .i64 (sb.size:Nat)) ?_) (by simp only [strOf,List.length_map,Array.length_toList];exact .int _ _)
     simp [Builtin.len_,zd hu,hcr,goInt]
    all_goals cases hv
   ·cases hx
  ·rename_i x' e hx' hu
   cases hk
   simp only [opK] at hx
   split at hx
   ·rename_i q hq
    split at hx
    ·rename_i n hn
     cases hx
     obtain ⟨A,c,hcr⟩:=va hn (zb ht hx' hq)
     refine Out.same r (zE a _ _ _ _ _ _ _ _ (fun _=>rfl) (u:=.int .i64 (n:Nat)) ?_) (.int _ _)
     simp [Builtin.len_,zd hu,hcr,goInt]
    ·cases hx
   ·cases hx
  ·rename_i x' kt et hx' hu
   cases hk
   simp only [opK] at hx
   split at hx
   ·rename_i q hq
    split at hx
    ·rename_i es hes
     cases hx
     have hv:=zb ht hx' hq
     unfold qA at hes
     split at hes
     ·cases hes
      cases hcr:a.eval x <;> rw [hcr] at hv
      case map mr =>
       cases hv
       refine Out.same r (zE a _ _ _ _ _ _ _ _ (fun _=>rfl) (u:=.int .i64 ((0:Nat):Int)) ?_) (.int _ _)
       simp [Builtin.len_,zd hu,hcr,goInt]
      all_goals cases hv
     ·split at hes
      ·rename_i b _ es' _ hg
       cases hes
       cases hcr:a.eval x <;> rw [hcr] at hv
       case map mr =>
        cases hv with
        | map _ e rr he hr =>
        subst hr
        obtain ⟨ces,g1,g2,_⟩:=wk r he hg
        have hl:es.length=ces.size:=by simpa using g2.length
        rw [hl]
        refine Out.same r (zE a _ _ _ _ _ _ _ _ (fun _=>rfl) (u:=.int .i64 (ces.size:Nat)) ?_) (.int _ _)
        simp [Builtin.len_,zd hu,hcr,goInt,yD g1]
       all_goals cases hv
      ·cases hes
     ·cases hes
    ·cases hx
   ·cases hx
  ·rename_i x' n e hx' hu
   cases hk
   simp only [opK,ev] at hx
   cases hx
   refine Out.same r (zE a _ _ _ _ _ _ _ _ (fun _=>rfl) (u:=.int .i64 (n:Nat)) ?_) (.int _ _)
   simp [Builtin.len_,zd hu,goInt]
  ·cases hk
 case min =>
  split at hk
  case h_3=>cases hk
  case h_2 =>
   rename_i x y z
   unfold rE at hk
   split at hk
   ·rename_i xs hxs
    cases hk
    simp only [opK] at hx
    split at hx
    ·rename_i k' n' r' hr
     split at hx
     ·rename_i m hm
      cases hx
      have h1:=yS ht hxs hr
      obtain ⟨q1,q2⟩:=oM (P:=P) (w:=w) false h1 hm
      exact Out.same r (zE a _ _ _ _ _ _ _ _ (fun _=>rfl) (by simpa [Builtin.min_] using q1)) (.int _ _)
     ·cases hx
    ·cases hx
   ·cases hk
  rename_i x y
  unfold mmC at hk
  split at hk
  ·rename_i x' y' hx' hy'
   cases hk
   simp only [Bool.false_eq_true,if_false,opK] at hx
   split at hx
   ·rename_i kx n ky m hp hq
    cases hx
    have h1:=zb ht hx' hp
    have h2:=zb ht hy' hq
    cases hcx:a.eval x <;> rw [hcx] at h1 <;> cases h1
    cases hcy:a.eval y <;> rw [hcy] at h2 <;> cases h2
    refine Out.same r (zE a _ _ _ _ _ _ _ _ (fun _=>rfl) (u:=.int kx (if m<n then m else n)) ?_) (.int _ _)
    simp [Builtin.min_,Builtin.min2,hcx,hcy]
   ·cases hx
  ·cases hk
 case max =>
  split at hk
  case h_3=>cases hk
  case h_2 =>
   rename_i x y z
   unfold rE at hk
   split at hk
   ·rename_i xs hxs
    cases hk
    simp only [opK] at hx
    split at hx
    ·rename_i k' n' r' hr
     split at hx
     ·rename_i m hm
      cases hx
      have h1:=yS ht hxs hr
      obtain ⟨q1,q2⟩:=oM (P:=P) (w:=w) true h1 hm
      exact Out.same r (zE a _ _ _ _ _ _ _ _ (fun _=>rfl) (by simpa [Builtin.max_] using q1)) (.int _ _)
     ·cases hx
    ·cases hx
   ·cases hk
  rename_i x y
  unfold mmC at hk
  split at hk
  ·rename_i x' y' hx' hy'
   cases hk
   simp only [if_true,opK] at hx
   split at hx
   ·rename_i kx n ky m hp hq
    cases hx
    have h1:=zb ht hx' hp
    have h2:=zb ht hy' hq
    cases hcx:a.eval x <;> rw [hcx] at h1 <;> cases h1
    cases hcy:a.eval y <;> rw [hcy] at h2 <;> cases h2
    refine Out.same r (zE a _ _ _ _ _ _ _ _ (fun _=>rfl) (u:=.int kx (if m > n then m else n)) ?_) (.int _ _)
    simp [Builtin.max_,Builtin.max2,hcx,hcy]
   ·cases hx
  ·cases hk
 case copy =>
  split at hk
  case h_2=>cases hk
  rename_i t u x y
  unfold qH at hk
  split at hk
  ·rename_i x' y' e hx' hy' hu
   split at hk
   ·rename_i s hs
    cases hk
    simp only [opK] at hx
    split at hx
    ·rename_i p q hp hq
     obtain ⟨uv,w',q1,q2,q3⟩:=ft (P:=P) (u:=u) (ty:=type) r hu hs hx (zb ht hx' hp) (zb ht hy' hq)
     exact ⟨uv,w',ρ,.inl (zE a _ _ _ _ _ _ _ _ (fun _=>rfl) q1),q2,q3,New.refl _ _⟩
    ·cases hx
   ·cases hk
  ·cases hk
 case clear =>
  split at hk
  case h_2=>cases hk
  rename_i t x
  unfold tG at hk
  split at hk
  ·rename_i x' e hx' hu
   split at hk
   ·rename_i s z hs hz
    split at hk
    ·cases hk
     simp only [opK] at hx
     split at hx
     ·rename_i p hp
      obtain ⟨uv,w',q1,q2,q3⟩:=ij (P:=P) (ty:=type) r hu hs hz hx (zb ht hx' hp)
      exact ⟨uv,w',ρ,.inl (zE a _ _ _ _ _ _ _ _ (fun _=>rfl) q1),q2,q3,New.refl _ _⟩
     ·cases hx
    ·cases hk
   ·cases hk
  ·cases hk
 case delete =>
  split at hk
  case h_2=>cases hk
  rename_i t u m k2
  unfold uo at hk
  split at hk
  ·rename_i m' k' kt et hm' hk' hu
   split at hk
   ·rename_i kk hkk
    cases hk
    simp only [opK] at hx
    split at hx
    ·rename_i p q hp hq
     split at hx
     ·rename_i h2 hh
      cases hx
      obtain ⟨w',q1,q2⟩:=kQ (P:=P) (u:=u) (ty:=type) r hu hkk hh (zb ht hm' hp) (zb ht hk' hq)
      exact ⟨.tuple #[],w',ρ,.inl (zE a _ _ _ _ _ _ _ _ (fun _=>rfl) q1),.tuple _ _ .nil,q2,New.refl _ _⟩
     ·cases hx
    ·cases hx
   ·cases hk
  ·cases hk
 all_goals cases hk
theorem l9 {w:World} {r s c:Nat} {sn:Array Nat} {ty:TypeId} (hr:w.heap[r]? = some (.mapIter none s sn c)):(Instr.next (.pointer (some ⟨r,0,none⟩)) false ty).run P w=.ok (.tuple #[.bool false]) w:=by
 simp only [Instr.next,getObj,Sem.run_bind,Sem.run,hr,Result.andThen]
 rfl
/-! #### Ranges over maps -/
theorem kO:∀ {l:List Nat} {b:Nat},gT l b=l.contains b
 | [],_=>rfl
 | a::r,b=>by
  have e:Nat.beq a b=(b == a):=by
   rw [Bool.eq_iff_iff]
   exact ⟨fun h=>by rw [Nat.eq_of_beq_eq_true h];exact beq_self_eq_true b,fun h=>by rw [eq_of_beq h];exact Nat.beq_refl a⟩
  rw [gT,kO,List.contains_cons,e]
def LeftR (ρ:Rho):List ((V × V) × Nat)→List MapEntry→Prop
 | [],[]=>True
 | ((k,v),n)::r,e::s=>VR ρ k e.key∧VR ρ v e.val∧n=e.born∧LeftR ρ r s
 | _,_=>False
theorem oP:∀ {es:List (V × V)} {l:List MapEntry} (seen:List Nat),MR ρ es l→LeftR ρ (se es (l.map MapEntry.born) seen) (l.filter fun e=>!seen.contains e.born)
 | [],[],_,_=>trivial
 | (k,v)::es,e::l,seen,hm=>by
  have ih:=oP seen hm.2.2
  simp only [List.map_cons,se,kO,List.filter_cons]
  cases hs:seen.contains e.born
  ·simp only [cond_false,Bool.not_false,if_true]
   exact ⟨hm.1,hm.2.1,rfl,ih⟩
  ·simp only [cond_true,Bool.not_true,Bool.false_eq_true,if_false]
   exact ih
 | [],_::_,_,h=>h.elim
 | _::_,[],_,h=>h.elim
theorem LeftR.mem:∀ {x:List ((V × V) × Nat)} {l:List MapEntry} {e:MapEntry},LeftR ρ x l→e∈l→∃ k v,((k,v),e.born)∈x∧VR ρ k e.key∧VR ρ v e.val
 | ((k,v),n)::x,f::l,e,h,hm=>by
  rcases List.mem_cons.1 hm with rfl | hm
  ·obtain ⟨h1,h2,rfl,_⟩:=h
   exact ⟨k,v,List.mem_cons_self,h1,h2⟩
  ·obtain ⟨k',v',q1,q2⟩:=LeftR.mem h.2.2.2 hm
   exact ⟨k',v',List.mem_cons_of_mem _ q1,q2⟩
 | [],_::_,_,h,_=>h.elim
 | _,[],_,_,hm=>by cases hm
theorem LeftR.nil {x:List ((V × V) × Nat)} (h:LeftR ρ x []):x=[]:=by
 cases x with
 | nil=>rfl
 | cons _ _=>exact h.elim
theorem mU:∀ {l:List Nat} {s:Nat},nq l s=true→∀ b∈l,b<s
 | a::r,s,h,b,hb=>by
  simp only [nq,Bool.and_eq_true] at h
  rcases List.mem_cons.1 hb with rfl | hb
  ·exact of_decide_eq_true (by simpa [Nat.blt_eq] using h.1)
  ·exact mU h.2 b hb
 | [],_,_,_,hb=>by cases hb
theorem dU (r:Rel P B w0 ρ h w) {rb b:Nat} {ux:Value} {s:Nat} {seen:List Nat} {c:Nat} {es:List (V × V)} {bs:List Nat} {cl:Nat} (hv:VR ρ (.ptr (some (rb,0))) ux) (ty:TypeId)
  (hg:h.get rb=some (.iter (some b) s seen c)) (hgm:h.get b=some (.map es bs cl)) (hok:(nq bs s && Nat.ble s c)=true) :
  (se es bs seen=[]∧(Instr.next ux false ty).run P w=.ok (.tuple #[.bool false]) w) ∨
  ∃ k v n u w',((k,v),n)∈se es bs seen∧(Instr.next ux false ty).run P w=.ok u w'∧VR ρ (.tuple [.bool true,k,v]) u∧Rel P B w0 ρ (h.put rb (.iter (some b) s (seen++[n]) cl)) w':=by
 cases hv with
 | ptr _ _ e ad hρ ha =>
 obtain ⟨o,g1,g2⟩:=r.obj _ _ hρ
 rw [hg] at g1
 cases g1
 obtain ⟨hB,m',k1,kz,e',k2,k3⟩:=g2
 subst k3
 obtain ⟨ces,q1,q2,q3⟩:=wk r k2 hgm
 simp only [Bool.and_eq_true] at hok
 have hold:∀ x∈ces.toList,x.born<s:=fun x hx=>mU hok.1 _ (by rw [q3];exact List.mem_map_of_mem hx)
 have hsc:=Nat.le_of_ble_eq_true hok.2
 have hl:=oP (ρ:=ρ) seen q2
 rw [←q3] at hl
 have el:(ces.toList.filter fun e=>!seen.contains e.born)=(leftOf ces seen.toArray).toList:=by
  simp [leftOf]
 rw [el] at hl
 rw [ha,show at_ e 0=⟨e.blk,0,none⟩ by simp [at_,kz]]
 rcases run_next_at (P:=P) w ty e.blk e'.blk s c seen.toArray ces cl k1 q1 hold hsc with ⟨h0,hrun⟩ | ⟨x,hx,w1,hal,hrun⟩
 ·refine .inl ⟨?_,hrun⟩
  have:(leftOf ces seen.toArray).toList=[]:=List.eq_nil_of_length_eq_zero (by simpa using h0)
  rw [this] at hl
  exact hl.nil
 ·obtain ⟨k,v,g1,g2,g3⟩:=hl.mem hx
  refine .inr ⟨k,v,x.born,_,_,g1,hrun,.tuple _ _ (.cons _ _ _ _ (.bool _) (.cons _ _ _ _ g2 (.cons _ _ _ _ g3 .nil))),?_⟩
  have r1:Rel P B w0 ρ h w1:=by
   rcases hal with rfl | rfl
   ·exact r
   ·exact r.drew
  have hlt:e.blk<w1.heap.size:=r1.live _ _ _ hρ hg rfl
  exact r1.setOwn hρ hg rfl (.inl (by simp [Obj.sups])) (fun S hS=>by cases hS;rfl) hB _ ⟨hB,some e'.blk,by simp [hlt],kz,e',k2,rfl⟩
theorem eC (r:Rel P B w0 ρ h w) {rb:Nat} {ux:Value} (hv:VR ρ (.ptr (some (rb,0))) ux) (ty:TypeId) {v:V} {h':Heap} (hx:oK h rb=some (v,h')) :
  ∃ u w',(Instr.next ux false ty).run P w=.ok u w'∧VR ρ v u∧Rel P B w0 ρ h' w':=by
 unfold oK at hx
 split at hx
 ·rename_i hg
  cases hx
  cases hv with
  | ptr _ _ e ad hρ ha =>
  obtain ⟨o,g1,g2⟩:=r.obj _ _ hρ
  rw [hg] at g1
  cases g1
  obtain ⟨_,m',k1,kz,k2⟩:=g2
  replace k2:m'=none:=k2
  subst k2
  refine ⟨.tuple #[.bool false],w,?_,.tuple _ _ (.cons _ _ _ _ (.bool _) .nil),r⟩
  rw [ha,show at_ e 0=⟨e.blk,0,none⟩ by simp [at_,kz]]
  exact l9 k1
 ·rename_i b s seen c hg
  split at hx
  ·rename_i es bs cl hgm
   split at hx
   ·rename_i hok
    have hn:=dU r hv ty hg hgm hok
    split at hx
    ·rename_i hl
     cases hx
     rcases hn with ⟨_,q⟩ | ⟨k,v,n,u,w',q,_⟩
     ·exact ⟨_,w,q,.tuple _ _ (.cons _ _ _ _ (.bool _) .nil),r⟩
     ·rw [hl] at q;cases q
    ·rename_i k v n hl
     cases hx
     rcases hn with ⟨q,_⟩ | ⟨k',v',n',u,w',q,q1,q2,q3⟩
     ·rw [hl] at q;cases q
     ·rw [hl] at q
      cases List.mem_singleton.1 q
      exact ⟨u,w',q1,q2,q3⟩
    ·cases hx
   ·cases hx
  ·cases hx
 ·cases hx
theorem oQ:∀ {l:List Nat} {n:Nat},gV l=some n→l.toArray.back? = some n
 | [a],n,h=>by cases h;rfl
 | _::b::r,n,h=>by
  have ih:=oQ (l:=b::r) h
  simpa using ih
 | [],_,h=>by cases h
theorem nh:∀ {es:List (V × V)} {l:List MapEntry} {n:Nat} {k v:V},MR ρ es l→lE es (l.map MapEntry.born) n=some (k,v)→∃ e,l.find? (·.born == n)=some e∧VR ρ k e.key∧VR ρ v e.val
 | (k0,v0)::es,e::l,n,k,v,hm,hx=>by
  simp only [List.map_cons,lE] at hx
  cases hb:Nat.beq e.born n <;> rw [hb] at hx
  ·obtain ⟨f,q1,q2⟩:=nh hm.2.2 hx
   refine ⟨f,?_,q2⟩
   have:(e.born == n)=false:=by
    rw [Bool.eq_false_iff];intro hh
    rw [eq_of_beq hh,Nat.beq_refl] at hb;cases hb
   simp [List.find?_cons,this,q1]
  ·cases hx
   have:e.born=n:=Nat.eq_of_beq_eq_true hb
   exact ⟨e,by simp [List.find?_cons,this],hm.1,hm.2.1⟩
 | [],[],_,_,_,_,hx=>by cases hx
 | [],_::_,_,_,_,hm,_=>hm.elim
 | _::_,[],_,_,_,hm,_=>hm.elim
theorem cy (r:Rel P B w0 ρ h w) {rb:Nat} {ux:Value} (hv:VR ρ (.ptr (some (rb,0))) ux) {v:V} {h':Heap} (hx:me h rb=some (v,h')) :
  ∃ u,h'=h∧(Instr.entry ux).run P w=.ok u w∧VR ρ v u:=by
 unfold me at hx
 split at hx
 ·rename_i b s seen c hg
  split at hx
  ·rename_i n es bs cl hn hgm
   split at hx
   ·rename_i hcl
    split at hx
    ·rename_i k v' hb
     cases hx
     cases hv with
     | ptr _ _ e ad hρ ha =>
     obtain ⟨o,g1,g2⟩:=r.obj _ _ hρ
     rw [hg] at g1
     cases g1
     obtain ⟨_,m',k1,kz,e',k2,k3⟩:=g2
     subst k3
     obtain ⟨ces,q1,q2,q3⟩:=wk r k2 hgm
     rw [q3] at hb
     obtain ⟨f,f1,f2,f3⟩:=nh q2 hb
     have hc:=Nat.eq_of_beq_eq_true hcl
     refine ⟨.tuple #[f.key,f.val],rfl,?_,.tuple _ _ (.cons _ _ _ _ f2 (.cons _ _ _ _ f3 .nil))⟩
     rw [ha,show at_ e 0=⟨e.blk,0,none⟩ by simp [at_,kz]]
     have f1':ces.find? (·.born == n)=some f:=by rw [←Array.find?_toList];exact f1
     simp only [Instr.entry,getObj,Sem.run_bind,Sem.run,k1,q1,Result.andThen,oQ hn,hc,bne_self_eq_false,Bool.false_eq_true,if_false,f1']
     rfl
    ·cases hx
   ·cases hx
  ·cases hx
 ·cases hx
set_option maxHeartbeats 1000000 in
theorem mI {o:Oper} {k:K} (hk:kC P o=some k) (hna:k.isAlloc=false) {nt:Nat} {tm:TM} {a:Act} (ht:TMR ρ nt tm a.tmps) (r:Rel P B w0 ρ h w) {v:V} {h':Heap} (hx:opK k tm h=some (v,h')) :
  Out P B w0 ρ h.size o a w v h':=by
 obtain ⟨dst,op,type,pos,after,guard⟩:=o
 cases op
 case move x =>
  simp only [kC] at hk
  split at hk
  ·rename_i y hy
   cases hk
   simp only [opK] at hx
   split at hx
   ·rename_i q hq
    cases hx
    exact Out.same r rfl (zb ht hy hq)
   ·cases hx
  ·cases hk
 case assign x =>
  simp only [kC] at hk
  split at hk
  ·rename_i y hy
   cases hk
   simp only [opK] at hx
   split at hx
   ·rename_i q hq
    cases hx
    exact Out.same r rfl (zb ht hy hq)
   ·cases hx
  ·cases hk
 case pick c x y =>
  simp only [kC] at hk
  split at hk
  ·rename_i c' x' y' hc hx' hy'
   cases hk
   simp only [opK] at hx
   split at hx
   ·rename_i t hq
    have hcb:=zb ht hc hq
    cases hcr:a.eval c <;> rw [hcr] at hcb <;> cases hcb
    split at hx
    ·rename_i q hq2
     cases hx
     cases t with
     | true=>exact Out.same r (by simp [execOp,hcr,asBool]) (zb ht hx' hq2)
     | false=>exact Out.same r (by simp [execOp,hcr,asBool]) (zb ht hy' hq2)
    ·cases hx
   ·cases hx
  ·cases hk
 case alloc t =>
  simp only [kC] at hk
  split at hk <;> cases hk
  cases hna
 case box t x =>
  simp only [kC] at hk
  split at hk <;> cases hk
  cases hna
 case build t parts =>
  simp only [kC] at hk
  split at hk
  ·rename_i z fs hz hu
   split at hk
   ·rename_i pl hpl
    split at hk
    ·rename_i ps hps
     cases hk
     simp only [opK] at hx
     split at hx
     ·rename_i vs hvs
      split at hx
      ·rename_i cs hcs
       cases hx
       obtain ⟨zv,hzv,hzr⟩:=xP hz
       obtain ⟨c',q1,q2⟩:=vX hps ht hvs hcs (hzr ρ)
       refine Out.same r (zn ?_) (.agg _ _ q2)
       have hm:=hQ (P:=P) (w:=w) (fun f:Field=>(do pure (f.offset,←sizeOf f.type):Sem (Nat × Nat))) fs (rj hpl)
       have hpl2:(fun i:Nat=>pl.toArray[i]?)=(fun i:Nat=>pl[i]?):=by funext i;simp
       have hparts:(parts.map fun (i,x)=>(i,a.eval x)).toList=parts.toList.map fun (i,x)=>(i,a.eval x):=by simp
       simp only [Instr.build,Sem.run_bind,xw hzv,Result.andThen_ok,zd hu,hm,hpl2,hparts,q1,Sem.run_pure]
      ·cases hx
     ·cases hx
    ·cases hk
   ·cases hk
  ·rename_i z n e hz hu
   split at hk
   ·rename_i s hs
    split at hk
    ·rename_i ps hps
     cases hk
     simp only [opK] at hx
     split at hx
     ·rename_i vs hvs
      split at hx
      ·rename_i cs hcs
       cases hx
       obtain ⟨zv,hzv,hzr⟩:=xP hz
       obtain ⟨c',q1,q2⟩:=vX hps ht hvs hcs (hzr ρ)
       refine Out.same r (zn ?_) (.agg _ _ q2)
       have hparts:(parts.map fun (i,x)=>(i,a.eval x)).toList=parts.toList.map fun (i,x)=>(i,a.eval x):=by simp
       simp only [Instr.build,Sem.run_bind,xw hzv,Result.andThen_ok,zd hu,yb hs,hparts,q1,Sem.run_pure]
      ·cases hx
     ·cases hx
    ·cases hk
   ·cases hk
  ·cases hk
 case buildSlice t len parts =>
  simp only [kC] at hk
  split at hk
  ·split at hk
   ·split at hk
    ·split at hk <;> cases hk
     cases hna
    ·cases hk
   ·cases hk
  ·cases hk
 case load t x =>
  simp only [kC] at hk
  split at hk
  ·rename_i y g hy hg
   cases hk
   simp only [opK] at hx
   split at hx
   ·rename_i q hq
    split at hx
    ·rename_i v' hv'
     cases hx
     obtain ⟨p,hp,u,q1,q2⟩:=sd (P:=P) r hg (zb ht hy hq) hv'
     refine Out.same r (zn ?_) q2
     rw [hp]
     simp only [Instr.loadAt,Instr.sureAddr,Sem.run_bind,Sem.run_pure,Result.andThen_ok,q1]
    ·cases hx
   ·cases hx
  ·cases hk
 case store t x y =>
  simp only [kC] at hk
  split at hk
  ·rename_i x' y' n hx' hy' hn
   cases hk
   simp only [opK] at hx
   split at hx
   ·rename_i p q hp hq
    split at hx
    ·rename_i h2 hh
     cases hx
     obtain ⟨ad,had,w',q1,q2⟩:=jL (P:=P) r hn (zb ht hx' hp) (zb ht hy' hq) hh
     refine ⟨undef,w',ρ,.inr ⟨tQ ?_,rfl⟩,.tuple _ _ .nil,q2,New.refl _ _⟩
     rw [had]
     simp only [Instr.storeAt,Instr.sureAddr,Sem.run_bind,Sem.run_pure,Result.andThen_ok,q1]
    ·cases hx
   ·cases hx
  ·cases hk
 case nilCheck x =>
  simp only [kC] at hk
  split at hk
  ·rename_i y hy
   cases hk
   simp only [opK] at hx
   split at hx
   ·rename_i p hq
    cases hx
    have hv:=zb ht hy hq
    cases hcr:a.eval x <;> rw [hcr] at hv
    case pointer ad =>
     cases ad with
     | none=>cases hv
     | some ad=>exact Out.same r (by simp [execOp,hcr]) hv
    all_goals cases hv
   ·rename_i f c1 c2 hq
    cases hx
    have hv:=zb ht hy hq
    cases hcr:a.eval x <;> rw [hcr] at hv
    case func fn first caps =>
     cases hv with
     | func _ _ _ _ _ h1 h2=>exact Out.same r (by simp [execOp,hcr]) (.func _ _ _ _ _ h1 h2)
    all_goals cases hv
   ·cases hx
  ·cases hk
 case binOp op t x y t2 =>
  simp only [kC,mh] at hk
  split at hk
  ·rename_i x' y' hx' hy'
   split at hk
   ·cases hk
    simp only [opK] at hx
    split at hx
    ·rename_i p q hp hq
     split at hx
     ·rename_i v' hv'
      cases hx
      obtain ⟨u,q1,q2⟩:=dj (P:=P) (w:=w) (t:=t) (ox:=x) (oy:=y) hv' (zb ht hx' hp) (zb ht hy' hq)
      exact Out.same r (zn q1) q2
     ·cases hx
    ·cases hx
   ·rename_i hni
    split at hk
    ·split at hk
     ·rename_i k' hn
      cases hk
      obtain ⟨x2,n1,rfl,rfl,i,n3⟩:=wI (P:=P) hn
      simp only [opK] at hx
      split at hx
      ·rename_i hq
       cases hx
       have:=oJ (P:=P) (w:=w) (op:=.eql) (x:=x) n3 (.inl rfl) (zb ht n1 hq) (.inl ⟨rfl,rfl⟩)
       exact Out.same r (zn this) (.bool _)
      ·rename_i hq
       cases hx
       have:=oJ (P:=P) (w:=w) (op:=.eql) (x:=x) n3 (.inl rfl) (zb ht n1 hq) (.inr ⟨_,_,rfl,rfl⟩)
       exact Out.same r (zn this) (.bool _)
      ·cases hx
     split at hk
     ·cases hk
     ·rename_i hg
      split at hk
      ·rename_i d hd
       cases hk
       simp only [opK] at hx
       split at hx
       ·rename_i p q hp hq
        split at hx
        ·rename_i b hb
         cases hx
         have:=bf (P:=P) (w:=w) (op:=.eql) (ox:=x) (oy:=y) hd (by simpa using hg) hb (zb ht hx' hp) (zb ht hy' hq) (.inl rfl) (by simpa using hni)
         exact Out.same r (zn this) (.bool _)
        ·cases hx
       ·cases hx
      ·cases hk
    ·split at hk
     ·rename_i k' hn
      cases hk
      obtain ⟨x2,n1,rfl,rfl,i,n3⟩:=wI (P:=P) hn
      simp only [opK] at hx
      split at hx
      ·rename_i hq
       cases hx
       have:=oJ (P:=P) (w:=w) (op:=.neq) (x:=x) n3 (.inr rfl) (zb ht n1 hq) (.inl ⟨rfl,rfl⟩)
       exact Out.same r (zn this) (.bool _)
      ·rename_i hq
       cases hx
       have:=oJ (P:=P) (w:=w) (op:=.neq) (x:=x) n3 (.inr rfl) (zb ht n1 hq) (.inr ⟨_,_,rfl,rfl⟩)
       exact Out.same r (zn this) (.bool _)
      ·cases hx
     split at hk
     ·cases hk
     ·rename_i hg
      split at hk
      ·rename_i d hd
       cases hk
       simp only [opK] at hx
       split at hx
       ·rename_i p q hp hq
        split at hx
        ·rename_i b hb
         cases hx
         have:=bf (P:=P) (w:=w) (op:=.neq) (ox:=x) (oy:=y) hd (by simpa using hg) hb (zb ht hx' hp) (zb ht hy' hq) (.inr rfl) (by simpa using hni)
         exact Out.same r (zn this) (.bool _)
        ·cases hx
       ·cases hx
      ·cases hk
    ·cases hk
  ·cases hk
 case unOp op t x =>
  simp only [kC] at hk
  split at hk
  ·rename_i y hy
   cases hk
   simp only [opK] at hx
   split at hx
   ·rename_i b hq
    cases hx
    have hv:=zb ht hy hq
    cases hcr:a.eval x <;> rw [hcr] at hv <;> cases hv
    exact Out.same r (by simp [execOp,hcr,Op.unary]) (.bool _)
   ·cases hx
  ·rename_i y hy
   cases hk
   simp only [opK] at hx
   split at hx
   ·rename_i kk n hq
    cases hx
    have hv:=zb ht hy hq
    cases hcr:a.eval x <;> rw [hcr] at hv <;> cases hv
    exact Out.same r (by simp [execOp,hcr,Op.unary,Op.intArith]) (.int _ _)
   ·cases hx
  ·rename_i y hy
   cases hk
   simp only [opK] at hx
   split at hx
   ·rename_i kk n hq
    cases hx
    have hv:=zb ht hy hq
    cases hcr:a.eval x <;> rw [hcr] at hv <;> cases hv
    refine Out.same r (zn (u:=.int kk (kk.wrap (BitVec.ofInt kk.bits (if kk.signed then -1 else kk.max) ^^^ BitVec.ofInt kk.bits n).toNat)) ?_) (.int _ _)
    rw [hcr]
    rfl
   ·cases hx
  ·cases hk
 case convert s d x =>
  simp only [kC,qI] at hk
  split at hk
  ·rename_i y ks kd hy hs hd
   cases hk
   simp only [opK] at hx
   split at hx
   ·rename_i k0 n hq
    cases hx
    have hv:=zb ht hy hq
    cases hcr:a.eval x <;> rw [hcr] at hv <;> cases hv
    refine Out.same r (zn (u:=.int kd (kd.wrap n)) ?_) (.int _ _)
    simp only [hcr,convert,Sem.run_bind,zd hs,zd hd,Result.andThen_ok,Conv.intToInt,Sem.run_pure]
   ·cases hx
  ·rename_i y hy hs hd
   cases hk
   simp only [opK] at hx
   split at hx
   ·rename_i l hq
    cases hx
    have hv:=zb ht hy hq
    cases hcr:a.eval x <;> rw [hcr] at hv
    case string sb =>
     refine Out.same r (zn (u:=.string sb) ?_) hv
     simp only [hcr,convert,Sem.run_bind,zd hs,zd hd,Result.andThen_ok,Sem.run_pure]
    all_goals cases hv
   ·cases hx
  ·rename_i y e hy hs hd
   split at hk
   ·rename_i he
    cases hk
    simp only [opK] at hx
    split at hx
    ·rename_i q hq
     split at hx
     ·rename_i v' hv'
      cases hx
      obtain ⟨u,q1,q2⟩:=jJ (P:=P) r hs he hd hv' (zb ht hy hq)
      exact Out.same r (zn q1) q2
     ·cases hx
    ·cases hx
   ·cases hk
  ·split at hk <;> cases hk
   cases hna
  ·rename_i y t hy hs hd
   split at hk
   ·rename_i m hm
    cases hk
    simp only [opK] at hx
    split at hx
    ·rename_i q hq
     split at hx
     ·rename_i hc
      cases hx
      have hv:=zb ht hy hq
      exact Out.same r (zn (gv (P:=P) r hc hv hs hd hm)) hv
     ·cases hx
    ·cases hx
   ·cases hk
  ·rename_i y t hy hs hd
   split at hk
   ·rename_i m hm
    split at hk
    ·rename_i hcl
     cases hk
     simp only [opK] at hx
     split at hx
     ·rename_i q hq
      split at hx
      ·rename_i hc
       cases hx
       have hv:=zb ht hy hq
       exact Out.same r (zn (jV (P:=P) r hc hv hs hd hm hcl)) hv
      ·cases hx
     ·cases hx
    ·cases hk
   ·cases hk
  ·cases hk
 case sliceToArrayPointer=>simp [kC] at hk
 case makeInterface t x =>
  simp only [kC] at hk
  split at hk
  ·cases hk
  ·rename_i d y h1 hu hy
   cases hk
   simp only [opK] at hx
   split at hx
   ·rename_i q hq
    cases hx
    refine Out.same r (zn (u:=.iface t (a.eval x)) ?_) (.iface _ _ _ (zb ht hy hq))
    simp only [Instr.makeInterface,Sem.run_bind,zd hu,Result.andThen_ok]
    rfl
   ·cases hx
  ·cases hk
 case makeFunc fn first caps =>
  cases fn <;> simp only [kC] at hk <;> try (cases hk;done)
  split at hk
  ·rename_i x' y' hx' hy'
   cases hk
   simp only [opK] at hx
   split at hx
   ·rename_i p q hp hq
    cases hx
    refine Out.same r (zn rfl) (.func _ _ _ _ _ ?_ ?_)
    ·have:=yS ht hx' hp;simpa using this
    ·have:=yS ht hy' hq;simpa using this
   ·cases hx
  ·cases hk
 case makeMap t rs =>
  cases rs <;> simp only [kC] at hk <;> cases hk
  cases hna
 case range t x =>
  simp only [kC] at hk
  split at hk
  ·rename_i x' kt et hx' hu
   cases hk
   simp only [opK] at hx
   have fin:∀ (m:Option Nat) (m':Option Nat) (s c:Nat),(Instr.range t (a.eval x)).run P w=.ok (.pointer (some ⟨w.heap.size,0,none⟩)) (w.alloc (.mapIter m' s #[] c)) →
     (match m with | none=>m'=none | some b=>∃ e',ρ b=some e'∧m'=some e'.blk)→(Abs.V.ptr (some (h.size,0)),h.push (.iter m s [] c))=(v,h')→Out P B w0 ρ h.size ⟨dst,.range t x,type,pos,after,guard⟩ a w v h':=by
    intro m m' s c q1 q2 q3
    cases q3
    have hle:RLe ρ (Rho.with_ ρ h.size ⟨w.heap.size,0,0⟩):=yJ r.none_at
    have ho:ORel P B (Rho.with_ ρ h.size ⟨w.heap.size,0,0⟩) (w.alloc (.mapIter m' s #[] c)) ⟨w.heap.size,0,0⟩ (.iter m s [] c):=by
     refine ⟨r.base,m',wC w _,rfl,?_⟩
     cases m with
     | none=>exact q2
     | some b=>obtain ⟨e',k1,k2⟩:=q2;exact ⟨e',hle _ _ k1,k2⟩
    exact ⟨_,_,Rho.with_ ρ h.size ⟨w.heap.size,0,0⟩,.inl (zn q1),.ptr _ _ _ _ zU (by simp [at_]),(r.push _).lay r.none_at (by rw [Heap.size_push];omega) (by rw [Heap.get_push,if_pos rfl]) _ _ ho,New.with_ r.none_at (Nat.le_refl _)⟩
   split at hx
   ·rename_i hp
    have hv:=zb ht hx' hp
    generalize hae:a.eval x=ux at hv fin
    cases hv
    exact fin none none 0 0 (run_range_nilMap w t kt et hu) rfl (Option.some.inj hx)
   ·rename_i b hp
    have hv:=zb ht hx' hp
    split at hx
    ·rename_i es bs cl hg
     generalize hae:a.eval x=ux at hv fin
     cases hv with
     | map _ e r1 hρ hr =>
     subst hr
     obtain ⟨ces,q1,q2,q3⟩:=wk r hρ hg
     exact fin (some b) (some e.blk) cl cl (run_range_map w t kt et e.blk ces cl hu q1) ⟨e,hρ,rfl⟩ (Option.some.inj hx)
    ·cases hx
   ·cases hx
  ·cases hk
 case next x is =>
  cases is with
  | true=>simp [kC] at hk
  | false =>
  simp only [kC] at hk
  split at hk
  ·rename_i x' hx'
   cases hk
   simp only [opK] at hx
   split at hx
   ·rename_i rb hp
    have hv:=zb ht hx' hp
    obtain ⟨u,w',q1,q2,q3⟩:=eC r hv type hx
    exact ⟨u,w',ρ,.inl (zn q1),q2,q3,New.refl _ _⟩
   ·cases hx
  ·cases hk
 case entry it =>
  simp only [kC] at hk
  split at hk
  ·rename_i x' hx'
   cases hk
   simp only [opK] at hx
   split at hx
   ·rename_i rb hp
    have hv:=zb ht hx' hp
    obtain ⟨u,q0,q1,q2⟩:=cy r hv hx
    subst q0
    exact Out.same r (zn q1) q2
   ·cases hx
  ·cases hk
 case makeChan=>simp [kC] at hk
 case makeSlice t l c =>
  simp only [kC] at hk
  split at hk
  ·split at hk
   ·split at hk <;> cases hk
    cases hna
   ·cases hk
  ·cases hk
 case slice t x lo hi mx =>
  simp only [kC,tj] at hk
  split at hk
  ·rename_i x' lo' hi' mx' hx' hlo hhi hmx
   split at hk
   ·rename_i hu
    split at hk
    ·cases hk
     simp only [opK] at hx
     split at hx
     ·rename_i p q1 q2 hp hq1 hq2
      split at hx
      ·rename_i v' hv'
       cases hx
       cases mx with
       | some m=>simp only [pJ] at hmx;split at hmx <;> cases hmx
       | none =>
       obtain ⟨u,g1,g2⟩:=nL (P:=P) (w:=w) hu hv' (zb ht hx' hp) (xU ht hlo hq1) (xU ht hhi hq2)
       exact Out.same r (zn g1) g2
      ·cases hx
     ·cases hx
    ·cases hk
   ·rename_i e hu
    split at hk
    ·rename_i s hs
     cases hk
     simp only [opK] at hx
     split at hx
     ·rename_i p q1 q2 q3 hp hq1 hq2 hq3
      split at hx
      ·rename_i v' hv'
       cases hx
       obtain ⟨u,g1,g2⟩:=mZ (P:=P) (w:=w) hu hs hv' (zb ht hx' hp) (xU ht hlo hq1) (xU ht hhi hq2) (xU ht hmx hq3)
       exact Out.same r (zn g1) g2
      ·cases hx
     ·cases hx
    ·cases hk
   ·rename_i n e hu
    split at hk
    ·rename_i s hs
     cases hk
     simp only [opK] at hx
     split at hx
     ·rename_i p q1 q2 hp hq1 hq2
      split at hx
      ·rename_i v' hv'
       cases hx
       cases mx with
       | some m=>simp only [pJ] at hmx;split at hmx <;> cases hmx
       | none =>
       obtain ⟨u,g1,g2⟩:=nM (P:=P) (w:=w) hu hs hv' (zb ht hx' hp) (xU ht hlo hq1) (xU ht hhi hq2)
       exact Out.same r (zn g1) g2
      ·cases hx
     ·cases hx
    ·cases hk
   ·cases hk
  ·cases hk
 case fieldAddr s x f =>
  simp only [kC] at hk
  split at hk
  ·rename_i fs x' hu hx'
   split at hk
   ·rename_i fd hfd
    split at hk
    ·rename_i n hn
     cases hk
     simp only [opK] at hx
     split at hx
     ·rename_i b o' hq
      cases hx
      have hv:=zb ht hx' hq
      cases hcr:a.eval x <;> rw [hcr] at hv
      case pointer ad =>
       cases hv with
       | ptr _ _ e ad' he had =>
       refine Out.same r (zn (u:=.pointer (some (ad'.add fd.offset))) ?_) (.ptr _ _ e _ he (by rw [had,ym]))
       simp only [hcr,Instr.fieldAt,Sem.run_bind,zd hu,Result.andThen_ok,hfd,Instr.sureAddr,Sem.run_pure,fieldPlace,yb hn,Nat.add_one_ne_zero,if_false]
      all_goals cases hv
     ·cases hx
    ·cases hk
   ·cases hk
  ·cases hk
 case field t x f =>
  simp only [kC] at hk
  split at hk
  ·rename_i fs x' hu hx'
   split at hk
   ·rename_i fd hfd
    split at hk
    ·rename_i g hg
     cases hk
     simp only [opK] at hx
     split at hx
     ·rename_i cs hq
      split at hx
      ·rename_i v' hv'
       cases hx
       have hv:=zb ht hx' hq
       cases hcr:a.eval x <;> rw [hcr] at hv
       case agg c =>
        cases hv with
        | agg _ _ hvs =>
        obtain ⟨u,q1,q2⟩:=vT (P:=P) (w:=w) hg hvs hv'
        refine Out.same r (zn (u:=u) ?_) q2
        simp only [hcr,Instr.field,Sem.run_bind,zd hu,Result.andThen_ok,hfd,asAgg,Sem.run_pure,q1]
       all_goals cases hv
      ·cases hx
     ·cases hx
    ·cases hk
   ·cases hk
  ·cases hk
 case indexAddr t x i =>
  simp only [kC] at hk
  split at hk
  ·rename_i e x' i' hu hx' hi'
   split at hk
   ·rename_i s hs
    cases hk
    simp only [opK] at hx
    split at hx
    ·rename_i p q hp hq
     split at hx
     ·rename_i v' hv'
      cases hx
      obtain ⟨u,q1,q2⟩:=i6 (P:=P) (w:=w) hu hs hv' (zb ht hx' hp) (zb ht hi' hq)
      exact Out.same r (zn q1) q2
     ·cases hx
    ·cases hx
   ·cases hk
  ·rename_i n e x' i' hu hx' hi'
   split at hk
   ·rename_i s hs
    cases hk
    simp only [opK] at hx
    split at hx
    ·rename_i p q hp hq
     split at hx
     ·rename_i v' hv'
      cases hx
      obtain ⟨u,q1,q2⟩:=jb (P:=P) (w:=w) hu hs hv' (zb ht hx' hp) (zb ht hi' hq)
      exact Out.same r (zn q1) q2
     ·cases hx
    ·cases hx
   ·cases hk
  ·cases hk
 case index t x i =>
  simp only [kC] at hk
  split at hk
  ·rename_i x' i' hu hx' hi'
   cases hk
   simp only [opK] at hx
   split at hx
   ·rename_i p q hp hq
    split at hx
    ·rename_i v' hv'
     cases hx
     obtain ⟨u,q1,q2⟩:=ip (P:=P) (w:=w) hu hv' (zb ht hx' hp) (zb ht hi' hq)
     exact Out.same r (zn q1) q2
    ·cases hx
   ·cases hx
  ·rename_i n e x' i' hu hx' hi'
   split at hk
   ·rename_i s g hs hg
    cases hk
    simp only [opK] at hx
    split at hx
    ·rename_i p q hp hq
     split at hx
     ·rename_i v' hv'
      cases hx
      obtain ⟨u,q1,q2⟩:=iq (P:=P) (w:=w) hu hs hg hv' (zb ht hx' hp) (zb ht hi' hq)
      exact Out.same r (zn q1) q2
     ·cases hx
    ·cases hx
   ·cases hk
  ·cases hk
 case lookup t m k' ok =>
  simp only [kC] at hk
  split at hk
  ·rename_i kt et m' k2 hu hm hk2
   split at hk
   ·rename_i z hz
    split at hk
    ·rename_i zv hzv
     split at hk
     ·rename_i kk hkk
      cases hk
      simp only [opK] at hx
      split at hx
      ·rename_i p q hp hq
       split at hx
       ·rename_i v' hv'
        cases hx
        obtain ⟨u,q1,q2⟩:=kT (P:=P) r hu hkk hz hzv hv' (zb ht hm hp) (zb ht hk2 hq)
        exact Out.same r (zn q1) q2
       ·cases hx
      ·cases hx
     ·cases hk
    ·cases hk
   ·cases hk
  ·cases hk
 case mapUpdate t m k' v2 =>
  simp only [kC] at hk
  split at hk
  ·rename_i kt et m' k2 v3 hu hm hk2 hv3
   split at hk
   ·rename_i kk hkk
    cases hk
    simp only [opK] at hx
    split at hx
    ·rename_i p q s hp hq hs
     split at hx
     ·rename_i h2 hh
      cases hx
      obtain ⟨w',q1,q2⟩:=rG (P:=P) r hu hkk hh (zb ht hm hp) (zb ht hk2 hq) (zb ht hv3 hs)
      exact ⟨undef,w',ρ,.inr ⟨tQ q1,rfl⟩,.tuple _ _ .nil,q2,New.refl _ _⟩
     ·cases hx
    ·cases hx
   ·cases hk
  ·cases hk
 case insert t m k' v2 =>
  simp only [kC] at hk
  split at hk
  ·rename_i kt et m' k2 v3 hu hm hk2 hv3
   split at hk
   ·rename_i kk hkk
    cases hk
    simp only [opK] at hx
    split at hx
    ·rename_i p q s hp hq hs
     split at hx
     ·rename_i h2 hh
      cases hx
      obtain ⟨w',q1,q2⟩:=rG (P:=P) r hu hkk hh (zb ht hm hp) (zb ht hk2 hq) (zb ht hv3 hs)
      exact ⟨undef,w',ρ,.inr ⟨tQ q1,rfl⟩,.tuple _ _ .nil,q2,New.refl _ _⟩
     ·cases hx
    ·cases hx
   ·cases hk
  ·cases hk
 case typeAssert x xt at_ ok =>
  cases ok with
  | true=>simp [kC] at hk
  | false =>
  simp only [kC] at hk
  split at hk
  ·cases hk
  ·rename_i y d hni hy hd
   cases hk
   simp only [opK] at hx
   split at hx
   ·rename_i t' v' hq
    split at hx
    ·rename_i ht'
     cases hx
     subst ht'
     have hv:=zb ht hy hq
     cases hcr:a.eval x <;> rw [hcr] at hv
     case iface t2 u2 =>
      cases hv with
      | iface _ _ _ hv2 =>
      refine Out.same r (zn (u:=u2) ?_) hv2
      rw [hcr]
      unfold Instr.typeAssert
      simp only [Sem.run_bind,zd hd,Result.andThen_ok]
      split
      all_goals first
       | exact (hni _ rfl).elim
       | (simp;done)
       | (rename_i h2;exact absurd rfl (h2 _ _))
       | (rename_i h2 h3;simp_all;done)
     all_goals cases hv
    ·cases hx
   ·cases hx
  ·cases hk
 case mapEntry t m k' =>
  simp only [kC] at hk
  split at hk
  ·rename_i kt et m' k2 hu hm hk2
   split at hk
   ·rename_i z hz
    split at hk
    ·rename_i zv hzv
     split at hk
     ·rename_i kk hkk
      cases hk
      simp only [opK] at hx
      split at hx
      ·rename_i p q hp hq
       obtain ⟨u,w',q1,q2,q3⟩:=kP (P:=P) r hu hkk hz hzv hx (zb ht hm hp) (zb ht hk2 hq)
       exact ⟨u,w',ρ,.inl (zn q1),q2,q3,New.refl _ _⟩
      ·cases hx
     ·cases hk
    ·cases hk
   ·cases hk
  ·cases hk
 case entryStore t m s x =>
  simp only [kC] at hk
  split at hk
  ·rename_i m' s' x' hm hs hx'
   cases hk
   simp only [opK] at hx
   split at hx
   ·rename_i p q s2 hp hq hs2
    split at hx
    ·rename_i h2 hh
     cases hx
     obtain ⟨w',q1,q2⟩:=ib (P:=P) (t:=t) r hh (zb ht hm hp) (zb ht hs hq) (zb ht hx' hs2)
     exact ⟨undef,w',ρ,.inr ⟨tQ q1,rfl⟩,.tuple _ _ .nil,q2,New.refl _ _⟩
    ·cases hx
   ·cases hx
  ·cases hk
 case extract x i =>
  simp only [kC] at hk
  split at hk
  ·rename_i y hy
   cases hk
   simp only [opK] at hx
   split at hx
   ·rename_i vs hq
    split at hx
    ·rename_i v' hv'
     cases hx
     have hv:=zb ht hy hq
     cases hcr:a.eval x <;> rw [hcr] at hv
     case tuple c =>
      cases hv with
      | tuple _ _ hvs =>
      obtain ⟨u,q1,q2⟩:=hvs.get _ _ hv'
      have q1':c[i]? = some u:=by simpa using q1
      refine Out.same r (zn (u:=u) ?_) q2
      simp only [hcr,Instr.extract,q1',Sem.run_pure]
     all_goals cases hv
    ·cases hx
   ·cases hx
  ·cases hk
 case call c =>
  obtain ⟨callee,args,ts⟩:=c
  cases callee
  case value f =>
   simp only [kC] at hk
   split at hk <;> cases hk
   simp [opK] at hx
  case invoke =>
   simp only [kC] at hk
   (repeat' split at hk) <;> cases hk <;> simp [opK] at hx
  case builtin b =>
   obtain ⟨args⟩:=args
   obtain ⟨ts⟩:=ts
   simp only [kC] at hk
   exact ln hk hna ht r hx
 all_goals simp [kC] at hk
end
end Abs
end Go.Proofs.YthgcjbniipfnbaaGreatDoor
namespace Go.Proofs.YthgcjbniipfnbaaGreatDoor
namespace Abs
set_option linter.unusedVariables false
set_option linter.unusedSimpArgs false
open Go.RowKit
section
variable {P:Program} {B:Nat} {w0:World}
theorem jR {ρ:Rho} {zs:List V} {z:Array Value} (hz:VRs ρ zs z.toList) (n:Nat) (h:n=0∨zs.length≠0):VRs ρ (ow n zs) ((Array.range n).map (z[· % z.size]!)).toList:=by
 have hl:zs.length=z.size:=by simpa using hz.length
 refine VRs.of_get (by simp [ow]) fun i v hi=>?_
 have hin:i<n:=by
  have:=(List.getElem?_eq_some_iff.1 hi).1
  simpa [ow] using this
 have hpos:0<zs.length:=by omega
 have hm:i % zs.length<zs.length:=Nat.mod_lt _ hpos
 simp only [ow,List.getElem?_map,List.getElem?_range hin,Option.map_some,Option.some.injEq] at hi
 rw [List.getD_eq_getElem?_getD,List.getElem?_eq_getElem hm,Option.getD_some] at hi
 obtain ⟨u,q1,q2⟩:=hz.get (i % zs.length) v (by rw [List.getElem?_eq_getElem hm,hi])
 refine ⟨u,?_,q2⟩
 simp only [Array.toList_map,Array.toList_range,List.getElem?_map,List.getElem?_range hin,Option.map_some,Option.some.injEq]
 have hq:z[i % z.size]? = some u:=by rw [←hl];simpa using q1
 rw [getElem!_def,hq]
theorem fW {t s:TypeId} (h:lY P t=some s):t=s:=by
 unfold lY at h
 split at h
 ·split at h
  ·split at h
   ·split at h
    ·cases h;rfl
    ·cases h
   ·cases h
  ·cases h
 ·cases h
theorem uR {ρ:Rho} {h:Heap} {w:World} {b:Nat} {o:Oper} {a:Act} (r:Rel P B w0 ρ h w) {cs:List V} (hb:ρ b=none) (hlt:b<h.size) {ty:Option Nat} (hg:h.get b=some (.cells cs (.tip [] 0 ty))) {C:Array Value} {el:TypeId} (hty:∀ t,ty=some t→el=t) (hv:VRs ρ cs C.toList)
  {v:V} {u:Value} (hrun:(execOp a.eval o).run P w=.ok (.value u) (w.alloc (.cells C el))) (hvr:VR (Rho.with_ ρ b ⟨w.heap.size,0,C.size⟩) v u) :
  ∃ u w' em,fH P o a w u w'∧VR (Rho.with_ ρ b em) v u∧Rel P B w0 (Rho.with_ ρ b em) h w':=by
 have hl:cs.length=C.size:=by simpa using hv.length
 exact ⟨u,_,_,.inl hrun,hvr,r.new hb hlt hg C el (by rw [hl,←Array.length_toList,List.take_length];exact hv) (by omega) hty⟩
theorem pa {o:Oper} {k:K} (hk:kC P o=some k) (ha:k.isAlloc=true) {tm:TM} {h0 h1:Heap} {v:V} (hx:opK k tm h0=some (v,h1)) :
  ∃ ob:Obj,h1=h0.push ob∧∀ {ρ:Rho} {h:Heap} {w:World} {a:Act} {nt:Nat},TMR ρ nt tm a.tmps→Rel P B w0 ρ h w→ρ h0.size=none→h0.size<h.size→h.get h0.size=some ob →
   ∃ u w' em,fH P o a w u w'∧VR (Rho.with_ ρ h0.size em) v u∧Rel P B w0 (Rho.with_ ρ h0.size em) h w':=by
 obtain ⟨dst,op,type,pos,after,guard⟩:=o
 have ptrV:∀ {ρ:Rho} {b n lim:Nat},VR (Rho.with_ ρ b ⟨n,0,lim⟩) (.ptr (some (b,0))) (.pointer (some ⟨n,0,none⟩)):=by
  intro ρ b n lim
  exact .ptr _ _ _ _ zU (by simp [at_])
 cases op
 case alloc t =>
  simp only [kC] at hk
  split at hk
  ·rename_i z hz
   cases hk
   simp only [opK] at hx
   cases hx
   refine ⟨_,rfl,fun {ρ h w a nt} ht r hb hlt hg=>?_⟩
   obtain ⟨zv,hzv,hzr⟩:=xP hz
   refine uR r hb hlt hg (C:=zv.cells) (el:=t) (fun s=>fW) (hzr ρ) (zn (u:=.pointer (some ⟨w.heap.size,0,none⟩)) ?_) ptrV
   simp only [Instr.alloc,Sem.run_bind,xw hzv,Result.andThen_ok,newVar,newRow,run_newObj,Sem.run_pure,World.alloc_eq]
  ·cases hk
 case box t x =>
  simp only [kC] at hk
  split at hk
  ·rename_i y hy
   cases hk
   simp only [opK] at hx
   split at hx
   ·rename_i q hq
    cases hx
    refine ⟨_,rfl,fun {ρ h w a nt} ht r hb hlt hg=>?_⟩
    refine uR r hb hlt hg (C:=(a.eval x).cells) (el:=t) (fun s h=>by cases h) (zb ht hy hq).cells (zn (u:=.pointer (some ⟨w.heap.size,0,none⟩)) ?_) ptrV
    simp only [Instr.box,Sem.run_bind,Result.andThen_ok,newVar,newRow,run_newObj,Sem.run_pure,World.alloc_eq]
   ·cases hx
  ·cases hk
 case buildSlice t len parts =>
  simp only [kC] at hk
  split at hk
  ·rename_i e hu
   split at hk
   ·rename_i s z hs hz
    split at hk
    ·rename_i ps hps
     split at hk
     ·rename_i hc
      cases hk
      simp only [opK] at hx
      split at hx
      ·rename_i vs hvs
       split at hx
       ·rename_i cs hcs
        cases hx
        refine ⟨_,rfl,fun {ρ h w a nt} ht r hb hlt hg=>?_⟩
        obtain ⟨zv,hzv,hzr⟩:=xP hz
        obtain ⟨c',q1,q2⟩:=vX hps ht hvs hcs (jR (hzr ρ) (len*s) hc.2)
        have hparts:(parts.map fun (i,x)=>(i,a.eval x)).toList=parts.toList.map fun (i,x)=>(i,a.eval x):=by simp
        refine uR r hb hlt hg (C:=c') (el:=e) (fun s h=>qe h) q2 (zn (u:=.slice (some ⟨w.heap.size,0,none⟩) len len) ?_) (.slice _ _ _ _ _ _ zU (fun _=>by simp [at_]) (Nat.le_refl _))
        have hn:¬ (2 ^ 24<len*s):=by have:=hc.1;omega
        by_cases h0:len*s=0
        ·have q1':Instr.fill (fun i=>some (i*s,s)) #[] (parts.toList.map fun (i,x)=>(i,a.eval x))=some c':=by
          have:(Array.range (len*s)).map (zv.cells[· % zv.cells.size]!)=#[]:=by rw [h0];simp
          rw [←this];exact q1
         have e0:(Array.range (len*s)).map ((#[]:Array Value)[· % (#[]:Array Value).size]!)=#[]:=by rw [h0];simp
         simp only [Instr.buildSlice,Sem.run_bind,zd hu,Result.andThen_ok,yb hs,gt_iff_lt,hn,if_false,h0,if_true,Sem.run_pure,hparts]
         rw [h0] at e0
         have hn0:¬ ((2:Nat) ^ 24<0):=by omega
         simp only [hn0,if_false,Sem.run_bind,Sem.run_pure,Result.andThen_ok,e0,q1',newRow,run_newObj,World.alloc_eq]
        ·simp only [Instr.buildSlice,Sem.run_bind,zd hu,Result.andThen_ok,yb hs,gt_iff_lt,hn,if_false,h0,Sem.run_pure,hparts,xw hzv,q1,newRow,run_newObj,World.alloc_eq]
       ·cases hx
      ·cases hx
     ·cases hk
    ·cases hk
   ·cases hk
  ·cases hk
 case makeMap t rs =>
  cases rs <;> simp only [kC] at hk
  ·cases hk
   simp only [opK] at hx
   cases hx
   refine ⟨_,rfl,fun {ρ h w a nt} ht r hb hlt hg=>?_⟩
   refine ⟨.map (some w.heap.size),_,_,.inl (zn ?_),.map _ _ _ zU rfl,r.newMap hb hlt hg⟩
   simp only [Instr.makeMap,Option.map_none,Sem.run_bind,run_newObj,Result.andThen_ok,Sem.run_pure,World.alloc_eq]
  ·cases hk
 case makeSlice t l c =>
  simp only [kC] at hk
  split at hk
  ·rename_i e l' c' hu hl hc
   split at hk
   ·rename_i s b z hs hb hz
    split at hk
    ·rename_i hzl
     cases hk
     simp only [opK] at hx
     split at hx
     ·rename_i p q hp hq
      have hx0:=hx
      cases p <;> try (simp [yU] at hx;done)
      cases q <;> try (simp [yU] at hx;done)
      rename_i kl l2 kc c2
      unfold yU at hx
      simp only at hx
      by_cases hcnd:0≤l2∧l2≤c2∧c2≤1099511627776∧c2*b≤140737488355328
      ·rw [if_pos hcnd] at hx
       cases hx
       refine ⟨_,rfl,fun {ρ h w a nt} ht r hb' hlt hg=>?_⟩
       obtain ⟨n,m,q1,q2,q3,C,q4,q5⟩:=kR (P:=P) r hu hs hb hz hzl.1 (l:=.int kl l2) (c:=.int kc c2) (v:=.slice (some (h.size,0)) l2.toNat c2.toNat) (h':=h.push (.cells (tT c2.toNat z) (.tip [] 0 none)))
        (by unfold yU;simp only;rw [if_pos hcnd]) (zb ht hl hp) (zb ht hc hq)
       cases q1
       exact uR r hb' hlt hg (C:=C) (el:=e) (fun s h=>by cases h) q5 (zn q4) (.slice _ _ _ _ _ _ zU (fun _=>by simp [at_]) q3)
      ·rw [if_neg hcnd] at hx;cases hx
     ·cases hx
    ·cases hk
   ·cases hk
  ·cases hk
 case convert s d x =>
  simp only [kC,qI] at hk
  split at hk
  ·cases hk;cases ha
  ·cases hk;cases ha
  ·split at hk
   ·cases hk;cases ha
   ·cases hk
  ·rename_i y e hy hs hd
   split at hk
   ·rename_i he h1
    cases hk
    simp only [opK] at hx
    split at hx
    ·rename_i l hq
     cases hx
     refine ⟨_,rfl,fun {ρ h w a nt} ht r hb hlt hg=>?_⟩
     obtain ⟨u,w',em,q1,q2,q3⟩:=mY (P:=P) r hs hd he (zb ht hy hq) hb hlt hg
     exact ⟨u,w',em,.inl (zn q1),q2,q3⟩
    ·cases hx
   ·cases hk
  ·split at hk
   ·cases hk;cases ha
   ·cases hk
  ·split at hk
   ·split at hk
    ·cases hk;cases ha
    ·cases hk
   ·cases hk
  ·cases hk
 case call c =>
  obtain ⟨callee,args,ts⟩:=c
  simp only [kC] at hk
  cases callee with
  | value f=>simp only at hk;split at hk <;> cases hk;cases ha
  | invoke=>simp only at hk;(repeat' split at hk) <;> cases hk <;> cases ha
  | builtin b =>
   simp only at hk
   cases b <;> simp only [wB,nW,uq,qH,tG,uo,mmC,rE] at hk <;> first
    | (cases hk;done)
    | ((repeat' split at hk) <;> first | (cases hk;done) | (cases hk;cases ha;done))
 case makeFunc fn x y =>
  cases fn <;> simp only [kC] at hk <;> first
   | (cases hk;done)
   | ((repeat' split at hk) <;> first | (cases hk;done) | (cases hk;cases ha;done))
 case next x is =>
  cases is <;> simp only [kC] at hk
  ·(repeat' split at hk) <;> first | (cases hk;done) | (cases hk;cases ha;done)
  ·cases hk
 case typeAssert x xt at_ ok =>
  cases ok <;> simp only [kC] at hk
  ·(repeat' split at hk) <;> first | (cases hk;done) | (cases hk;cases ha;done)
  ·cases hk
 case binOp op t x y t2 =>
  simp only [kC,mh] at hk
  (repeat' split at hk) <;> first
   | (cases hk;done)
   | (cases hk;cases ha;done)
   | (rename_i hn;cases hk;obtain ⟨_,_,rfl,_⟩:=wI (P:=P) hn;cases ha)
 all_goals simp only [kC,tj] at hk
 all_goals first
  | (cases hk;done)
  | ((repeat' split at hk) <;> first | (cases hk;done) | (cases hk;cases ha;done))
end
end Abs
end Go.Proofs.YthgcjbniipfnbaaGreatDoor
