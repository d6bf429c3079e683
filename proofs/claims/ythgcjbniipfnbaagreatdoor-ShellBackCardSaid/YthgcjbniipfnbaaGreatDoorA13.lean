/- The abstract machine's indexing, copies, conversions and maps are the model's. The abstract machine's makes, conversions and maps are the model's. The abstract machine's steps over unsafe: a builder's own address, its bytes as a string. The abstract machine's operations are the model's: all that calls nothing. The abstract machine's new blocks are the model's. -/
import Derived.Test.YthgcjbniipfnbaaGreatDoorA9
import Derived.Laws.MakeOwn
import Derived.Laws.BytesString
import Derived.Lib.ConvBytes
import Derived.Laws.IdiomMaps
import Derived.MapKept
import Derived.Lib.UnsafeStr
import Derived.Lib.Builder
import Derived.Maps.RangeRun
namespace Go.Proofs.YthgcjbniipfnbaaGreatDoor
namespace Abs
set_option linter.unusedVariables false
set_option linter.unusedSimpArgs false
open Go.RowKit
section
variable {P:Program} {B:Nat} {w0 w:World} {ρ:Rho} {h:Heap}
theorem extract_strOf (s:ByteArray) (l hh:Nat):strOf (s.extract l hh)=((strOf s).drop l).take (hh-l):=by
 simp [strOf,ByteArray.data_extract,List.extract_eq_take_drop,List.map_take,List.map_drop]
theorem bounds_str {len:Nat} {lo hi:Option V} {l hh:Nat} (hb:boundsA len len lo hi=some (l,hh)) {isSl:Bool} {ulo uhi:Option Value} (h1:VRo ρ lo ulo) (h2:VRo ρ hi uhi) :
  (Instr.sliceBounds isSl len len ulo uhi none).run P w=.ok (l,hh,len) w∧l≤hh∧hh≤len:=bounds_none hb (Nat.le_refl _) (Nat.le_refl _) h1 h2
theorem sliceStr_sound {t:TypeId} (ht:P.underlying t=some .string) {x v:V} {lo hi:Option V} (hv:sliceStrA x lo hi=some v) {ux:Value} {ulo uhi:Option Value}
  (hx:VR ρ x ux) (h1:VRo ρ lo ulo) (h2:VRo ρ hi uhi):∃ u,(Instr.sliceAt t ux ulo uhi none).run P w=.ok u w∧VR ρ v u:=by
 unfold sliceStrA at hv
 split at hv
 ·rename_i s
  cases hx with
  | str b _ hs =>
  subst hs
  have hl:(strOf b).length=b.size:=by simp [strOf]
  rw [hl] at hv
  split at hv
  ·rename_i l hh hb
   cases hv
   obtain ⟨q1,q2,q3⟩:=bounds_str (P:=P) (w:=w) (isSl:=false) hb h1 h2
   exact ⟨.string (b.extract l hh),by simp only [Instr.sliceAt,Sem.run_bind,run_und ht,Result.andThen_ok,Instr.slice,Option.isSome_none,Bool.false_eq_true,if_false,Sem.run_pure,q1],.str _ _ (extract_strOf b l hh).symm⟩
  ·cases hv
 ·cases hv
theorem sliceArr_sound {t e:TypeId} {n sz:Nat} (ht:P.underlying t=some (.array n e)) (hs:sizeC P e=some sz) {x v:V} {lo hi:Option V} (hv:sliceArrA n sz x lo hi=some v) {ux:Value} {ulo uhi:Option Value}
  (hx:VR ρ x ux) (h1:VRo ρ lo ulo) (h2:VRo ρ hi uhi):∃ u,(Instr.sliceAt t ux ulo uhi none).run P w=.ok u w∧VR ρ v u:=by
 unfold sliceArrA at hv
 split at hv
 ·rename_i b o
  cases hx with
  | ptr _ _ em a he ha =>
  split at hv
  ·rename_i l hh hb
   cases hv
   obtain ⟨q1,q2,q3⟩:=bounds_str (P:=P) (w:=w) (isSl:=false) hb h1 h2
   refine ⟨.slice (some (if n=l then a else a.add (l*sz))) (hh-l) (n-l),by simp only [Instr.sliceAt,Sem.run_bind,run_und ht,Result.andThen_ok,Instr.sureAddr,q1,run_size hs,Sem.run_pure],?_⟩
   refine .slice _ _ _ _ em _ he (fun hne=>?_) (by omega)
   rw [if_neg (by omega),ha,at_add]
  ·cases hv
 ·cases hv
theorem idxSl_sound {t e:TypeId} {sz:Nat} (ht:P.underlying t=some (.slice e)) (hs:sizeC P e=some sz) {x i v:V} (hv:idxSlA sz x i=some v) {ux ui:Value} (hx:VR ρ x ux) (hi:VR ρ i ui) :
  ∃ u,(Instr.indexAt t ux ui).run P w=.ok u w∧VR ρ v u:=by
 unfold idxSlA at hv
 split at hv
 ·rename_i n hn
  obtain ⟨k,rfl⟩:=int_of hn hi
  split at hv
  ·rename_i b o len cap
   cases hx with
   | slice _ _ _ _ em a he ha hl =>
   split at hv
   ·rename_i hk
    cases hv
    refine ⟨.pointer (some (a.add (n.toNat*sz))),?_,.ptr _ _ em _ he (by rw [ha (by omega),at_add])⟩
    simp only [Instr.indexAt,asIntOf,Sem.run_bind,Sem.run_pure,Result.andThen_ok,run_und ht,hk,and_self,if_true,run_size hs]
   ·cases hv
  ·rename_i b o len cap z
   cases hx with
   | oslice _ _ _ _ _ cap' em a he ha hl hc =>
   split at hv
   ·rename_i hk
    cases hv
    refine ⟨.pointer (some (a.add (n.toNat*sz))),?_,.ptr _ _ em _ he (by rw [(ha (by omega)).1,at_add])⟩
    simp only [Instr.indexAt,asIntOf,Sem.run_bind,Sem.run_pure,Result.andThen_ok,run_und ht,hk,and_self,if_true,run_size hs]
   ·cases hv
  ·cases hv
 ·cases hv
theorem idxArr_sound {t e:TypeId} {n sz:Nat} (ht:P.underlying t=some (.array n e)) (hs:sizeC P e=some sz) {x i v:V} (hv:idxArrA n sz x i=some v) {ux ui:Value} (hx:VR ρ x ux) (hi:VR ρ i ui) :
  ∃ u,(Instr.indexAt t ux ui).run P w=.ok u w∧VR ρ v u:=by
 unfold idxArrA at hv
 split at hv
 ·rename_i m b o hn
  obtain ⟨k,rfl⟩:=int_of hn hi
  cases hx with
  | ptr _ _ em a he ha =>
  split at hv
  ·rename_i hk
   cases hv
   refine ⟨.pointer (some (a.add (m.toNat*sz))),?_,.ptr _ _ em _ he (by rw [ha,at_add])⟩
   simp only [Instr.indexAt,asIntOf,Sem.run_bind,Sem.run_pure,Result.andThen_ok,run_und ht,Instr.sureAddr,hk,and_self,if_true,run_size hs]
  ·cases hv
 ·cases hv
theorem atStr_sound {t:TypeId} (ht:P.underlying t=some .string) {x i v:V} (hv:atStrA x i=some v) {ux ui:Value} (hx:VR ρ x ux) (hi:VR ρ i ui) :
  ∃ u,(Instr.index t ux ui).run P w=.ok u w∧VR ρ v u:=by
 unfold atStrA at hv
 split at hv
 ·rename_i s n hn
  obtain ⟨k,rfl⟩:=int_of hn hi
  cases hx with
  | str b _ hs =>
  subst hs
  split at hv
  ·rename_i h0
   split at hv
   ·rename_i c hc
    cases hv
    have hc':∃ d,b[n.toNat]? = some d∧d.toNat=c:=by
     simp only [strOf,List.getElem?_map,Option.map_eq_some_iff] at hc
     obtain ⟨d,hd,rfl⟩:=hc
     refine ⟨d,?_,rfl⟩
     have hlt:n.toNat<b.size:=by
      have:=(List.getElem?_eq_some_iff.1 hd).1
      simpa using this
     show (if hh:n.toNat<b.size then some (b[n.toNat]'hh) else none)=some d
     rw [dif_pos hlt]
     have:=(List.getElem?_eq_some_iff.1 hd).2
     rw [←this]
     rfl
    obtain ⟨d,hd,rfl⟩:=hc'
    refine ⟨_,?_,.int _ _⟩
    simp only [Instr.index,asIntOf,Sem.run_bind,Sem.run_pure,Result.andThen_ok,run_und ht,h0,if_true,hd]
   ·cases hv
  ·cases hv
 ·cases hv
theorem atArr_sound {t e:TypeId} {n sz:Nat} {g:Option Nat} (ht:P.underlying t=some (.array n e)) (hs:sizeC P e=some sz) (hg:aggC P e=some g) {x i v:V} (hv:atArrA n sz g x i=some v) {ux ui:Value} (hx:VR ρ x ux) (hi:VR ρ i ui) :
  ∃ u,(Instr.index t ux ui).run P w=.ok u w∧VR ρ v u:=by
 unfold atArrA at hv
 split at hv
 ·rename_i cs m hn
  obtain ⟨k,rfl⟩:=int_of hn hi
  cases hx with
  | agg _ a ha =>
  split at hv
  ·rename_i hk
   obtain ⟨u,q1,q2⟩:=part_sound (P:=P) (w:=w) hg ha hv
   refine ⟨u,?_,q2⟩
   simp only [Instr.index,asIntOf,Sem.run_bind,Sem.run_pure,Result.andThen_ok,run_und ht,hk,and_self,if_true,run_size hs,q1]
  ·cases hv
 ·cases hv
theorem slLen_of {x:V} {n:Nat} (hn:slLen x=some n) {ux:Value} (hx:VR ρ x ux):∃ A c,ux=.slice A n c:=by
 cases hx <;> simp only [slLen,Option.some.injEq] at hn <;> first | (cases hn;done) | (subst hn;exact ⟨_,_,rfl⟩)
theorem copy_sound (r:Rel P B w0 ρ h w) {t u e ty:TypeId} {sz:Nat} (ht:P.underlying t=some (.slice e)) (hs:sizeC P e=some sz) {x y v:V} {h':Heap} (hv:copyA h sz x y=some (v,h')) {ux uy:Value} (hx:VR ρ x ux) (hy:VR ρ y uy) :
  ∃ uv w',(Builtin.copy_ #[t,u] ty #[ux,uy]).run P w=.ok uv w'∧VR ρ v uv∧Rel P B w0 ρ h' w':=by
 unfold copyA at hv
 split at hv
 ·rename_i n m hn hm
  split at hv
  ·rename_i items hi
   obtain ⟨us,q1,q2⟩:=slCells_sound (P:=P) r hi hy ⟨m,hm,Nat.min_le_left _ _⟩
   obtain ⟨A,c,rfl⟩:=slLen_of hn hx
   obtain ⟨A2,c2,rfl⟩:=slLen_of hm hy
   have hrun:∀ w',(match A with | some a=>(storeCells a us).run P w=.ok () w' | none=>w'=w) →
     (Builtin.copy_ #[t,u] ty #[.slice A n c,.slice A2 m c2]).run P w=.ok (.int .i64 (min m n:Nat)) w':=by
    intro w' hw
    have q2':(Builtin.firstCells sz (Nat.min m n) (.slice A2 m c2)).run P w=.ok us.toArray w:=q2
    cases A with
    | none =>
     subst hw
     simp only [Builtin.copy_,List.getElem?_toArray,List.getElem?_cons_zero,List.getElem?_cons_succ,Sem.run_bind,run_und ht,Result.andThen_ok,Builtin.lenOf,Sem.run_pure,run_size hs,q2',goInt]
    | some a =>
     simp only at hw
     simp only [Builtin.copy_,List.getElem?_toArray,List.getElem?_cons_zero,List.getElem?_cons_succ,Sem.run_bind,run_und ht,Result.andThen_ok,Builtin.lenOf,Sem.run_pure,run_size hs,q2',goInt,hw]
   have hus0:min m n=0→us=[]:=by
    intro h0
    have:items=[]:=by
     unfold slCells at hi
     split at hi
     ·cases hi;rfl
     ·rw [if_pos h0] at hi;cases hi;rfl
     ·rw [if_pos h0] at hi;cases hi;rfl
     ·cases hi
    subst this
    cases q1;rfl
   split at hv
   ·rename_i b o l c'
    cases hx with
    | slice _ _ _ _ em a he ha hl =>
    split at hv
    ·rename_i h0
     cases hv
     refine ⟨_,w,hrun w ?_,by rw [h0];exact .int _ _,r⟩
     simp only [hus0 h0];rfl
    ·rename_i h0
     split at hv
     ·rename_i h2 hw
      cases hv
      obtain ⟨w',g1,g2⟩:=r.wr (P:=P) hw he q1
      refine ⟨_,w',hrun w' ?_,.int _ _,g2⟩
      rw [ha (by omega)];exact g1
     ·cases hv
   ·rename_i b o l c' z
    cases hx with
    | oslice _ _ _ _ _ cap' em a he ha hl hc =>
    split at hv
    ·rename_i h0
     cases hv
     refine ⟨_,w,hrun w ?_,by rw [h0];exact .int _ _,r⟩
     simp only [hus0 h0];rfl
    ·rename_i h0
     split at hv
     ·rename_i h2 hw
      cases hv
      obtain ⟨w',g1,g2⟩:=r.wr (P:=P) hw he q1
      refine ⟨_,w',hrun w' ?_,.int _ _,g2⟩
      rw [(ha (by omega)).1];exact g1
     ·cases hv
   ·cases hx
    cases hv
    exact ⟨_,w,hrun w rfl,.int _ _,r⟩
   ·cases hv
  ·cases hv
 ·cases hv
theorem zeroCells_toList (z:Array Value):∀ n:Nat,(Builtin.zeroCells z n).toList=(List.replicate n z.toList).flatten
 | 0=>by simp [Builtin.zeroCells]
 | n+1=>by
  have ih:=zeroCells_toList z n
  simp only [Builtin.zeroCells,Array.toList_map,Array.toList_range] at ih ⊢
  rw [Nat.add_mul,Nat.one_mul,List.range_add,List.map_append,ih,List.replicate_succ',List.flatten_append]
  congr 1
  apply List.ext_getElem?
  intro i
  by_cases hi:i<z.size
  ·have:(n*z.size+i) % z.size=i:=by rw [Nat.mul_comm,Nat.mul_add_mod,Nat.mod_eq_of_lt hi]
   simp [hi,this]
  ·simp [hi]
theorem reps_sound {zs:List V} {z:Array Value} (hz:VRs ρ zs z.toList):∀ n:Nat,VRs ρ (reps n zs) (List.replicate n z.toList).flatten
 | 0=>.nil
 | n+1=>by
  rw [List.replicate_succ,List.flatten_cons]
  exact hz.append (reps_sound hz n)
theorem clear_sound (r:Rel P B w0 ρ h w) {t e ty:TypeId} {sz:Nat} {zs:List V} (ht:P.underlying t=some (.slice e)) (hs:sizeC P e=some sz) (hz:zeroC P e=some zs) {x v:V} {h':Heap} (hv:clearA h sz zs x=some (v,h')) {ux:Value} (hx:VR ρ x ux) :
  ∃ uv w',(Builtin.clear_ #[t] ty #[ux]).run P w=.ok uv w'∧VR ρ v uv∧Rel P B w0 ρ h' w':=by
 obtain ⟨z,hzv,hzr⟩:=zeroC_val hz
 unfold clearA at hv
 split at hv
 ·cases hv
 ·rename_i hn
  cases hv
  obtain ⟨A,c,rfl⟩:=slLen_of hn hx
  refine ⟨.tuple #[],w,?_,.tuple _ _ .nil,r⟩
  cases A <;> simp [Builtin.clear_,run_und ht]
 ·rename_i n hn0 hn
  obtain ⟨A,c,rfl⟩:=slLen_of hn hx
  have hnz:n≠0:=fun h0=>by subst h0;exact hn0 rfl
  have hcs:VRs ρ (reps n zs) (Builtin.zeroCells z.cells n).toList:=by rw [zeroCells_toList];exact reps_sound (hzr ρ) n
  obtain ⟨n',rfl⟩:∃ m,n=m+1:=⟨n-1,by omega⟩
  split at hv
  ·rename_i b o l c'
   cases hx with
   | slice _ _ _ _ em a he ha hl =>
   split at hv
   ·rename_i h2 hw
    cases hv
    obtain ⟨w',g1,g2⟩:=r.wr (P:=P) hw he hcs
    refine ⟨.tuple #[],w',?_,.tuple _ _ .nil,g2⟩
    rw [ha (by omega)]
    simp [Builtin.clear_,run_und ht,run_zero hzv,g1]
   ·cases hv
  ·rename_i b o l c' zz
   cases hx with
   | oslice _ _ _ _ _ cap' em a he ha hl hc =>
   split at hv
   ·rename_i h2 hw
    cases hv
    obtain ⟨w',g1,g2⟩:=r.wr (P:=P) hw he hcs
    refine ⟨.tuple #[],w',?_,.tuple _ _ .nil,g2⟩
    rw [(ha (by omega)).1]
    simp [Builtin.clear_,run_und ht,run_zero hzv,g1]
   ·cases hv
  ·cases hv
end
end Abs
end Go.Proofs.YthgcjbniipfnbaaGreatDoor
namespace Go.Proofs.YthgcjbniipfnbaaGreatDoor
namespace Abs
set_option linter.unusedVariables false
set_option linter.unusedSimpArgs false
open Go.RowKit
section
variable {P:Program} {B:Nat} {w0 w:World} {ρ:Rho} {h:Heap}
theorem Rel.lay' (r:Rel P B w0 ρ h w) {b:Nat} {o:Obj} (hb:ρ b=none) (hlt:b<h.size) (hg:h.get b=some o) (ob:Go.Obj) (lim:Nat) {w':World}
  (hsz:w'.heap.size=w.heap.size+1) (hold:∀ k,k<w.heap.size→w'.heap[k]? = w.heap[k]?) (hnew:w'.heap[w.heap.size]? = some ob) (hbel:Below w.heap.size w w')
  (hrel:ORel P B (Rho.with_ ρ b ⟨w.heap.size,0,lim⟩) w' ⟨w.heap.size,0,lim⟩ o):Rel P B w0 (Rho.with_ ρ b ⟨w.heap.size,0,lim⟩) h w':=by
 have e1:∀ k:Nat,w'.heap[k]? = (w.alloc ob).heap[k]?:=by
  intro k
  show _=(w.heap.push ob)[k]?
  rw [Array.getElem?_push]
  by_cases hk:k=w.heap.size
  ·rw [if_pos hk,hk];exact hnew
  ·rw [if_neg hk]
   by_cases hlt:k<w.heap.size
   ·exact hold k hlt
   ·rw [Array.getElem?_eq_none (by omega),Array.getElem?_eq_none (by omega)]
 have r1:=r.lay hb hlt hg ob lim (hrel.heap (e1 _).symm)
 exact ⟨r1.dom,fun x e hx=>let ⟨o',q1,q2⟩:=r1.obj x e hx;⟨o',q1,q2.heap (e1 _)⟩,r1.sep,
  fun x e o' h1 h2 h3=>by have:=r1.live x e o' h1 h2 h3;simp at this;omega,r1.fresh,
  r.below.trans ⟨hbel.os,hbel.tape,hbel.output,hbel.size,fun k hk=>hbel.block k (Nat.lt_of_lt_of_le hk r.base)⟩,by have:=r.base;omega,r1.glob⟩
theorem makeSl_sound (r:Rel P B w0 ρ h w) {t e:TypeId} {sz bytes:Nat} {zs:List V} (ht:P.underlying t=some (.slice e)) (hs:sizeC P e=some sz) (hb:bytesC P e=some bytes) (hz:zeroC P e=some zs) (hzl:zs.length=sz)
  {l c v:V} {h':Heap} (hv:makeSlA h sz bytes zs l c=some (v,h')) {ul uc:Value} (hl:VR ρ l ul) (hc:VR ρ c uc) :
  ∃ n m:Nat,v=.slice (some (h.size,0)) n m∧h'=h.push (.cells (reps m zs) (.tip [] 0 none))∧n≤m ∧
   ∃ (C:Array Value),(Instr.makeSlice t ul uc).run P w=.ok (.slice (some ⟨w.heap.size,0,none⟩) n m) (w.alloc (.cells C e))∧VRs ρ (reps m zs) C.toList:=by
 cases l with
 | int kl l =>
  cases c with
  | int kc c =>
   cases hl
   cases hc
   unfold makeSlA at hv
   simp only at hv
   by_cases hk:0≤l∧l≤c∧c≤1099511627776∧c*bytes≤140737488355328
   ·rw [if_pos hk] at hv
    cases hv
    obtain ⟨z,hzv,hzr⟩:=zeroC_val hz
    obtain ⟨i,hi,rfl,rfl⟩:=info_of hs hb
    have hiz:i.zero=some z:=by unfold zeroVal at hzv;rw [hi] at hzv;simpa using hzv
    have hzs:z.cells.size=i.size:=by
     have:=(hzr ρ).length
     simp only [Array.length_toList] at this
     omega
    refine ⟨l.toNat,c.toNat,rfl,rfl,by omega,madeCells z.cells (c.toNat*i.size),?_,?_⟩
    ·exact run_make w t e i z ht hi hiz kl kc l c hk.1 hk.2.1 (by rw [Int.mul_comm];omega) (by omega)
    ·have:(madeCells z.cells (c.toNat*i.size)).toList=(List.replicate c.toNat z.cells.toList).flatten:=by
      rw [←zeroCells_toList,←hzs];rfl
     rw [this]
     exact reps_sound (hzr ρ) _
   ·rw [if_neg hk] at hv;cases hv
  | _=>simp [makeSlA] at hv
 | _=>simp [makeSlA] at hv
theorem bytesV_sound (s:ByteArray):VRs ρ (bytesV (strOf s)) (s.data.map fun b=>Value.int .u8 b.toNat).toList:=by
 simp only [bytesV,strOf,List.map_map,Array.toList_map]
 generalize s.data.toList=l
 induction l with
 | nil=>exact .nil
 | cons x l ih=>exact .cons _ _ _ _ (.int _ _) ih
theorem toBytes_sound (r:Rel P B w0 ρ h w) {src dst e:TypeId} {b:Nat} (hs:P.underlying src=some .string) (hd:P.underlying dst=some (.slice e)) (he:P.underlying e=some (.int .u8)) {s:List Nat} {us:Value} (hx:VR ρ (.str s) us)
  (hb:ρ b=none) (hlt:b<h.size) (hg:h.get b=some (.cells (bytesV s) (.tip [] 0 none))) :
  ∃ (u:Value) (w':World) (em:Emb),(convert src dst us).run P w=.ok u w'∧VR (Rho.with_ ρ b em) (.oslice b 0 s.length s.length 0) u∧Rel P B w0 (Rho.with_ ρ b em) h w':=by
 cases hx with
 | str sb _ hs' =>
 subst hs'
 have hrun:=Lib.run_convert_string_bytes w src dst e sb hs hd he
 have hle:RLe ρ (Rho.with_ ρ b ⟨w.heap.size,0,(Lib.bytesCells w e sb).size⟩):=with_le hb
 have hlen:(strOf sb).length=sb.size:=by simp [strOf]
 have hcap:sb.size≤grownCap w sb.size 0 e:=grownCap_ge _ _ _ _
 refine ⟨_,_,⟨w.heap.size,0,(Lib.bytesCells w e sb).size⟩,hrun,?_,?_⟩
 ·rw [hlen]
  exact .oslice _ _ _ _ _ _ _ _ with_same (fun _=>⟨by simp [at_],.inl rfl⟩) (Nat.le_refl _) hcap
 ·refine r.lay' hb hlt hg _ _ (Lib.bytesWorld_size w e sb) (fun k hk=>Lib.bytesWorld_at_old w e sb k hk) (Lib.bytesWorld_at_new w e sb)
   ⟨?_,?_,?_,by rw [Lib.bytesWorld_size];omega,fun k hk=>Lib.bytesWorld_at_old w e sb k hk⟩ ⟨r.base,?_,⟨⟨_,_,_,Lib.bytesWorld_at_new w e sb,rfl,.inr (.inr ⟨rfl,by simp only [Lib.bytesCells];simp⟩),fun t ht=>by cases ht⟩,?_⟩⟩
  ·unfold Lib.bytesWorld World.freeze;split <;> rfl
  ·unfold Lib.bytesWorld World.freeze;split <;> rfl
  ·unfold Lib.bytesWorld World.freeze;split <;> rfl
  ·intro i v hi
   obtain ⟨u,q1,q2⟩:=(bytesV_sound (ρ:=ρ) sb).get i v hi
   refine ⟨u,?_,q2.mono hle⟩
   have hin:i<sb.size:=by
    have:=(List.getElem?_eq_some_iff.1 hi).1
    simpa [bytesV,strOf] using this
   unfold World.cell?
   have:(Lib.bytesWorld w e sb).heap[(at_ ⟨w.heap.size,0,(Lib.bytesCells w e sb).size⟩ i).block]? = _:=Lib.bytesWorld_at_new w e sb
   rw [this]
   show (Lib.bytesCells w e sb)[0+i]? = some u
   rw [Nat.zero_add]
   unfold Lib.bytesCells
   rw [Array.getElem?_append_left (by simpa using hin)]
   simpa using q1
  ·simp only [bytesV,List.length_map,hlen,Nat.zero_add]
   unfold Lib.bytesCells
   simp
theorem u8s_sound:∀ {cs:List V} {l:List Nat},u8s cs=some l→∀ {us:List Value},VRs ρ cs us→∃ ns:List Int,us=ns.map (Value.int .u8)∧l=ns.map fun n=>n.toNat % 256
 | [],l,h,us,hv=>by cases h;cases hv;exact ⟨[],rfl,rfl⟩
 | .int .u8 n::r,l,h,us,hv=>by
  unfold u8s at h
  split at h
  ·rename_i l' hl'
   cases h
   cases hv with
   | cons _ u _ us hu ht =>
   cases hu
   obtain ⟨ns,q1,q2⟩:=u8s_sound hl' ht
   exact ⟨n::ns,by rw [q1];rfl,by rw [q2];rfl⟩
  ·cases h
 | .int .i8 _::_,_,h,_,_ | .int .i16 _::_,_,h,_,_ | .int .i32 _::_,_,h,_,_ | .int .i64 _::_,_,h,_,_ | .int .u16 _::_,_,h,_,_ | .int .u32 _::_,_,h,_,_ | .int .u64 _::_,_,h,_,_
 | .bool _::_,_,h,_,_ | .str _::_,_,h,_,_ | .ptr _::_,_,h,_,_ | .slice ..::_,_,h,_,_ | .oslice ..::_,_,h,_,_ | .map _::_,_,h,_,_ | .func ..::_,_,h,_,_ | .nilFunc::_,_,h,_,_ | .iface ..::_,_,h,_,_ | .nilIface::_,_,h,_,_
 | .agg _::_,_,h,_,_ | .tuple _::_,_,h,_,_=>by simp [u8s] at h
theorem push_strOf:∀ (ns:List Int) (s:ByteArray),strOf (ns.foldl (fun r n=>r.push (UInt8.ofNat n.toNat)) s)=strOf s++ns.map fun n=>n.toNat % 256
 | [],s=>by simp
 | n::ns,s=>by
  rw [List.foldl_cons,push_strOf ns]
  simp [strOf,ByteArray.push]
theorem toStr_sound (r:Rel P B w0 ρ h w) {src dst e:TypeId} (hs:P.underlying src=some (.slice e)) (he:P.underlying e=some (.int .u8)) (hd:P.underlying dst=some .string) {x v:V} (hv:toStrA h x=some v) {ux:Value} (hx:VR ρ x ux) :
  ∃ u,(convert src dst ux).run P w=.ok u w∧VR ρ v u:=by
 unfold toStrA at hv
 split at hv
 ·rename_i n hn
  split at hv
  ·rename_i cs hc
   split at hv
   ·rename_i l hl
    cases hv
    obtain ⟨us,q1,q2⟩:=slCells_sound (P:=P) r hc hx ⟨n,hn,Nat.le_refl _⟩
    obtain ⟨ns,g1,g2⟩:=u8s_sound hl q1
    obtain ⟨A,c,rfl⟩:=slLen_of hn hx
    rw [run_convert_bytes_string w src dst e A n c hs he hd]
    cases A with
    | none =>
     refine ⟨.string .empty,rfl,.str _ _ ?_⟩
     have:us=[]:=by
      simp only [Builtin.firstCells,Sem.run_pure,Result.ok.injEq,and_true] at q2
      have:=congrArg Array.toList q2
      simpa using this.symm
     subst this
     have:ns=[]:=List.map_eq_nil_iff.1 g1.symm
     subst this
     rw [g2];rfl
    | some a =>
     simp only [Builtin.firstCells,Nat.mul_one] at q2
     rw [g1] at q2
     rw [run_bytesToString w a n c ns q2]
     refine ⟨_,rfl,.str _ _ ?_⟩
     rw [push_strOf,g2]
     rfl
   ·cases hv
  ·cases hv
 ·cases hv
/-! ### Maps -/
def FKfits (k:FK) (d:TypeDesc):Prop :=
 match k with
 | .int=>∃ i,d=.int i
 | .str=>d=.string
 | .bool=>d=.bool
 | _=>False
theorem keyC_of {t:TypeId} {kk:FK} (hk:keyC P t=some kk):∃ d,P.underlying t=some d∧FKfits kk d:=by
 unfold keyC at hk
 split at hk
 ·rename_i i hu;cases hk;exact ⟨_,hu,⟨i,rfl⟩⟩
 ·rename_i hu;cases hk;exact ⟨_,hu,rfl⟩
 ·rename_i hu;cases hk;exact ⟨_,hu,rfl⟩
 ·cases hk
theorem same_sound {kk:FK} {d:TypeDesc} (hd:FKfits kk d) {x y:V} (hs:sameKind kk x y=true) {ux uy:Value} (hx:VR ρ x ux) (hy:VR ρ y uy):Instr.sameNow d ux uy=some (V.beq x y):=by
 unfold sameKind at hs
 split at hs
 ·obtain ⟨i,rfl⟩:=hd
  cases hx;cases hy
  have hk:=of_decide_eq_true hs
  subst hk
  simp [Instr.sameNow,V.beq]
 ·cases hd
  cases hx with
  | str s _ hs1 =>
  cases hy with
  | str s' _ hs2 =>
  subst hs1 hs2
  simp only [Instr.sameNow,V.beq]
  rw [beq_toListBytes,strEq]
 ·cases hd
  cases hx;cases hy
  simp [Instr.sameNow,V.beq]
 ·cases hs
theorem find_sound {kk:FK} {d:TypeDesc} (hd:FKfits kk d) {k:V} {uk:Value} (hk:VR ρ k uk):∀ {es:List (V × V)} {ces:List MapEntry} (hm:MR ρ es ces) (hok:(es.all fun e=>sameKind kk k e.1)=true) (n:Nat),
  (findM k es=none∧Instr.findNow d uk ces n=some none∧(∀ v,updM k v es=es++[(k,v)])∧delM k es=es∧∀ bs,delB k es bs=bs) ∨
  (∃ i m a v,Instr.findNow d uk ces n=some (some (n+i,m.val))∧ces[i]? = some m∧es[i]? = some (a,v)∧V.beq k a=true∧findM k es=some v∧VR ρ v m.val∧(∀ v',updM k v' es=es.set i (k,v'))∧delM k es=es.eraseIdx i∧∀ bs,delB k es bs=bs.eraseIdx i∧bornM k es bs=bs[i]?)
 | [],[],hm,hok,n=>.inl ⟨rfl,rfl,fun _=>rfl,rfl,fun bs=>by simp [delB]⟩
 | (a,v)::es,m::ces,hm,hok,n=>by
  obtain ⟨h1,h2,h3⟩:=hm
  simp only [List.all_cons,Bool.and_eq_true] at hok
  have hs:=same_sound hd hok.1 hk h1
  cases hb:V.beq k a with
  | true =>
   rw [hb] at hs
   refine .inr ⟨0,m,a,v,?_,rfl,rfl,hb,?_,h2,fun v'=>?_,?_,fun bs=>?_⟩
   ·simp [Instr.findNow,hs]
   ·simp [findM,hb]
   ·simp [updM,hb]
   ·simp [delM,hb]
   ·cases bs <;> simp [delB,bornM,hb]
  | false =>
   rw [hb] at hs
   rcases find_sound hd hk h3 hok.2 (n+1) with ⟨q1,q2,q3,q4,q9⟩ | ⟨i,m',a',v',q1,q2,q3,q4,q5,q6,q7,q8,q9⟩
   ·refine .inl ⟨by simp [findM,hb,q1],by simp [Instr.findNow,hs,q2],fun v'=>by simp [updM,hb,q3],by simp [delM,hb,q4],fun bs=>by cases bs <;> simp [delB,hb,q9]⟩
   ·refine .inr ⟨i+1,m',a',v',?_,by simpa using q2,by simpa using q3,q4,by simp [findM,hb,q5],q6,fun v''=>by simp [updM,hb,q7],by simp [delM,hb,q8],fun bs=>by cases bs <;> simp [delB,bornM,hb,q9]⟩
    rw [show n+(i+1)=n+1+i by omega]
    simp [Instr.findNow,hs,q1]
 | [],_::_,hm,_,_=>hm.elim
 | _::_,[],hm,_,_=>hm.elim
theorem check_key {kk:FK} {kt:TypeId} {d:TypeDesc} (hu:P.underlying kt=some d) (hd:FKfits kk d) (em:Bool) (n:Nat) (k:Value):(Instr.checkKey em (n+1) kt k).run P w=.ok () w:=by
 unfold FKfits at hd
 split at hd
 ·obtain ⟨i,rfl⟩:=hd
  simp only [Instr.checkKey,Sem.run_bind,run_und hu,Result.andThen_ok,Sem.run_pure]
 ·subst hd
  simp only [Instr.checkKey,Sem.run_bind,run_und hu,Result.andThen_ok,Sem.run_pure]
 ·subst hd
  simp only [Instr.checkKey,Sem.run_bind,run_und hu,Result.andThen_ok,Sem.run_pure]
 ·exact hd.elim
theorem map_of (r:Rel P B w0 ρ h w) {b:Nat} {e:Emb} {es:List (V × V)} {bs:List Nat} {cl:Nat} (hb:ρ b=some e) (hg:h.get b=some (.map es bs cl)):∃ ces,w.heap[e.blk]? = some (.map ces cl)∧MR ρ es ces.toList∧bs=ces.toList.map MapEntry.born:=by
 obtain ⟨o,h1,h2⟩:=r.obj b e hb
 rw [hg] at h1
 cases h1
 exact h2.2
theorem run_getObj {b:Nat} {ces:Array MapEntry} {clock:Nat} (hh:w.heap[b]? = some (.map ces clock)):(getObj b).run P w=.ok (.map ces clock) w:=by
 simp only [getObj,Sem.run,hh]
theorem run_setObj {b:Nat} {ces:Array MapEntry} {clock:Nat} (hh:w.heap[b]? = some (.map ces clock)) (o:Go.Obj):(setObj b o).run P w=.ok () { w with heap:=w.heap.setIfInBounds b o }:=by
 simp only [setObj,Sem.run,hh]
theorem lookup_sound (r:Rel P B w0 ρ h w) {t kt et:TypeId} {kk:FK} {z:Value} {zv:V} {ok:Bool} (ht:P.underlying t=some (.map kt et)) (hk:keyC P kt=some kk) (hz:zeroVal P et=some z) (hzv:ofV z=some zv)
  {m k v:V} (hv:lookupA h kk zv ok m k=some v) {um uk:Value} (hm:VR ρ m um) (hkr:VR ρ k uk):∃ u,(Instr.lookup t um uk ok).run P w=.ok u w∧VR ρ v u:=by
 obtain ⟨d,hu,hd⟩:=keyC_of hk
 have fin:∀ (es:List (V × V)) (ces:List MapEntry),MR ρ es ces→keysOk kk k es=true →
   ((Instr.findKey kt uk ces).run P w=.ok none w∧findM k es=none)∨(∃ i u v,(Instr.findKey kt uk ces).run P w=.ok (some (i,u)) w∧findM k es=some v∧VR ρ v u):=by
  intro es ces hmr hok
  unfold keysOk at hok
  simp only [Bool.and_eq_true] at hok
  rcases find_sound hd hkr hmr hok.2 0 with ⟨q1,q2,_,_,_⟩ | ⟨i,m',a',v',q1,q2,q3,q4,q5,q6,_,_,_⟩
  ·exact .inl ⟨by simp only [Instr.findKey,Sem.run_bind,run_und hu,Result.andThen_ok,q2,Sem.run_pure],q1⟩
  ·exact .inr ⟨0+i,_,_,by simp only [Instr.findKey,Sem.run_bind,run_und hu,Result.andThen_ok,q1,Sem.run_pure],q5,q6⟩
 have out:∀ (v:V) (u:Value) (b:Bool),VR ρ v u→VR ρ (if ok=true then V.tuple [v,.bool b] else v) (if ok=true then Value.tuple #[u,.bool b] else u):=by
  intro v u b hvu
  cases ok
  ·exact hvu
  ·exact .tuple _ _ (.cons _ _ _ _ hvu (.cons _ _ _ _ (.bool _) .nil))
 unfold lookupA at hv
 split at hv
 ·rename_i es hes
  split at hv
  ·rename_i hok
   cases hv
   unfold mapOf at hes
   split at hes
   ·cases hes
    cases hm
    rcases fin [] [] trivial hok with ⟨q1,q2⟩ | ⟨i,u,v,q1,q2,q3⟩
    ·refine ⟨_,?_,by rw [q2];exact out _ _ _ (ofV_sound ρ hzv)⟩
     simp only [Instr.lookup,Sem.run_bind,run_und ht,Result.andThen_ok,Sem.run_pure,check_key hu hd,q1,run_zero hz]
     rfl
    ·cases q2
   ·rename_i b
    split at hes
    ·rename_i es' bs cl hg
     cases hes
     cases hm with
     | map _ e rr he hr =>
     subst hr
     obtain ⟨ces,g1,g2,_⟩:=map_of r he hg
     rcases fin es ces.toList g2 hok with ⟨q1,q2⟩ | ⟨i,u,v,q1,q2,q3⟩
     ·refine ⟨_,?_,by rw [q2];exact out _ _ _ (ofV_sound ρ hzv)⟩
      simp only [Instr.lookup,Sem.run_bind,run_und ht,Result.andThen_ok,run_getObj g1,Sem.run_pure,check_key hu hd,q1,run_zero hz]
      rfl
     ·refine ⟨_,?_,by rw [q2];exact out _ _ _ q3⟩
      simp only [Instr.lookup,Sem.run_bind,run_und ht,Result.andThen_ok,run_getObj g1,Sem.run_pure,check_key hu hd,q1]
      rfl
    ·cases hes
   ·cases hes
  ·cases hv
 ·cases hv
theorem MR.append:∀ {x:List (V × V)} {y:List MapEntry} {k v:V} {m:MapEntry},MR ρ x y→VR ρ k m.key→VR ρ v m.val→MR ρ (x++[(k,v)]) (y++[m])
 | [],[],_,_,_,_,h1,h2=>⟨h1,h2,trivial⟩
 | (a,b)::x,n::y,_,_,_,h,h1,h2=>⟨h.1,h.2.1,MR.append h.2.2 h1 h2⟩
 | [],_::_,_,_,_,h,_,_=>h.elim
 | _::_,[],_,_,_,h,_,_=>h.elim
theorem MR.set:∀ {x:List (V × V)} {y:List MapEntry} {k v:V} {m:MapEntry} (i:Nat),MR ρ x y→VR ρ k m.key→VR ρ v m.val→MR ρ (x.set i (k,v)) (y.set i m)
 | [],[],_,_,_,_,_,_,_=>trivial
 | (a,b)::x,n::y,_,_,_,0,h,h1,h2=>⟨h1,h2,h.2.2⟩
 | (a,b)::x,n::y,_,_,_,i+1,h,h1,h2=>⟨h.1,h.2.1,MR.set i h.2.2 h1 h2⟩
 | [],_::_,_,_,_,_,h,_,_=>h.elim
 | _::_,[],_,_,_,_,h,_,_=>h.elim
theorem MR.erase:∀ {x:List (V × V)} {y:List MapEntry} (i:Nat),MR ρ x y→MR ρ (x.eraseIdx i) (y.eraseIdx i)
 | [],[],_,_=>trivial
 | (a,b)::x,n::y,0,h=>h.2.2
 | (a,b)::x,n::y,i+1,h=>⟨h.1,h.2.1,MR.erase i h.2.2⟩
 | [],_::_,_,h=>h.elim
 | _::_,[],_,h=>h.elim
theorem MR.length:∀ {x:List (V × V)} {y:List MapEntry},MR ρ x y→x.length=y.length
 | [],[],_=>rfl
 | (a,b)::x,n::y,h=>by simp [MR.length h.2.2]
 | [],_::_,h=>h.elim
 | _::_,[],h=>h.elim
theorem MR.key:∀ {x:List (V × V)} {y:List MapEntry} {i:Nat} {a v:V} {m:MapEntry},MR ρ x y→x[i]? = some (a,v)→y[i]? = some m→VR ρ a m.key
 | (a,b)::x,n::y,0,_,_,_,h,h1,h2=>by simp at h1 h2;obtain ⟨rfl,rfl⟩:=h1;subst h2;exact h.1
 | (a,b)::x,n::y,i+1,_,_,_,h,h1,h2=>by simp at h1 h2;exact MR.key h.2.2 h1 h2
 | [],[],_,_,_,_,_,h1,_=>by simp at h1
 | [],_::_,_,_,_,_,h,_,_=>h.elim
 | _::_,[],_,_,_,_,h,_,_=>h.elim
theorem keeps_sound {kk:FK} {x y:V} (hs:sameKind kk x y=true) (hb:V.beq x y=true) {ux uy:Value} (hx:VR ρ x ux) (hy:VR ρ y uy):(Instr.keyThatStays uy ux).run P w=.ok ux w:=by
 have:=V.beq_eq x y hb
 subst this
 have hsb:Instr.sameBits 10000 uy ux=true:=by
  unfold sameKind at hs
  split at hs
  ·cases hx;cases hy;simp [Instr.sameBits]
  ·cases hx with
   | str s _ h1 =>
   cases hy with
   | str s' _ h2 =>
   simp only [Instr.sameBits]
   rw [beq_toListBytes,strEq,←h1,←h2,beqL_refl]
  ·cases hx;cases hy;simp [Instr.sameBits]
  ·cases hs
 simp only [Instr.keyThatStays,hsb,if_true,Sem.run_pure]
theorem erase_map {α β:Type} (f:α→β):∀ (l:List α) (i:Nat),(l.map f).eraseIdx i=(l.eraseIdx i).map f
 | [],_=>rfl
 | a::l,0=>rfl
 | a::l,i+1=>by simp [erase_map f l i]
theorem born_modify (ces:Array MapEntry) (i:Nat) (uk uv:Value):(ces.modify i fun e=>{ e with key:=uk,val:=uv }).toList.map MapEntry.born=ces.toList.map MapEntry.born:=by
 rw [Array.toList_modify]
 generalize ces.toList=l
 induction l generalizing i with
 | nil=>simp
 | cons a l ih=>cases i <;> simp_all [List.modify_cons]
theorem born_modifyV (ces:Array MapEntry) (i:Nat) (uv:Value):(ces.modify i fun e=>{ e with val:=uv }).toList.map MapEntry.born=ces.toList.map MapEntry.born:=by
 rw [Array.toList_modify]
 generalize ces.toList=l
 induction l generalizing i with
 | nil=>simp
 | cons a l ih=>cases i <;> simp_all [List.modify_cons]
theorem born_modifyK (ces:Array MapEntry) (i:Nat) (uk:Value):(ces.modify i fun e=>{ e with key:=uk }).toList.map MapEntry.born=ces.toList.map MapEntry.born:=by
 rw [Array.toList_modify]
 generalize ces.toList=l
 induction l generalizing i with
 | nil=>simp
 | cons a l ih=>cases i <;> simp_all [List.modify_cons]
theorem mapUpd_sound (r:Rel P B w0 ρ h w) {t kt et:TypeId} {kk:FK} (ht:P.underlying t=some (.map kt et)) (hk:keyC P kt=some kk) {m k v:V} {h':Heap} (hv:mapUpdA h kk m k v=some h') {um uk uv:Value}
  (hm:VR ρ m um) (hkr:VR ρ k uk) (hvr:VR ρ v uv):∃ w',(Instr.mapUpdate t um uk uv).run P w=.ok () w'∧Rel P B w0 ρ h' w':=by
 obtain ⟨d,hu,hd⟩:=keyC_of hk
 unfold mapUpdA at hv
 split at hv
 ·rename_i b
  split at hv
  ·rename_i es bs cl hg
   split at hv
   ·rename_i hok
    cases hv
    cases hm with
    | map _ e rr he hr =>
    subst hr
    obtain ⟨ces,g1,g2,g3⟩:=map_of r he hg
    unfold keysOk at hok
    simp only [Bool.and_eq_true] at hok
    rcases find_sound hd hkr g2 hok.2 0 with ⟨q1,q2,q3,_⟩ | ⟨i,m',a',v',q1,q2,q3,q4,q5,q6,q7,_⟩
    ·rw [q1]
     refine ⟨_,?_,r.setMap he hg (ces.push { key:=uk,val:=uv,born:=cl }) _ (cl+1) ?_ ?_⟩
     ·simp only [Instr.mapUpdate,Sem.run_bind,run_und ht,Result.andThen_ok,run_getObj g1,check_key hu hd,Instr.findKey,run_und hu,q2,Sem.run_pure,run_setObj g1]
     ·rw [q3,Array.toList_push];exact g2.append hkr hvr
     ·rw [g3,Array.toList_push,List.map_append];rfl
    ·rw [q5]
     have hsk:sameKind kk k a'=true:=List.all_eq_true.1 hok.2 _ (List.mem_of_getElem? q3)
     have hkey:=keeps_sound (P:=P) (w:=w) hsk q4 hkr (g2.key q3 q2)
     have hget:ces[i]? = some m':=by simpa using q2
     refine ⟨_,?_,r.setMap he hg (ces.modify i fun e=>{ e with key:=uk,val:=uv }) _ cl ?_ (by rw [born_modify];exact g3)⟩
     ·simp only [Instr.mapUpdate,Sem.run_bind,run_und ht,Result.andThen_ok,run_getObj g1,check_key hu hd,Instr.findKey,run_und hu,q1,Sem.run_pure,Nat.zero_add,hget,Option.map_some,Option.getD_some,hkey,run_setObj g1]
     ·rw [q7]
      have:(ces.modify i fun e=>{ e with key:=uk,val:=uv }).toList=ces.toList.set i { m' with key:=uk,val:=uv }:=by
       rw [Array.toList_modify,List.modify_eq_set,q2]
       rfl
      rw [this]
      exact MR.set i g2 hkr hvr
   ·cases hv
  ·cases hv
 ·cases hv
theorem mapEnt_sound (r:Rel P B w0 ρ h w) {t kt et:TypeId} {kk:FK} {z:Value} {zv:V} (ht:P.underlying t=some (.map kt et)) (hk:keyC P kt=some kk) (hz:zeroVal P et=some z) (hzv:ofV z=some zv) {m k v:V} {h':Heap} (hv:mapEntA h kk zv m k=some (v,h')) {um uk:Value}
  (hm:VR ρ m um) (hkr:VR ρ k uk):∃ u w',(Instr.mapEntry t um uk).run P w=.ok u w'∧VR ρ v u∧Rel P B w0 ρ h' w':=by
 obtain ⟨d,hu,hd⟩:=keyC_of hk
 unfold mapEntA at hv
 split at hv
 ·rename_i b
  split at hv
  ·rename_i es bs cl hg
   split at hv
   ·rename_i hok
    cases hm with
    | map _ e rr he hr =>
    subst hr
    obtain ⟨ces,g1,g2,g3⟩:=map_of r he hg
    unfold keysOk at hok
    simp only [Bool.and_eq_true] at hok
    rcases find_sound hd hkr g2 hok.2 0 with ⟨q1,q2,q3,_⟩ | ⟨i,m',a',v',q1,q2,q3,q4,q5,q6,q7,_,q8⟩
    ·rw [q1] at hv
     simp only [Option.some.injEq,Prod.mk.injEq] at hv
     obtain ⟨rfl,rfl⟩:=hv
     refine ⟨_,_,?_,.tuple _ _ (.cons _ _ _ _ (ofV_sound ρ hzv) (.cons _ _ _ _ (.int _ _) .nil)),r.setMap he hg (ces.push { key:=uk,val:=z,born:=cl }) _ (cl+1) ?_ ?_⟩
     ·simp only [Instr.mapEntry,Sem.run_bind,run_und ht,Result.andThen_ok,run_getObj g1,check_key hu hd,Instr.findKey,run_und hu,q2,Sem.run_pure,run_zero hz,run_setObj g1,goInt]
     ·rw [q3,Array.toList_push];exact g2.append hkr (ofV_sound ρ hzv)
     ·rw [g3,Array.toList_push,List.map_append];rfl
    ·have hget:ces[i]? = some m':=by simpa using q2
     have hbn:bornM k es bs=some m'.born:=by
      rw [(q8 bs).2,g3,List.getElem?_map,q2];rfl
     rw [q5,hbn] at hv
     simp only [Option.some.injEq,Prod.mk.injEq] at hv
     obtain ⟨rfl,rfl⟩:=hv
     have hsk:sameKind kk k a'=true:=List.all_eq_true.1 hok.2 _ (List.mem_of_getElem? q3)
     have hkey:=keeps_sound (P:=P) (w:=w) hsk q4 hkr (g2.key q3 q2)
     refine ⟨_,_,?_,.tuple _ _ (.cons _ _ _ _ q6 (.cons _ _ _ _ (.int _ _) .nil)),r.setMap he hg (ces.modify i fun e=>{ e with key:=uk }) _ cl ?_ (by rw [born_modifyK];exact g3)⟩
     ·simp only [Instr.mapEntry,Sem.run_bind,run_und ht,Result.andThen_ok,run_getObj g1,check_key hu hd,Instr.findKey,run_und hu,q1,Sem.run_pure,Nat.zero_add,hget,Option.map_some,Option.getD_some,hkey,run_setObj g1,goInt]
     ·rw [q7]
      have:(ces.modify i fun e=>{ e with key:=uk }).toList=ces.toList.set i { m' with key:=uk }:=by
       rw [Array.toList_modify,List.modify_eq_set,q2]
       rfl
      rw [this]
      exact MR.set i g2 hkr q6
   ·cases hv
  ·cases hv
 ·cases hv
theorem setB_sound {n:Nat} {x:V} {ux:Value} (hx:VR ρ x ux):∀ {es:List (V × V)} {ces:List MapEntry} {es':List (V × V)},MR ρ es ces→setB n x es (ces.map MapEntry.born)=some es' →
  ∃ i m,ces.findIdx? (fun e=>(e.born:Int) == (n:Int))=some i∧ces[i]? = some m∧MR ρ es' (ces.set i { m with val:=ux })
 | [],[],_,_,hs=>by simp [setB] at hs
 | (a,v)::es,m::ces,es',hm,hs=>by
  simp only [List.map_cons,setB] at hs
  by_cases hb:m.born=n
  ·rw [if_pos hb] at hs
   cases hs
   exact ⟨0,m,by simp [List.findIdx?_cons,hb],rfl,hm.1,hx,hm.2.2⟩
  ·rw [if_neg hb] at hs
   split at hs
   ·rename_i l hl
    cases hs
    obtain ⟨i,m',q1,q2,q3⟩:=setB_sound hx hm.2.2 hl
    refine ⟨i+1,m',?_,by simpa using q2,hm.1,hm.2.1,q3⟩
    rw [List.findIdx?_cons,q1]
    have:((m.born:Int) == (n:Int))=false:=by simp;omega
    rw [this];rfl
   ·cases hs
 | [],_::_,_,hm,_=>hm.elim
 | _::_,[],_,hm,_=>hm.elim
theorem entSt_sound (r:Rel P B w0 ρ h w) {t:TypeId} {m s x:V} {h':Heap} (hv:entStA h m s x=some h') {um us ux:Value} (hm:VR ρ m um) (hsr:VR ρ s us) (hxr:VR ρ x ux) :
  ∃ w',(Instr.entryStore t um us ux).run P w=.ok () w'∧Rel P B w0 ρ h' w':=by
 unfold entStA at hv
 split at hv
 ·rename_i b k n
  split at hv
  ·rename_i es bs cl hg
   split at hv
   ·rename_i hn
    split at hv
    ·rename_i es' hes
     cases hv
     cases hm with
     | map _ e rr he hr =>
     subst hr
     cases hsr
     obtain ⟨ces,g1,g2,g3⟩:=map_of r he hg
     rw [g3] at hes
     obtain ⟨i,m',q1,q2,q3⟩:=setB_sound hxr g2 hes
     have hnn:((n.toNat:Nat):Int)=n:=by omega
     rw [hnn] at q1
     have hf:ces.findIdx? (fun e=>(e.born:Int) == n)=some i:=by
      obtain ⟨l⟩:=ces
      simpa using q1
     refine ⟨_,?_,r.setMap he hg (ces.modify i fun e=>{ e with val:=ux }) _ cl ?_ (by rw [born_modifyV];exact g3)⟩
     ·simp only [Instr.entryStore,Sem.run_bind,Result.andThen_ok,run_getObj g1,asInt,asIntOf,Sem.run_pure,hf,run_setObj g1]
     ·have:(ces.modify i fun e=>{ e with val:=ux }).toList=ces.toList.set i { m' with val:=ux }:=by
       rw [Array.toList_modify,List.modify_eq_set,q2]
       rfl
      rw [this]
      exact q3
    ·cases hv
   ·cases hv
  ·cases hv
 ·cases hv
theorem mapDel_sound (r:Rel P B w0 ρ h w) {t u kt et ty:TypeId} {kk:FK} (ht:P.underlying t=some (.map kt et)) (hk:keyC P kt=some kk) {m k:V} {h':Heap} (hv:mapDelA h kk m k=some h') {um uk:Value}
  (hm:VR ρ m um) (hkr:VR ρ k uk):∃ w',(Builtin.delete_ #[t,u] ty #[um,uk]).run P w=.ok (.tuple #[]) w'∧Rel P B w0 ρ h' w':=by
 obtain ⟨d,hu,hd⟩:=keyC_of hk
 unfold mapDelA at hv
 split at hv
 ·cases hv
  cases hm
  refine ⟨w,?_,r⟩
  simp [Builtin.delete_,run_und ht,check_key hu hd]
 ·rename_i b
  split at hv
  ·rename_i es bs cl hg
   split at hv
   ·rename_i hok
    cases hv
    cases hm with
    | map _ e rr he hr =>
    subst hr
    obtain ⟨ces,g1,g2,g3⟩:=map_of r he hg
    unfold keysOk at hok
    simp only [Bool.and_eq_true] at hok
    rcases find_sound hd hkr g2 hok.2 0 with ⟨q1,q2,_,q3,q8⟩ | ⟨i,m',a',v',q1,q2,q3,q4,q5,q6,_,q7,q8⟩
    ·refine ⟨_,?_,r.setMap he hg ces _ cl (by rw [q3];exact g2) (by rw [q8];exact g3)⟩
     simp [Builtin.delete_,run_und ht,run_getObj g1,check_key hu hd,Instr.findKey,run_und hu,q2,run_setObj g1]
    ·have:(ces.eraseIdxIfInBounds i).toList=ces.toList.eraseIdx i:=by
      rw [Array.toList_eraseIdxIfInBounds]
     refine ⟨_,?_,r.setMap he hg (ces.eraseIdxIfInBounds i) _ cl ?_ (by rw [(q8 bs).1,this,g3];exact erase_map _ _ _)⟩
     ·simp [Builtin.delete_,run_und ht,run_getObj g1,check_key hu hd,Instr.findKey,run_und hu,q1,run_setObj g1]
     ·rw [q7,this]
      exact MR.erase i g2
   ·cases hv
  ·cases hv
 ·cases hv
end
end Abs
end Go.Proofs.YthgcjbniipfnbaaGreatDoor
namespace Go.Proofs.YthgcjbniipfnbaaGreatDoor
namespace Abs
set_option linter.unusedVariables false
set_option linter.unusedSimpArgs false
open Go.RowKit
section
variable {P:Program} {B:Nat} {w0 w:World} {ρ:Rho} {h:Heap}
theorem heap_freeze_ne (w:World) (a:Addr) (n k:Nat) (hk:k≠a.block):(w.freeze a n).heap[k]? = w.heap[k]?:=by
 unfold World.freeze
 split
 ·rfl
 ·simp only [Array.getElem?_modify]
  rw [if_neg (Ne.symm hk)]
theorem heap_freeze_at (w:World) (a:Addr) (n:Nat) {c:Array Value} {el:TypeId} {fr:Nat × Nat} (hn:n≠0) (hc:w.heap[a.block]? = some (.cells c el fr)) :
  (w.freeze a n).heap[a.block]? = some (.cells c el (if fr.1 == fr.2 then (a.off,a.off+n) else (min fr.1 a.off,max fr.2 (a.off+n)))):=by
 unfold World.freeze
 rw [if_neg hn]
 simp only [Array.getElem?_modify]
 rw [if_pos trivial,hc]
 rfl
theorem size_freeze (w:World) (a:Addr) (n:Nat):(w.freeze a n).heap.size=w.heap.size:=by
 unfold World.freeze
 split
 ·rfl
 ·simp
theorem cell_freeze (w:World) (a:Addr) (n:Nat) (q:Addr):(w.freeze a n).cell? q=w.cell? q:=by
 by_cases hn:n=0
 ·unfold World.freeze;rw [if_pos hn]
 unfold World.cell?
 by_cases hk:q.block=a.block
 ·rw [hk]
  cases hh:w.heap[a.block]? with
  | none =>
   have:(w.freeze a n).heap[a.block]? = none:=by
    rw [Array.getElem?_eq_none_iff,size_freeze]
    exact Array.getElem?_eq_none_iff.1 hh
   rw [this]
  | some o =>
   cases o with
   | cells c el fr=>rw [heap_freeze_at w a n hn hh]
   | _ =>
    unfold World.freeze
    rw [if_neg hn]
    simp only [Array.getElem?_modify]
    rw [if_pos trivial,hh]
    rfl
 ·rw [heap_freeze_ne w a n _ hk]
theorem Rel.frozen (r:Rel P B w0 ρ h w) {b:Nat} {e:Emb} {cs:List V} {S:List Nat} {fz:Nat} {t:Nat} (hb:ρ b=some e) (hg:h.get b=some (.cells cs (.tip S fz (some t)))) (n:Nat) (hn:n≠0) :
  Rel P B w0 ρ (h.put b (.cells cs (.tip S (max fz n) (some t)))) (w.freeze ⟨e.blk,0,none⟩ n):=by
 obtain ⟨o0,hg0,hr0⟩:=r.obj b e hb
 rw [hg] at hg0
 cases hg0
 obtain ⟨hB,hcf,hown⟩:=hr0
 obtain ⟨⟨c,el,fr,hc,hs,hf,hty⟩,hroom⟩:=hown
 obtain ⟨rfl,hoff⟩:=hty t rfl
 have facts:∀ {e':Emb} {ds:List V},CellFacts ρ w e' ds→CellFacts ρ (w.freeze ⟨e.blk,0,none⟩ n) e' ds:=fun hh i v hi=>by
  obtain ⟨u,q1,q2⟩:=hh i v hi
  exact ⟨u,by rw [cell_freeze];exact q1,q2⟩
 refine ⟨r.dom,fun x e' hx=>?_,?_,fun x e' o' h1 h2 h3=>?_,fun x hx=>?_,Lib.below_freeze r.below (by exact hB) n,by rw [size_freeze];exact r.base,r.glob⟩
 ·rw [Heap.get_put]
  by_cases hxb:x=b
  ·subst hxb
   rw [hb] at hx
   cases hx
   refine ⟨.cells cs (.tip S (max fz n) (some el)),by rw [if_pos rfl],hB,facts hcf,⟨⟨c,el,_,heap_freeze_at w ⟨e.blk,0,none⟩ n hn hc,hs,?_,fun t' ht'=>by cases ht';exact ⟨rfl,hoff⟩⟩,hroom⟩⟩
   have hm:fz≤max fz n∧n≤max fz n:=⟨Nat.le_max_left _ _,Nat.le_max_right _ _⟩
   rw [hoff] at hf ⊢
   refine .inr (.inl ?_)
   rcases hf with q | q | ⟨q,_⟩
   ·simp only [q,beq_self_eq_true,if_true];omega
   ·by_cases hfr:fr.1=fr.2
    ·simp only [hfr,beq_self_eq_true,if_true];omega
    ·have:(fr.1 == fr.2)=false:=by simpa using hfr
     simp only [this,Bool.false_eq_true,if_false];omega
   ·cases q
  ·rw [if_neg hxb]
   obtain ⟨o',h1,h2⟩:=r.obj x e' hx
   refine ⟨o',h1,?_⟩
   by_cases hbk:e'.blk=e.blk
   ·cases o' with
    | dead=>trivial
    | cells ds st =>
     have hs:=r.sep b x e e' _ _ S hb hx (Ne.symm hxb) hg rfl h1 rfl hbk
     cases st with
     | ro=>exact absurd (h2.1) (by rw [hbk];omega)
     | tip S' fz' ty'=>exact absurd hs.2.1 (by simp [Obj.sups])
     | sup=>exact facts h2
    | map _ _ _ | loop _ _ _ _ _ _ _ | dfr | iter _ _ _ _ =>
     have hs:=r.sep b x e e' _ _ S hb hx (Ne.symm hxb) hg rfl h1 rfl hbk
     exact absurd hs.2.1 (by simp [Obj.sups])
   ·exact h2.heap (heap_freeze_ne _ _ _ _ hbk)
 ·intro x x' e1 e2 o1 o2 S' h1 h2 h3 h4 h5 h6 h7 h8
  rw [Heap.get_put] at h4 h6
  by_cases hx:x=b
  ·subst hx
   rw [if_pos rfl] at h4
   cases h4
   cases h5
   rw [if_neg (Ne.symm h3)] at h6
   have:=r.sep x x' e1 e2 (.cells cs (.tip S fz (some el))) o2 S h1 h2 h3 hg rfl h6 h7 h8
   exact this
  ·rw [if_neg hx] at h4
   by_cases hx':x'=b
   ·subst hx'
    rw [if_pos rfl] at h6
    cases h6
    exact absurd (r.sep x x' e1 e2 o1 _ S' h1 h2 h3 h4 h5 hg rfl h8).2.1 (by simp [Obj.sups])
   ·rw [if_neg hx'] at h6
    exact r.sep x x' e1 e2 o1 o2 S' h1 h2 h3 h4 h5 h6 h7 h8
 ·rw [Heap.get_put] at h2
  rw [size_freeze]
  by_cases hxb:x=b
  ·subst hxb;exact r.live x e' _ h1 hg rfl
  ·rw [if_neg hxb] at h2;exact r.live x e' o' h1 h2 h3
 ·rw [Heap.get_put,if_neg (by have:h.size≤x:=hx;have:=r.dom b e hb;omega)]
  exact r.fresh x hx
theorem liesAt_self {t:TypeId} {count:Nat} (hc:P.cellsOf t≠0) (hn:1≤count):liesAt P P.depth t count 0 t 1=true:=by
 have hd:P.depth=(2*(P.types.size+Made.depth)+1)+1:=rfl
 rw [hd]
 simp only [liesAt,Bool.or_eq_true]
 left
 rw [hd]
 simp [rowAt,hc,hn,sameLayout]
theorem sliceData_sound {x v:V} (hv:sliceDataA x=some v) {ux:Value} (hx:VR ρ x ux) (ts:Array TypeId) (ty:TypeId) :
  ∃ u,(Builtin.unsafeSliceData_ ts ty #[ux]).run P w=.ok u w∧VR ρ v u:=by
 cases hx with
 | sliceNil=>cases hv;exact ⟨_,rfl,.ptrNil⟩
 | slice b o len cap e a he ha hl =>
  simp only [sliceDataA] at hv
  split at hv
  ·cases hv
  ·rename_i hc
   cases hv
   exact ⟨_,Lib.run_unsafeSliceData_row w ts ty a len cap hc,.ptr b o e a he (ha hc)⟩
 | oslice b o len cap sz cap' e a he ha hl hcap =>
  simp only [sliceDataA] at hv
  split at hv
  ·cases hv
  ·rename_i hc
   cases hv
   have hc':cap'≠0:=by omega
   exact ⟨_,Lib.run_unsafeSliceData_row w ts ty a len cap' hc',.ptr b o e a he (ha hc').1⟩
 | _=>cases hv
theorem run_loadInts:∀ (ns:List Int) (a:Addr) (acc:ByteArray),(∀ j n,ns[j]? = some n→w.cell? (a.add j)=some (.int .u8 n)) →
  (loadBytes a acc ns.length).run P w=.ok (ns.foldl (fun r n=>r.push (UInt8.ofNat n.toNat)) acc) w
 | [],a,acc,_=>rfl
 | n::ns,a,acc,h=>by
  have h0:w.cell? a=some (.int .u8 n):=by
   have:=h 0 n rfl
   simpa [Addr.add] using this
  have ih:=run_loadInts ns (a.add 1) (acc.push n.toNat.toUInt8) (fun j y hy=>by
   have:=h (j+1) y (by simpa using hy)
   have e:(a.add 1).add j=a.add (j+1):=by
    unfold Addr.add
    by_cases hj:j=0
    ·subst hj;simp
    ·simp [hj];omega
   rw [e];exact this)
  simp only [List.length_cons,loadBytes,Sem.run_bind,run_load,h0,Result.andThen]
  rw [ih]
  rfl
theorem unsStr_sound (r:Rel P B w0 ρ h w) {x n v:V} {h':Heap} {bt:Nat} (hv:unsStrA h bt x n=some (v,h')) {ux un:Value} (hx:VR ρ x ux) (hn:VR ρ n un) (pt it ty:TypeId) (hp:P.underlying pt=some (.pointer bt)) (hc:P.cellsOf bt=1) :
  ∃ u w',(Builtin.unsafeString_ #[pt,it] ty #[ux,un]).run P w=.ok u w'∧VR ρ v u∧Rel P B w0 ρ h' w':=by
 have hmax:IntKind.i64.max=9223372036854775807:=rfl
 unfold unsStrA at hv
 split at hv
 ·rename_i n
  cases hn
  split at hv
  ·cases hx
   split at hv
   ·rename_i h0
    cases hv
    subst h0
    exact ⟨_,w,Lib.run_unsafeString_none w pt it ty none,.str _ _ rfl,r⟩
   ·cases hv
  ·rename_i b o
   cases hx with
   | ptr _ _ e a he ha =>
   split at hv
   ·rename_i h0
    cases hv
    subst h0
    exact ⟨_,w,Lib.run_unsafeString_none w pt it ty (some a),.str _ _ rfl,r⟩
   ·rename_i h0
    split at hv
    ·rename_i cs S fz ty2 hg
     split at hv
     ·rename_i hcond
      obtain ⟨hpos,hle,rfl,rfl,hmx⟩:=hcond
      split at hv
      ·rename_i l hl
       cases hv
       obtain ⟨o0,hg0,hr0⟩:=r.obj b e he
       rw [hg] at hg0
       cases hg0
       obtain ⟨hB,hcf,hown⟩:=hr0
       obtain ⟨⟨c,el,fr,hcell,hs,hf,hty⟩,hroom⟩:=hown
       obtain ⟨rfl,hoff⟩:=hty _ rfl
       have hsh:w.shape? e.blk=some (el,c.size):=by unfold World.shape?;rw [hcell]
       have hcs:∃ us,VRs ρ (cs.take n.toNat) us∧∀ j u,us[j]? = some u→w.cell? (at_ e j)=some u:=by
        have:=r.rds (P:=P) (n:=n.toNat) (o:=0) (cs:=cs.take n.toNat) he (by simp only [Heap.rds,hg];rw [if_pos (by omega)];simp)
        have key:∀ (ds:List V) (o:Nat),(∀ i v,ds[i]? = some v→∃ u,w.cell? (at_ e (o+i))=some u∧VR ρ v u)→∃ us,VRs ρ ds us∧∀ j u,us[j]? = some u→w.cell? (at_ e (o+j))=some u:=by
         intro ds
         induction ds with
         | nil=>intro o _;exact ⟨[],.nil,fun j u hj=>by simp at hj⟩
         | cons d ds ih =>
          intro o hh
          obtain ⟨u,q1,q2⟩:=hh 0 d rfl
          obtain ⟨us,g1,g2⟩:=ih (o+1) (fun i v hi=>by
           obtain ⟨u,q1,q2⟩:=hh (i+1) v (by simpa using hi)
           exact ⟨u,by rw [show o+1+i=o+(i+1) by omega];exact q1,q2⟩)
          refine ⟨u::us,.cons _ _ _ _ q2 g1,fun j u' hj=>?_⟩
          cases j with
          | zero=>simp at hj;subst hj;exact q1
          | succ j=>rw [show o+(j+1)=o+1+j by omega];exact g2 j u' (by simpa using hj)
        obtain ⟨us,g1,g2⟩:=key (cs.take n.toNat) 0 (fun i v hi=>by
         have hi':cs[i]? = some v:=by
          rw [List.getElem?_take] at hi
          split at hi
          ·exact hi
          ·cases hi
         obtain ⟨u,q1,q2⟩:=hcf i v hi'
         exact ⟨u,by rw [Nat.zero_add];exact q1,q2⟩)
        exact ⟨us,g1,fun j u hj=>by have:=g2 j u hj;rwa [Nat.zero_add] at this⟩
       obtain ⟨us,g1,g2⟩:=hcs
       obtain ⟨ns,q1,q2⟩:=u8s_sound hl g1
       subst q1
       have hlen:ns.length=n.toNat:=by
        have:=g1.length
        simp only [List.length_take,List.length_map] at this
        omega
       have ea:a=⟨e.blk,0,none⟩:=by rw [ha];simp [at_,hoff]
       have hload:=run_loadInts (P:=P) (w:=w) ns ⟨e.blk,0,none⟩ .empty (fun j m hj=>by
        have:=g2 j (.int .u8 m) (by rw [List.getElem?_map,hj];rfl)
        have e2:(⟨e.blk,0,none⟩:Addr).add j=at_ e j:=by
         unfold Addr.add at_
         by_cases hj0:j=0
         ·subst hj0;simp [hoff]
         ·simp [hj0,hoff]
        rw [e2];exact this)
       rw [hlen] at hload
       have hlies:=Lib.liesAt_bytes (P:=P) hc (c.size / P.cellsOf el) n.toNat (by rw [hc,Nat.div_one];omega)
       have hdef:Builtin.unsafeString_ #[pt,it] ty #[.pointer (some ⟨e.blk,0,none⟩),.int .i64 n] =
         (do
          let n ←asInt (.int .i64 n)
          if n<0 then runtimePanic (.error "unsafe.String: len out of range")
          if n > IntKind.i64.max then unsupported (.unsafePointer "String: a length above the largest int")
          if n=0 then pure (.string .empty)
          else if ←variablesAt ⟨e.blk,0,none⟩ (←elemOf pt) n.toNat then do
           let s ←loadBytes ⟨e.blk,0,none⟩ .empty n.toNat
           freeze ⟨e.blk,0,none⟩ n.toNat
           pure (.string s)
          else unsupported (.unsafePointer "String: not so many bytes at ptr")):=rfl
       refine ⟨.string (ns.foldl (fun r n=>r.push (UInt8.ofNat n.toNat)) .empty),w.freeze ⟨e.blk,0,none⟩ n.toNat,?_,?_,r.frozen he hg n.toNat (by omega)⟩
       ·rw [ea,hdef]
        have hneg:¬ n<0:=by omega
        have h63:¬ (9223372036854775807:Int)<n:=by omega
        have hz:¬ n=0:=h0
        simp [asInt,asIntOf,hmax,h63,hneg,hz,variablesAt,hsh,elemOf,run_underlying hp,hlies,hload]
       ·refine .str _ _ ?_
        rw [push_strOf,q2]
        rfl
      ·cases hv
     ·cases hv
    ·cases hv
  ·cases hv
 ·cases hv
theorem unsP_sound (r:Rel P B w0 ρ h w) {x:V} (hv:unsPA h x=true) {ux:Value} (hx:VR ρ x ux) {src dst t:TypeId} {n:Nat} (hs:P.underlying src=some (.pointer t)) (hd:P.underlying dst=some .unsafePointer) (ht:sizeC P t=some (n+1)) :
  (convert src dst ux).run P w=.ok ux w:=by
 unfold unsPA at hv
 split at hv
 ·rename_i b o
  cases hx with
  | ptr _ _ e a he ha =>
  split at hv
  ·rename_i cs S fz ty hg
   have ho:=of_decide_eq_true hv
   obtain ⟨o0,hg0,hr0⟩:=r.obj b e he
   rw [hg] at hg0
   cases hg0
   obtain ⟨hB,hcf,⟨⟨c,el,fr,hcell,hs',hf,hty⟩,hroom⟩⟩:=hr0
   obtain ⟨j,hj,hjs⟩:=Option.map_eq_some_iff.1 ht
   subst ha
   exact Lib.run_to_unsafe w (at_ e o) hs hd hj (by omega) (e:=el) (cells:=c.size) (by show w.shape? e.blk=_;unfold World.shape?;rw [hcell]) (by show e.off+o<_;omega)
  ·cases hv
 ·cases hv
theorem ofUns_sound (r:Rel P B w0 ρ h w) {u n:Nat} {x:V} (hv:ofUnsA h u (n+1) x=true) {ux:Value} (hx:VR ρ x ux) {src dst:TypeId} (hs:P.underlying src=some .unsafePointer) (hd:P.underlying dst=some (.pointer u)) (ht:sizeC P u=some (n+1))
  (hcl:P.cellsOf u=n+1):(convert src dst ux).run P w=.ok ux w:=by
 unfold ofUnsA at hv
 split at hv
 ·rename_i b o
  cases hx with
  | ptr _ _ e a he ha =>
  split at hv
  ·rename_i cs S fz ty hg
   obtain ⟨rfl,rfl,hle⟩:=of_decide_eq_true hv
   obtain ⟨o0,hg0,hr0⟩:=r.obj b e he
   rw [hg] at hg0
   cases hg0
   obtain ⟨hB,hcf,⟨⟨c,el,fr,hcell,hs',hf,hty⟩,hroom⟩⟩:=hr0
   obtain ⟨rfl,hoff⟩:=hty _ rfl
   obtain ⟨j,hj,hjs⟩:=Option.map_eq_some_iff.1 ht
   subst ha
   refine Lib.run_from_unsafe w (at_ e 0) hs hd hj (e:=el) (cells:=c.size) (by show w.shape? e.blk=_;unfold World.shape?;rw [hcell]) ?_
   show liesAt P P.depth el (c.size / P.cellsOf el) (e.off+0) el 1=true
   rw [hoff]
   exact liesAt_self (by omega) (by rw [hcl];exact (Nat.one_le_div_iff (by omega)).2 (by omega))
  ·cases hv
 ·cases hv
end
end Abs
end Go.Proofs.YthgcjbniipfnbaaGreatDoor
namespace Go.Proofs.YthgcjbniipfnbaaGreatDoor
namespace Abs
set_option linter.unusedVariables false
set_option linter.unusedSimpArgs false
open Go.RowKit
section
variable {P:Program} {B:Nat} {w0 w:World} {ρ:Rho} {h:Heap}
def Done (P:Program) (o:Oper) (a:Act) (w:World) (u:Value) (w':World):Prop :=
 (execOp a.eval o).run P w=.ok (.value u) w'∨((execOp a.eval o).run P w=.ok .skip w'∧u=undef)
theorem run_val {s:Sem Value} {u:Value} {w w':World} (h:s.run P w=.ok u w'):(do pure (Next.value (←s)):Sem Next).run P w=.ok (.value u) w':=by
 simp only [Sem.run_bind,h,Result.andThen_ok,Sem.run_pure]
theorem run_skip {s:Sem Unit} {w w':World} (h:s.run P w=.ok () w'):(do s;pure Next.skip:Sem Next).run P w=.ok .skip w':=by
 simp only [Sem.run_bind,h,Result.andThen_ok,Sem.run_pure]
abbrev Out (P:Program) (B:Nat) (w0:World) (ρ:Rho) (n:Nat) (o:Oper) (a:Act) (w:World) (v:V) (h':Heap):Prop :=
 ∃ u w' ρ',Done P o a w u w'∧VR ρ' v u∧Rel P B w0 ρ' h' w'∧New ρ ρ' n
theorem Out.same (r:Rel P B w0 ρ h w) {n:Nat} {o:Oper} {a:Act} {v:V} {u:Value} (hd:(execOp a.eval o).run P w=.ok (.value u) w) (hv:VR ρ v u):Out P B w0 ρ n o a w v h :=
 ⟨u,w,ρ,.inl hd,hv,r,New.refl _ _⟩
theorem eqRun {op:BinOp} {t:TypeId} {ox oy:Operand} {x y:V} {b:Bool} {d:EqD} (hd:eqdC P 1000 t=some d) (hg:P.eqGuardType P.depth t=false) (hv:eqA d x y=some b) {ux uy:Value} (hx:VR ρ x ux) (hy:VR ρ y uy)
  (hop:op=.eql∨op=.neq) (hni:(isInt P t || isStr P t)=false):(do eqGuard op t ox oy ux uy;binOp op t ux uy:Sem Value).run P w=.ok (.bool (if op=.neq then !b else b)) w:=by
 have hguard:(eqGuard op t ox oy ux uy).run P w=.ok () w:=by
  cases d with
  | flat k =>
   refine guard_flat op t ox oy ?_ ?_
   ·rintro ⟨rfl,rfl⟩
    cases hx;cases hy
    cases k <;> simp [eqA,flatEq] at hv
   ·rintro c e ⟨rfl,rfl⟩
    cases hx;cases hy
    cases k <;> simp [eqA,flatEq] at hv
  | struct fs =>
   cases x <;> try (simp [eqA] at hv;done)
   cases y <;> try (simp [eqA] at hv;done)
   cases hx;cases hy
   exact run_eqGuard_agg w op t ox oy _ _ hg
 have heq:=eqA_sound (P:=P) (w:=w) 1000 hd hv hx hy 10000 (by omega)
 have hbin:(binOp op t ux uy).run P w=((Op.equalIn 10000 t ux uy).run P w).andThen fun b w'=>.ok (.bool (if op=.neq then !b else b)) w':=by
  cases d with
  | flat k =>
   have hc:=flatC hd
   rcases hop with rfl | rfl <;> simp only [eqA] at hv <;> unfold flatEq at hv <;> split at hv <;> first | (cases hv;done) | skip
   all_goals (cases hx;cases hy)
   all_goals try (cases hv;done)
   all_goals (first | rw [heq] | skip)
   all_goals simp only [Result.andThen_ok,reduceCtorEq,if_false,if_true]
   all_goals first
    | (rfl;done)
    | (simp only [binOp,Op.equal,Op.maxDepth,Sem.run_bind,heq,Result.andThen_ok,Sem.run_pure,reduceCtorEq,if_false,if_true];done)
    | (obtain ⟨i,hi⟩:=hc;simp [isInt,hi] at hni;done)
    | (have hc':P.underlying t=some .string:=hc;simp [isStr,hc'] at hni;done)
  | struct fs =>
   cases x <;> try (simp [eqA] at hv;done)
   cases y <;> try (simp [eqA] at hv;done)
   cases hx;cases hy
   rcases hop with rfl | rfl
   ·rw [run_eql_struct];simp
   ·rw [run_neq_struct];simp
 simp only [Sem.run_bind,hguard,Result.andThen_ok,hbin,heq]
theorem isNil_run {t:TypeId} {neg:Bool} {x:Operand} {y0:Operand} {k:K} (hk:isNilC P t neg x y0=some k):∃ x',opdC x=some x'∧k=.isNil neg x'∧y0=.const .nilIface∧∃ i,P.underlying t=some (.interface i):=by
 unfold isNilC at hk
 split at hk
 ·rename_i i x' h1 h2
  cases hk
  exact ⟨x',h2,rfl,rfl,i,h1⟩
 ·cases hk
theorem nil_eq {op:BinOp} {t:TypeId} {x:Operand} {i:Array (String × TypeId)} (hu:P.underlying t=some (.interface i)) (hop:op=.eql∨op=.neq) {v:V} {ux:Value} (hx:VR ρ v ux) {b:Bool} (hv:(v=.nilIface∧b=true)∨(∃ t' v',v=.iface t' v'∧b=false)) :
  (do eqGuard op t x (.const .nilIface) ux .nilIface;binOp op t ux .nilIface:Sem Value).run P w=.ok (.bool (if op=.neq then !b else b)) w:=by
 rcases hv with ⟨rfl,rfl⟩ | ⟨t',v',rfl,rfl⟩
 ·cases hx
  have hg:(eqGuard op t x (.const .nilIface) .nilIface .nilIface).run P w=.ok () w:=by
   rcases hop with rfl | rfl <;> simp [eqGuard]
  have he:(Op.equal t .nilIface .nilIface).run P w=.ok true w:=by
   show (Op.equalIn (9999+1) t .nilIface .nilIface).run P w=_
   unfold Op.equalIn
   simp only [Sem.run_bind,run_und hu,Result.andThen_ok,Sem.run_pure]
  rcases hop with rfl | rfl <;> simp [hg,binOp,he]
 ·cases hx
  have hg:=guard_flat (P:=P) (w:=w) op t x (.const .nilIface) (a:=.iface t' ‹Value›) (b:=.nilIface) (by simp) (by simp)
  have he:(Op.equal t (.iface t' ‹Value›) .nilIface).run P w=.ok false w:=by
   show (Op.equalIn (9999+1) t (.iface t' ‹Value›) .nilIface).run P w=_
   unfold Op.equalIn
   simp only [Sem.run_bind,run_und hu,Result.andThen_ok,Sem.run_pure]
  rcases hop with rfl | rfl <;> simp [hg,binOp,he]
theorem byteTy_is {e t:TypeId} (h:byteTy P e=some t):e=t:=by
 unfold byteTy at h
 split at h
 ·cases h;rfl
 ·cases h;rfl
 ·cases h
theorem exec_builtin (a:Act) (b:Builtin) (args:List Operand) (ts:List TypeId) (dst:Option Tmp) (type:TypeId) (pos:String) (after:Array Edge) (guard:Option (Nat × Bool)) {s:Sem Value} (hb:∀ cs,builtin b ts.toArray type cs (args.map a.eval).toArray=(do pure (Next.value (←s))))
  {u:Value} {w w':World} (hs:s.run P w=.ok u w'):(execOp a.eval ⟨dst,.call ⟨.builtin b,args.toArray,ts.toArray⟩,type,pos,after,guard⟩).run P w=.ok (.value u) w':=by
 simp only [execOp,resolve,invoke,Sem.run_bind,Sem.run_pure,Result.andThen_ok,List.map_toArray,hb,hs]
theorem minNA_sound (mx:Bool):∀ (r:List V) (us:List Value) (k:IntKind) (a m:Int),VRs ρ r us→minNA mx a r=some m→(us.foldlM (m:=Sem) (if mx then Builtin.max2 else Builtin.min2) (.int k a)).run P w=.ok (.int k m) w
 | [],_,k,a,m,.nil,h=>by cases h;rfl
 | .int k' b::r,_,k,a,m,.cons _ _ _ us hv ht,h=>by
  cases hv
  simp only [minNA] at h
  rw [List.foldlM_cons]
  have:((if mx then Builtin.max2 else Builtin.min2) (.int k a) (.int k' b)).run P w=.ok (.int k (if mx then (if b > a then b else a) else (if b<a then b else a))) w:=by
   cases mx <;> simp [Builtin.max2,Builtin.min2]
  simp only [Sem.run_bind,this,Result.andThen_ok]
  exact minNA_sound mx r us k _ m ht h
 | .bool _::_,_,_,_,_,_,h | .str _::_,_,_,_,_,_,h | .ptr _::_,_,_,_,_,_,h | .slice ..::_,_,_,_,_,_,h | .oslice ..::_,_,_,_,_,_,h | .map _::_,_,_,_,_,_,h | .func ..::_,_,_,_,_,_,h
 | .nilFunc::_,_,_,_,_,_,h | .iface ..::_,_,_,_,_,_,h | .nilIface::_,_,_,_,_,_,h | .agg _::_,_,_,_,_,_,h | .tuple _::_,_,_,_,_,_,h | .yld _::_,_,_,_,_,_,h=>by simp [minNA] at h
theorem minN_sound (mx:Bool) {k:IntKind} {a m:Int} {r:List V} {us:List Value} (hv:VRs ρ (.int k a::r) us) (h:minNA mx a r=some m) :
  (match us with | []=>stuck "" | x::rest=>rest.foldlM (m:=Sem) (if mx then Builtin.max2 else Builtin.min2) x).run P w=.ok (.int k m) w∧True:=by
 cases hv with
 | cons _ u _ us hu ht =>
  cases hu
  exact ⟨minNA_sound mx r us k a m ht h,trivial⟩
theorem builtin_sound {b:Builtin} {args:List Operand} {ts:List TypeId} {dst:Option Tmp} {type:TypeId} {pos:String} {after:Array Edge} {guard:Option (Nat × Bool)} {k:K} (hk:builtinC P b ts args=some k) (hna:k.isAlloc=false)
  {nt:Nat} {tm:TM} {a:Act} (ht:TMR ρ nt tm a.tmps) (r:Rel P B w0 ρ h w) {v:V} {h':Heap} (hx:opK k tm h=some (v,h')) :
  Out P B w0 ρ h.size ⟨dst,.call ⟨.builtin b,args.toArray,ts.toArray⟩,type,pos,after,guard⟩ a w v h':=by
 cases b <;> simp only [builtinC] at hk
 case append =>
  split at hk
  case h_2=>cases hk
  rename_i t u x y
  unfold appendC at hk
  split at hk
  ·rename_i x' y' e hx' hy' hu
   split at hk
   ·rename_i s bt z hs hb hz
    split at hk
    ·rename_i hc
     obtain ⟨hzl,hs0,hb0⟩:=hc
     split at hk
     ·rename_i d hd
      cases hk
      simp only [opK] at hx
      split at hx
      ·rename_i p q hp hq
       unfold appendA at hx
       split at hx
       ·rename_i n hn
        split at hx
        ·rename_i items hi
         split at hx
         ·rename_i hcond
          obtain ⟨_,_,hil,hone⟩:=hcond
          obtain ⟨us,g1,g2⟩:=items_slice (P:=P) r hi (ev_sound ht hy' hq) hn
          obtain ⟨uv,w',ρ',q1,q2,q3,q4⟩:=core_sound (P:=P) (ty:=type) r ⟨hu,.inl ⟨d,hd⟩⟩ hs hb hz hzl (ev_sound ht hx' hp) g1 g2 hil hone hb0 hs0 (fun t=>byteTy_is) hx
          exact ⟨uv,w',ρ',.inl (exec_builtin a _ _ _ _ _ _ _ _ (fun _=>rfl) q1),q2,q3,q4⟩
         ·cases hx
        ·cases hx
       ·cases hx
      ·cases hx
     ·rename_i hd
      split at hk
      ·rename_i h11
       obtain ⟨rfl,rfl⟩:=h11
       cases hk
       simp only [opK] at hx
       split at hx
       ·rename_i p q hp hq
        unfold appendSA at hx
        split at hx
        ·rename_i s
         have hvy:=ev_sound ht hy' hq
         cases hcr:a.eval y <;> rw [hcr] at hvy
         case string sb =>
          cases hvy with
          | str _ _ hsb =>
          subst hsb
          have hlen:(strOf sb).length=sb.size:=by simp [strOf]
          rw [hlen] at hx
          have hfc:∀ w:World,(Builtin.firstCells 1 sb.size (.string sb)).run P w=.ok (sb.data.map fun b=>Value.int .u8 b.toNat).toList.toArray w:=by
           intro w
           simp only [Builtin.firstCells,Sem.run_pure]
           have:sb.extract 0 sb.size=sb:=by
            rw [ByteArray.ext_iff];simp [ByteArray.data_extract]
           rw [this]
          have hit:Items P w 1 sb.size (.string sb) (sb.data.map fun b=>Value.int .u8 b.toNat).toList:=⟨fun _=>rfl,hfc w,hfc w.drew⟩
          obtain ⟨uv,w',ρ',q1,q2,q3,q4⟩:=core_sound (P:=P) (ty:=type) r ⟨hu,.inr hd⟩ hs hb hz hzl (ev_sound ht hx' hp) (bytesV_sound sb) hit (by simp [bytesV,strOf]) (by simp [bytesV,V.one]) hb0 hs0 (fun t=>byteTy_is) hx
          refine ⟨uv,w',ρ',.inl (exec_builtin a _ _ _ _ _ _ _ _ (fun _=>rfl) ?_),q2,q3,q4⟩
          simp only [List.map_cons,List.map_nil,hcr]
          exact q1
         all_goals cases hvy
        ·cases hx
       ·cases hx
      ·cases hk
     ·cases hk
    ·cases hk
   ·cases hk
  ·cases hk
 case unsafeSliceData =>
  split at hk
  case h_2=>cases hk
  rename_i x
  split at hk
  ·rename_i x' hx'
   cases hk
   simp only [opK] at hx
   split at hx
   ·rename_i p hp
    split at hx
    ·rename_i q hq
     cases hx
     obtain ⟨u,q1,q2⟩:=sliceData_sound (P:=P) (w:=w) hq (ev_sound ht hx' hp) ts.toArray type
     exact ⟨u,w,ρ,.inl (exec_builtin a _ _ _ _ _ _ _ _ (fun _=>rfl) q1),q2,r,New.refl _ _⟩
    ·cases hx
   ·cases hx
  ·cases hk
 case unsafeString =>
  split at hk
  case h_2=>cases hk
  rename_i pt it x n
  split at hk
  ·rename_i x' n' e hx' hn' hp'
   split at hk
   ·rename_i hc
    cases hk
    simp only [opK] at hx
    split at hx
    ·rename_i p q hp hq
     obtain ⟨u,w',q1,q2,q3⟩:=unsStr_sound (P:=P) r hx (ev_sound ht hx' hp) (ev_sound ht hn' hq) pt it type hp' hc
     exact ⟨u,w',ρ,.inl (exec_builtin a _ _ _ _ _ _ _ _ (fun _=>rfl) q1),q2,q3,New.refl _ _⟩
    ·cases hx
   ·cases hk
  ·cases hk
 case len =>
  split at hk
  case h_2=>cases hk
  rename_i t x
  unfold lenC at hk
  split at hk
  ·rename_i x' hx' hu
   cases hk
   simp only [opK] at hx
   split at hx
   ·rename_i l hq
    cases hx
    have hv:=ev_sound ht hx' hq
    cases hcr:a.eval x <;> rw [hcr] at hv
    case string sb =>
     cases hv with
     | str _ _ hs =>
     subst hs
     refine Out.same r (exec_builtin a _ _ _ _ _ _ _ _ (fun _=>rfl) (u:=.int .i64 (sb.size:Nat)) ?_) (by simp only [strOf,List.length_map,Array.length_toList];exact .int _ _)
     simp [Builtin.len_,run_und hu,hcr,goInt]
    all_goals cases hv
   ·cases hx
  ·rename_i x' e hx' hu
   cases hk
   simp only [opK] at hx
   split at hx
   ·rename_i q hq
    split at hx
    ·rename_i n hn
     cases hx
     obtain ⟨A,c,hcr⟩:=slLen_of hn (ev_sound ht hx' hq)
     refine Out.same r (exec_builtin a _ _ _ _ _ _ _ _ (fun _=>rfl) (u:=.int .i64 (n:Nat)) ?_) (.int _ _)
     simp [Builtin.len_,run_und hu,hcr,goInt]
    ·cases hx
   ·cases hx
  ·rename_i x' kt et hx' hu
   cases hk
   simp only [opK] at hx
   split at hx
   ·rename_i q hq
    split at hx
    ·rename_i es hes
     cases hx
     have hv:=ev_sound ht hx' hq
     unfold mapOf at hes
     split at hes
     ·cases hes
      cases hcr:a.eval x <;> rw [hcr] at hv
      case map mr =>
       cases hv
       refine Out.same r (exec_builtin a _ _ _ _ _ _ _ _ (fun _=>rfl) (u:=.int .i64 ((0:Nat):Int)) ?_) (.int _ _)
       simp [Builtin.len_,run_und hu,hcr,goInt]
      all_goals cases hv
     ·split at hes
      ·rename_i b _ es' _ hg
       cases hes
       cases hcr:a.eval x <;> rw [hcr] at hv
       case map mr =>
        cases hv with
        | map _ e rr he hr =>
        subst hr
        obtain ⟨ces,g1,g2,_⟩:=map_of r he hg
        have hl:es.length=ces.size:=by simpa using g2.length
        rw [hl]
        refine Out.same r (exec_builtin a _ _ _ _ _ _ _ _ (fun _=>rfl) (u:=.int .i64 (ces.size:Nat)) ?_) (.int _ _)
        simp [Builtin.len_,run_und hu,hcr,goInt,run_getObj g1]
       all_goals cases hv
      ·cases hes
     ·cases hes
    ·cases hx
   ·cases hx
  ·rename_i x' n e hx' hu
   cases hk
   simp only [opK,ev] at hx
   cases hx
   refine Out.same r (exec_builtin a _ _ _ _ _ _ _ _ (fun _=>rfl) (u:=.int .i64 (n:Nat)) ?_) (.int _ _)
   simp [Builtin.len_,run_und hu,goInt]
  ·cases hk
 case min =>
  split at hk
  case h_3=>cases hk
  case h_2 =>
   rename_i x y z
   unfold mmNC at hk
   split at hk
   ·rename_i xs hxs
    cases hk
    simp only [opK] at hx
    split at hx
    ·rename_i k' n' r' hr
     split at hx
     ·rename_i m hm
      cases hx
      have h1:=evs_sound ht hxs hr
      obtain ⟨q1,q2⟩:=minN_sound (P:=P) (w:=w) false h1 hm
      exact Out.same r (exec_builtin a _ _ _ _ _ _ _ _ (fun _=>rfl) (by simpa [Builtin.min_] using q1)) (.int _ _)
     ·cases hx
    ·cases hx
   ·cases hk
  rename_i x y
  unfold mmC at hk
  split at hk
  ·rename_i x' y' hx' hy'
   cases hk
   simp only [Bool.false_eq_true,if_false,opK] at hx
   split at hx
   ·rename_i kx n ky m hp hq
    cases hx
    have h1:=ev_sound ht hx' hp
    have h2:=ev_sound ht hy' hq
    cases hcx:a.eval x <;> rw [hcx] at h1 <;> cases h1
    cases hcy:a.eval y <;> rw [hcy] at h2 <;> cases h2
    refine Out.same r (exec_builtin a _ _ _ _ _ _ _ _ (fun _=>rfl) (u:=.int kx (if m<n then m else n)) ?_) (.int _ _)
    simp [Builtin.min_,Builtin.min2,hcx,hcy]
   ·cases hx
  ·cases hk
 case max =>
  split at hk
  case h_3=>cases hk
  case h_2 =>
   rename_i x y z
   unfold mmNC at hk
   split at hk
   ·rename_i xs hxs
    cases hk
    simp only [opK] at hx
    split at hx
    ·rename_i k' n' r' hr
     split at hx
     ·rename_i m hm
      cases hx
      have h1:=evs_sound ht hxs hr
      obtain ⟨q1,q2⟩:=minN_sound (P:=P) (w:=w) true h1 hm
      exact Out.same r (exec_builtin a _ _ _ _ _ _ _ _ (fun _=>rfl) (by simpa [Builtin.max_] using q1)) (.int _ _)
     ·cases hx
    ·cases hx
   ·cases hk
  rename_i x y
  unfold mmC at hk
  split at hk
  ·rename_i x' y' hx' hy'
   cases hk
   simp only [if_true,opK] at hx
   split at hx
   ·rename_i kx n ky m hp hq
    cases hx
    have h1:=ev_sound ht hx' hp
    have h2:=ev_sound ht hy' hq
    cases hcx:a.eval x <;> rw [hcx] at h1 <;> cases h1
    cases hcy:a.eval y <;> rw [hcy] at h2 <;> cases h2
    refine Out.same r (exec_builtin a _ _ _ _ _ _ _ _ (fun _=>rfl) (u:=.int kx (if m > n then m else n)) ?_) (.int _ _)
    simp [Builtin.max_,Builtin.max2,hcx,hcy]
   ·cases hx
  ·cases hk
 case copy =>
  split at hk
  case h_2=>cases hk
  rename_i t u x y
  unfold copyC at hk
  split at hk
  ·rename_i x' y' e hx' hy' hu
   split at hk
   ·rename_i s hs
    cases hk
    simp only [opK] at hx
    split at hx
    ·rename_i p q hp hq
     obtain ⟨uv,w',q1,q2,q3⟩:=copy_sound (P:=P) (u:=u) (ty:=type) r hu hs hx (ev_sound ht hx' hp) (ev_sound ht hy' hq)
     exact ⟨uv,w',ρ,.inl (exec_builtin a _ _ _ _ _ _ _ _ (fun _=>rfl) q1),q2,q3,New.refl _ _⟩
    ·cases hx
   ·cases hk
  ·cases hk
 case clear =>
  split at hk
  case h_2=>cases hk
  rename_i t x
  unfold clearC at hk
  split at hk
  ·rename_i x' e hx' hu
   split at hk
   ·rename_i s z hs hz
    split at hk
    ·cases hk
     simp only [opK] at hx
     split at hx
     ·rename_i p hp
      obtain ⟨uv,w',q1,q2,q3⟩:=clear_sound (P:=P) (ty:=type) r hu hs hz hx (ev_sound ht hx' hp)
      exact ⟨uv,w',ρ,.inl (exec_builtin a _ _ _ _ _ _ _ _ (fun _=>rfl) q1),q2,q3,New.refl _ _⟩
     ·cases hx
    ·cases hk
   ·cases hk
  ·cases hk
 case delete =>
  split at hk
  case h_2=>cases hk
  rename_i t u m k2
  unfold deleteC at hk
  split at hk
  ·rename_i m' k' kt et hm' hk' hu
   split at hk
   ·rename_i kk hkk
    cases hk
    simp only [opK] at hx
    split at hx
    ·rename_i p q hp hq
     split at hx
     ·rename_i h2 hh
      cases hx
      obtain ⟨w',q1,q2⟩:=mapDel_sound (P:=P) (u:=u) (ty:=type) r hu hkk hh (ev_sound ht hm' hp) (ev_sound ht hk' hq)
      exact ⟨.tuple #[],w',ρ,.inl (exec_builtin a _ _ _ _ _ _ _ _ (fun _=>rfl) q1),.tuple _ _ .nil,q2,New.refl _ _⟩
     ·cases hx
    ·cases hx
   ·cases hk
  ·cases hk
 all_goals cases hk
theorem run_next_none {w:World} {r s c:Nat} {sn:Array Nat} {ty:TypeId} (hr:w.heap[r]? = some (.mapIter none s sn c)):(Instr.next (.pointer (some ⟨r,0,none⟩)) false ty).run P w=.ok (.tuple #[.bool false]) w:=by
 simp only [Instr.next,getObj,Sem.run_bind,Sem.run,hr,Result.andThen]
 rfl
/-! #### Ranges over maps -/
theorem mem_memN:∀ {l:List Nat} {b:Nat},memN l b=l.contains b
 | [],_=>rfl
 | a::r,b=>by
  have e:Nat.beq a b=(b == a):=by
   rw [Bool.eq_iff_iff]
   exact ⟨fun h=>by rw [Nat.eq_of_beq_eq_true h];exact beq_self_eq_true b,fun h=>by rw [eq_of_beq h];exact Nat.beq_refl a⟩
  rw [memN,mem_memN,List.contains_cons,e]
def LeftR (ρ:Rho):List ((V × V) × Nat)→List MapEntry→Prop
 | [],[]=>True
 | ((k,v),n)::r,e::s=>VR ρ k e.key∧VR ρ v e.val∧n=e.born∧LeftR ρ r s
 | _,_=>False
theorem leftA_spec:∀ {es:List (V × V)} {l:List MapEntry} (seen:List Nat),MR ρ es l→LeftR ρ (leftA es (l.map MapEntry.born) seen) (l.filter fun e=>!seen.contains e.born)
 | [],[],_,_=>trivial
 | (k,v)::es,e::l,seen,hm=>by
  have ih:=leftA_spec seen hm.2.2
  simp only [List.map_cons,leftA,mem_memN,List.filter_cons]
  cases hs:seen.contains e.born
  ·simp only [cond_false,Bool.not_false,if_true]
   exact ⟨hm.1,hm.2.1,rfl,ih⟩
  ·simp only [cond_true,Bool.not_true,Bool.false_eq_true,if_false]
   exact ih
 | [],_::_,_,h=>h.elim
 | _::_,[],_,h=>h.elim
theorem LeftR.mem:∀ {x:List ((V × V) × Nat)} {l:List MapEntry} {e:MapEntry},LeftR ρ x l→e∈l→∃ k v,((k,v),e.born)∈x∧VR ρ k e.key∧VR ρ v e.val
 | ((k,v),n)::x,f::l,e,h,hm=>by
  rcases List.mem_cons.1 hm with rfl | hm
  ·obtain ⟨h1,h2,rfl,_⟩:=h
   exact ⟨k,v,List.mem_cons_self,h1,h2⟩
  ·obtain ⟨k',v',q1,q2⟩:=LeftR.mem h.2.2.2 hm
   exact ⟨k',v',List.mem_cons_of_mem _ q1,q2⟩
 | [],_::_,_,h,_=>h.elim
 | _,[],_,_,hm=>by cases hm
theorem LeftR.nil {x:List ((V × V) × Nat)} (h:LeftR ρ x []):x=[]:=by
 cases x with
 | nil=>rfl
 | cons _ _=>exact h.elim
theorem allLt_mem:∀ {l:List Nat} {s:Nat},allLt l s=true→∀ b∈l,b<s
 | a::r,s,h,b,hb=>by
  simp only [allLt,Bool.and_eq_true] at h
  rcases List.mem_cons.1 hb with rfl | hb
  ·exact of_decide_eq_true (by simpa [Nat.blt_eq] using h.1)
  ·exact allLt_mem h.2 b hb
 | [],_,_,_,hb=>by cases hb
theorem next_snd (r:Rel P B w0 ρ h w) {rb b:Nat} {ux:Value} {s:Nat} {seen:List Nat} {c:Nat} {es:List (V × V)} {bs:List Nat} {cl:Nat} (hv:VR ρ (.ptr (some (rb,0))) ux) (ty:TypeId)
  (hg:h.get rb=some (.iter (some b) s seen c)) (hgm:h.get b=some (.map es bs cl)) (hok:(allLt bs s && Nat.ble s c)=true) :
  (leftA es bs seen=[]∧(Instr.next ux false ty).run P w=.ok (.tuple #[.bool false]) w) ∨
  ∃ k v n u w',((k,v),n)∈leftA es bs seen∧(Instr.next ux false ty).run P w=.ok u w'∧VR ρ (.tuple [.bool true,k,v]) u∧Rel P B w0 ρ (h.put rb (.iter (some b) s (seen++[n]) cl)) w':=by
 cases hv with
 | ptr _ _ e ad hρ ha =>
 obtain ⟨o,g1,g2⟩:=r.obj _ _ hρ
 rw [hg] at g1
 cases g1
 obtain ⟨hB,m',k1,kz,e',k2,k3⟩:=g2
 subst k3
 obtain ⟨ces,q1,q2,q3⟩:=map_of r k2 hgm
 simp only [Bool.and_eq_true] at hok
 have hold:∀ x∈ces.toList,x.born<s:=fun x hx=>allLt_mem hok.1 _ (by rw [q3];exact List.mem_map_of_mem hx)
 have hsc:=Nat.le_of_ble_eq_true hok.2
 have hl:=leftA_spec (ρ:=ρ) seen q2
 rw [←q3] at hl
 have el:(ces.toList.filter fun e=>!seen.contains e.born)=(leftOf ces seen.toArray).toList:=by
  simp [leftOf]
 rw [el] at hl
 rw [ha,show at_ e 0=⟨e.blk,0,none⟩ by simp [at_,kz]]
 rcases run_next_at (P:=P) w ty e.blk e'.blk s c seen.toArray ces cl k1 q1 hold hsc with ⟨h0,hrun⟩ | ⟨x,hx,w1,hal,hrun⟩
 ·refine .inl ⟨?_,hrun⟩
  have:(leftOf ces seen.toArray).toList=[]:=List.eq_nil_of_length_eq_zero (by simpa using h0)
  rw [this] at hl
  exact hl.nil
 ·obtain ⟨k,v,g1,g2,g3⟩:=hl.mem hx
  refine .inr ⟨k,v,x.born,_,_,g1,hrun,.tuple _ _ (.cons _ _ _ _ (.bool _) (.cons _ _ _ _ g2 (.cons _ _ _ _ g3 .nil))),?_⟩
  have r1:Rel P B w0 ρ h w1:=by
   rcases hal with rfl | rfl
   ·exact r
   ·exact r.drew
  have hlt:e.blk<w1.heap.size:=r1.live _ _ _ hρ hg rfl
  exact r1.setOwn hρ hg rfl (.inl (by simp [Obj.sups])) (fun S hS=>by cases hS;rfl) hB _ ⟨hB,some e'.blk,by simp [hlt],kz,e',k2,rfl⟩
theorem nextA_snd (r:Rel P B w0 ρ h w) {rb:Nat} {ux:Value} (hv:VR ρ (.ptr (some (rb,0))) ux) (ty:TypeId) {v:V} {h':Heap} (hx:nextA h rb=some (v,h')) :
  ∃ u w',(Instr.next ux false ty).run P w=.ok u w'∧VR ρ v u∧Rel P B w0 ρ h' w':=by
 unfold nextA at hx
 split at hx
 ·rename_i hg
  cases hx
  cases hv with
  | ptr _ _ e ad hρ ha =>
  obtain ⟨o,g1,g2⟩:=r.obj _ _ hρ
  rw [hg] at g1
  cases g1
  obtain ⟨_,m',k1,kz,k2⟩:=g2
  replace k2:m'=none:=k2
  subst k2
  refine ⟨.tuple #[.bool false],w,?_,.tuple _ _ (.cons _ _ _ _ (.bool _) .nil),r⟩
  rw [ha,show at_ e 0=⟨e.blk,0,none⟩ by simp [at_,kz]]
  exact run_next_none k1
 ·rename_i b s seen c hg
  split at hx
  ·rename_i es bs cl hgm
   split at hx
   ·rename_i hok
    have hn:=next_snd r hv ty hg hgm hok
    split at hx
    ·rename_i hl
     cases hx
     rcases hn with ⟨_,q⟩ | ⟨k,v,n,u,w',q,_⟩
     ·exact ⟨_,w,q,.tuple _ _ (.cons _ _ _ _ (.bool _) .nil),r⟩
     ·rw [hl] at q;cases q
    ·rename_i k v n hl
     cases hx
     rcases hn with ⟨q,_⟩ | ⟨k',v',n',u,w',q,q1,q2,q3⟩
     ·rw [hl] at q;cases q
     ·rw [hl] at q
      cases List.mem_singleton.1 q
      exact ⟨u,w',q1,q2,q3⟩
    ·cases hx
   ·cases hx
  ·cases hx
 ·cases hx
theorem lastN_back:∀ {l:List Nat} {n:Nat},lastN l=some n→l.toArray.back? = some n
 | [a],n,h=>by cases h;rfl
 | _::b::r,n,h=>by
  have ih:=lastN_back (l:=b::r) h
  simpa using ih
 | [],_,h=>by cases h
theorem bornA_find:∀ {es:List (V × V)} {l:List MapEntry} {n:Nat} {k v:V},MR ρ es l→bornA es (l.map MapEntry.born) n=some (k,v)→∃ e,l.find? (·.born == n)=some e∧VR ρ k e.key∧VR ρ v e.val
 | (k0,v0)::es,e::l,n,k,v,hm,hx=>by
  simp only [List.map_cons,bornA] at hx
  cases hb:Nat.beq e.born n <;> rw [hb] at hx
  ·obtain ⟨f,q1,q2⟩:=bornA_find hm.2.2 hx
   refine ⟨f,?_,q2⟩
   have:(e.born == n)=false:=by
    rw [Bool.eq_false_iff];intro hh
    rw [eq_of_beq hh,Nat.beq_refl] at hb;cases hb
   simp [List.find?_cons,this,q1]
  ·cases hx
   have:e.born=n:=Nat.eq_of_beq_eq_true hb
   exact ⟨e,by simp [List.find?_cons,this],hm.1,hm.2.1⟩
 | [],[],_,_,_,_,hx=>by cases hx
 | [],_::_,_,_,_,hm,_=>hm.elim
 | _::_,[],_,_,_,hm,_=>hm.elim
theorem entA_snd (r:Rel P B w0 ρ h w) {rb:Nat} {ux:Value} (hv:VR ρ (.ptr (some (rb,0))) ux) {v:V} {h':Heap} (hx:entA h rb=some (v,h')) :
  ∃ u,h'=h∧(Instr.entry ux).run P w=.ok u w∧VR ρ v u:=by
 unfold entA at hx
 split at hx
 ·rename_i b s seen c hg
  split at hx
  ·rename_i n es bs cl hn hgm
   split at hx
   ·rename_i hcl
    split at hx
    ·rename_i k v' hb
     cases hx
     cases hv with
     | ptr _ _ e ad hρ ha =>
     obtain ⟨o,g1,g2⟩:=r.obj _ _ hρ
     rw [hg] at g1
     cases g1
     obtain ⟨_,m',k1,kz,e',k2,k3⟩:=g2
     subst k3
     obtain ⟨ces,q1,q2,q3⟩:=map_of r k2 hgm
     rw [q3] at hb
     obtain ⟨f,f1,f2,f3⟩:=bornA_find q2 hb
     have hc:=Nat.eq_of_beq_eq_true hcl
     refine ⟨.tuple #[f.key,f.val],rfl,?_,.tuple _ _ (.cons _ _ _ _ f2 (.cons _ _ _ _ f3 .nil))⟩
     rw [ha,show at_ e 0=⟨e.blk,0,none⟩ by simp [at_,kz]]
     have f1':ces.find? (·.born == n)=some f:=by rw [←Array.find?_toList];exact f1
     simp only [Instr.entry,getObj,Sem.run_bind,Sem.run,k1,q1,Result.andThen,lastN_back hn,hc,bne_self_eq_false,Bool.false_eq_true,if_false,f1']
     rfl
    ·cases hx
   ·cases hx
  ·cases hx
 ·cases hx
set_option maxHeartbeats 1000000 in
theorem opK_sound {o:Oper} {k:K} (hk:kC P o=some k) (hna:k.isAlloc=false) {nt:Nat} {tm:TM} {a:Act} (ht:TMR ρ nt tm a.tmps) (r:Rel P B w0 ρ h w) {v:V} {h':Heap} (hx:opK k tm h=some (v,h')) :
  Out P B w0 ρ h.size o a w v h':=by
 obtain ⟨dst,op,type,pos,after,guard⟩:=o
 cases op
 case move x =>
  simp only [kC] at hk
  split at hk
  ·rename_i y hy
   cases hk
   simp only [opK] at hx
   split at hx
   ·rename_i q hq
    cases hx
    exact Out.same r rfl (ev_sound ht hy hq)
   ·cases hx
  ·cases hk
 case assign x =>
  simp only [kC] at hk
  split at hk
  ·rename_i y hy
   cases hk
   simp only [opK] at hx
   split at hx
   ·rename_i q hq
    cases hx
    exact Out.same r rfl (ev_sound ht hy hq)
   ·cases hx
  ·cases hk
 case pick c x y =>
  simp only [kC] at hk
  split at hk
  ·rename_i c' x' y' hc hx' hy'
   cases hk
   simp only [opK] at hx
   split at hx
   ·rename_i t hq
    have hcb:=ev_sound ht hc hq
    cases hcr:a.eval c <;> rw [hcr] at hcb <;> cases hcb
    split at hx
    ·rename_i q hq2
     cases hx
     cases t with
     | true=>exact Out.same r (by simp [execOp,hcr,asBool]) (ev_sound ht hx' hq2)
     | false=>exact Out.same r (by simp [execOp,hcr,asBool]) (ev_sound ht hy' hq2)
    ·cases hx
   ·cases hx
  ·cases hk
 case alloc t =>
  simp only [kC] at hk
  split at hk <;> cases hk
  cases hna
 case box t x =>
  simp only [kC] at hk
  split at hk <;> cases hk
  cases hna
 case build t parts =>
  simp only [kC] at hk
  split at hk
  ·rename_i z fs hz hu
   split at hk
   ·rename_i pl hpl
    split at hk
    ·rename_i ps hps
     cases hk
     simp only [opK] at hx
     split at hx
     ·rename_i vs hvs
      split at hx
      ·rename_i cs hcs
       cases hx
       obtain ⟨zv,hzv,hzr⟩:=zeroC_val hz
       obtain ⟨c',q1,q2⟩:=fill_sound hps ht hvs hcs (hzr ρ)
       refine Out.same r (run_val ?_) (.agg _ _ q2)
       have hm:=arrMapM (P:=P) (w:=w) (fun f:Field=>(do pure (f.offset,←sizeOf f.type):Sem (Nat × Nat))) fs (places_sound hpl)
       have hpl2:(fun i:Nat=>pl.toArray[i]?)=(fun i:Nat=>pl[i]?):=by funext i;simp
       have hparts:(parts.map fun (i,x)=>(i,a.eval x)).toList=parts.toList.map fun (i,x)=>(i,a.eval x):=by simp
       simp only [Instr.build,Sem.run_bind,run_zero hzv,Result.andThen_ok,run_und hu,hm,hpl2,hparts,q1,Sem.run_pure]
      ·cases hx
     ·cases hx
    ·cases hk
   ·cases hk
  ·rename_i z n e hz hu
   split at hk
   ·rename_i s hs
    split at hk
    ·rename_i ps hps
     cases hk
     simp only [opK] at hx
     split at hx
     ·rename_i vs hvs
      split at hx
      ·rename_i cs hcs
       cases hx
       obtain ⟨zv,hzv,hzr⟩:=zeroC_val hz
       obtain ⟨c',q1,q2⟩:=fill_sound hps ht hvs hcs (hzr ρ)
       refine Out.same r (run_val ?_) (.agg _ _ q2)
       have hparts:(parts.map fun (i,x)=>(i,a.eval x)).toList=parts.toList.map fun (i,x)=>(i,a.eval x):=by simp
       simp only [Instr.build,Sem.run_bind,run_zero hzv,Result.andThen_ok,run_und hu,run_size hs,hparts,q1,Sem.run_pure]
      ·cases hx
     ·cases hx
    ·cases hk
   ·cases hk
  ·cases hk
 case buildSlice t len parts =>
  simp only [kC] at hk
  split at hk
  ·split at hk
   ·split at hk
    ·split at hk <;> cases hk
     cases hna
    ·cases hk
   ·cases hk
  ·cases hk
 case load t x =>
  simp only [kC] at hk
  split at hk
  ·rename_i y g hy hg
   cases hk
   simp only [opK] at hx
   split at hx
   ·rename_i q hq
    split at hx
    ·rename_i v' hv'
     cases hx
     obtain ⟨p,hp,u,q1,q2⟩:=load_sound (P:=P) r hg (ev_sound ht hy hq) hv'
     refine Out.same r (run_val ?_) q2
     rw [hp]
     simp only [Instr.loadAt,Instr.sureAddr,Sem.run_bind,Sem.run_pure,Result.andThen_ok,q1]
    ·cases hx
   ·cases hx
  ·cases hk
 case store t x y =>
  simp only [kC] at hk
  split at hk
  ·rename_i x' y' n hx' hy' hn
   cases hk
   simp only [opK] at hx
   split at hx
   ·rename_i p q hp hq
    split at hx
    ·rename_i h2 hh
     cases hx
     obtain ⟨ad,had,w',q1,q2⟩:=store_sound (P:=P) r hn (ev_sound ht hx' hp) (ev_sound ht hy' hq) hh
     refine ⟨undef,w',ρ,.inr ⟨run_skip ?_,rfl⟩,.tuple _ _ .nil,q2,New.refl _ _⟩
     rw [had]
     simp only [Instr.storeAt,Instr.sureAddr,Sem.run_bind,Sem.run_pure,Result.andThen_ok,q1]
    ·cases hx
   ·cases hx
  ·cases hk
 case nilCheck x =>
  simp only [kC] at hk
  split at hk
  ·rename_i y hy
   cases hk
   simp only [opK] at hx
   split at hx
   ·rename_i p hq
    cases hx
    have hv:=ev_sound ht hy hq
    cases hcr:a.eval x <;> rw [hcr] at hv
    case pointer ad =>
     cases ad with
     | none=>cases hv
     | some ad=>exact Out.same r (by simp [execOp,hcr]) hv
    all_goals cases hv
   ·rename_i f c1 c2 hq
    cases hx
    have hv:=ev_sound ht hy hq
    cases hcr:a.eval x <;> rw [hcr] at hv
    case func fn first caps =>
     cases hv with
     | func _ _ _ _ _ h1 h2=>exact Out.same r (by simp [execOp,hcr]) (.func _ _ _ _ _ h1 h2)
    all_goals cases hv
   ·cases hx
  ·cases hk
 case binOp op t x y t2 =>
  simp only [kC,binC] at hk
  split at hk
  ·rename_i x' y' hx' hy'
   split at hk
   ·cases hk
    simp only [opK] at hx
    split at hx
    ·rename_i p q hp hq
     split at hx
     ·rename_i v' hv'
      cases hx
      obtain ⟨u,q1,q2⟩:=bin_sound (P:=P) (w:=w) (t:=t) (ox:=x) (oy:=y) hv' (ev_sound ht hx' hp) (ev_sound ht hy' hq)
      exact Out.same r (run_val q1) q2
     ·cases hx
    ·cases hx
   ·rename_i hni
    split at hk
    ·split at hk
     ·rename_i k' hn
      cases hk
      obtain ⟨x2,n1,rfl,rfl,i,n3⟩:=isNil_run (P:=P) hn
      simp only [opK] at hx
      split at hx
      ·rename_i hq
       cases hx
       have:=nil_eq (P:=P) (w:=w) (op:=.eql) (x:=x) n3 (.inl rfl) (ev_sound ht n1 hq) (.inl ⟨rfl,rfl⟩)
       exact Out.same r (run_val this) (.bool _)
      ·rename_i hq
       cases hx
       have:=nil_eq (P:=P) (w:=w) (op:=.eql) (x:=x) n3 (.inl rfl) (ev_sound ht n1 hq) (.inr ⟨_,_,rfl,rfl⟩)
       exact Out.same r (run_val this) (.bool _)
      ·cases hx
     split at hk
     ·cases hk
     ·rename_i hg
      split at hk
      ·rename_i d hd
       cases hk
       simp only [opK] at hx
       split at hx
       ·rename_i p q hp hq
        split at hx
        ·rename_i b hb
         cases hx
         have:=eqRun (P:=P) (w:=w) (op:=.eql) (ox:=x) (oy:=y) hd (by simpa using hg) hb (ev_sound ht hx' hp) (ev_sound ht hy' hq) (.inl rfl) (by simpa using hni)
         exact Out.same r (run_val this) (.bool _)
        ·cases hx
       ·cases hx
      ·cases hk
    ·split at hk
     ·rename_i k' hn
      cases hk
      obtain ⟨x2,n1,rfl,rfl,i,n3⟩:=isNil_run (P:=P) hn
      simp only [opK] at hx
      split at hx
      ·rename_i hq
       cases hx
       have:=nil_eq (P:=P) (w:=w) (op:=.neq) (x:=x) n3 (.inr rfl) (ev_sound ht n1 hq) (.inl ⟨rfl,rfl⟩)
       exact Out.same r (run_val this) (.bool _)
      ·rename_i hq
       cases hx
       have:=nil_eq (P:=P) (w:=w) (op:=.neq) (x:=x) n3 (.inr rfl) (ev_sound ht n1 hq) (.inr ⟨_,_,rfl,rfl⟩)
       exact Out.same r (run_val this) (.bool _)
      ·cases hx
     split at hk
     ·cases hk
     ·rename_i hg
      split at hk
      ·rename_i d hd
       cases hk
       simp only [opK] at hx
       split at hx
       ·rename_i p q hp hq
        split at hx
        ·rename_i b hb
         cases hx
         have:=eqRun (P:=P) (w:=w) (op:=.neq) (ox:=x) (oy:=y) hd (by simpa using hg) hb (ev_sound ht hx' hp) (ev_sound ht hy' hq) (.inr rfl) (by simpa using hni)
         exact Out.same r (run_val this) (.bool _)
        ·cases hx
       ·cases hx
      ·cases hk
    ·cases hk
  ·cases hk
 case unOp op t x =>
  simp only [kC] at hk
  split at hk
  ·rename_i y hy
   cases hk
   simp only [opK] at hx
   split at hx
   ·rename_i b hq
    cases hx
    have hv:=ev_sound ht hy hq
    cases hcr:a.eval x <;> rw [hcr] at hv <;> cases hv
    exact Out.same r (by simp [execOp,hcr,Op.unary]) (.bool _)
   ·cases hx
  ·rename_i y hy
   cases hk
   simp only [opK] at hx
   split at hx
   ·rename_i kk n hq
    cases hx
    have hv:=ev_sound ht hy hq
    cases hcr:a.eval x <;> rw [hcr] at hv <;> cases hv
    exact Out.same r (by simp [execOp,hcr,Op.unary,Op.intArith]) (.int _ _)
   ·cases hx
  ·rename_i y hy
   cases hk
   simp only [opK] at hx
   split at hx
   ·rename_i kk n hq
    cases hx
    have hv:=ev_sound ht hy hq
    cases hcr:a.eval x <;> rw [hcr] at hv <;> cases hv
    refine Out.same r (run_val (u:=.int kk (kk.wrap (BitVec.ofInt kk.bits (if kk.signed then -1 else kk.max) ^^^ BitVec.ofInt kk.bits n).toNat)) ?_) (.int _ _)
    rw [hcr]
    rfl
   ·cases hx
  ·cases hk
 case convert s d x =>
  simp only [kC,convC] at hk
  split at hk
  ·rename_i y ks kd hy hs hd
   cases hk
   simp only [opK] at hx
   split at hx
   ·rename_i k0 n hq
    cases hx
    have hv:=ev_sound ht hy hq
    cases hcr:a.eval x <;> rw [hcr] at hv <;> cases hv
    refine Out.same r (run_val (u:=.int kd (kd.wrap n)) ?_) (.int _ _)
    simp only [hcr,convert,Sem.run_bind,run_und hs,run_und hd,Result.andThen_ok,Conv.intToInt,Sem.run_pure]
   ·cases hx
  ·rename_i y hy hs hd
   cases hk
   simp only [opK] at hx
   split at hx
   ·rename_i l hq
    cases hx
    have hv:=ev_sound ht hy hq
    cases hcr:a.eval x <;> rw [hcr] at hv
    case string sb =>
     refine Out.same r (run_val (u:=.string sb) ?_) hv
     simp only [hcr,convert,Sem.run_bind,run_und hs,run_und hd,Result.andThen_ok,Sem.run_pure]
    all_goals cases hv
   ·cases hx
  ·rename_i y e hy hs hd
   split at hk
   ·rename_i he
    cases hk
    simp only [opK] at hx
    split at hx
    ·rename_i q hq
     split at hx
     ·rename_i v' hv'
      cases hx
      obtain ⟨u,q1,q2⟩:=toStr_sound (P:=P) r hs he hd hv' (ev_sound ht hy hq)
      exact Out.same r (run_val q1) q2
     ·cases hx
    ·cases hx
   ·cases hk
  ·split at hk <;> cases hk
   cases hna
  ·rename_i y t hy hs hd
   split at hk
   ·rename_i m hm
    cases hk
    simp only [opK] at hx
    split at hx
    ·rename_i q hq
     split at hx
     ·rename_i hc
      cases hx
      have hv:=ev_sound ht hy hq
      exact Out.same r (run_val (unsP_sound (P:=P) r hc hv hs hd hm)) hv
     ·cases hx
    ·cases hx
   ·cases hk
  ·rename_i y t hy hs hd
   split at hk
   ·rename_i m hm
    split at hk
    ·rename_i hcl
     cases hk
     simp only [opK] at hx
     split at hx
     ·rename_i q hq
      split at hx
      ·rename_i hc
       cases hx
       have hv:=ev_sound ht hy hq
       exact Out.same r (run_val (ofUns_sound (P:=P) r hc hv hs hd hm hcl)) hv
      ·cases hx
     ·cases hx
    ·cases hk
   ·cases hk
  ·cases hk
 case sliceToArrayPointer=>simp [kC] at hk
 case makeInterface t x =>
  simp only [kC] at hk
  split at hk
  ·cases hk
  ·rename_i d y h1 hu hy
   cases hk
   simp only [opK] at hx
   split at hx
   ·rename_i q hq
    cases hx
    refine Out.same r (run_val (u:=.iface t (a.eval x)) ?_) (.iface _ _ _ (ev_sound ht hy hq))
    simp only [Instr.makeInterface,Sem.run_bind,run_und hu,Result.andThen_ok]
    rfl
   ·cases hx
  ·cases hk
 case makeFunc fn first caps =>
  cases fn <;> simp only [kC] at hk <;> try (cases hk;done)
  split at hk
  ·rename_i x' y' hx' hy'
   cases hk
   simp only [opK] at hx
   split at hx
   ·rename_i p q hp hq
    cases hx
    refine Out.same r (run_val rfl) (.func _ _ _ _ _ ?_ ?_)
    ·have:=evs_sound ht hx' hp;simpa using this
    ·have:=evs_sound ht hy' hq;simpa using this
   ·cases hx
  ·cases hk
 case makeMap t rs =>
  cases rs <;> simp only [kC] at hk <;> cases hk
  cases hna
 case range t x =>
  simp only [kC] at hk
  split at hk
  ·rename_i x' kt et hx' hu
   cases hk
   simp only [opK] at hx
   have fin:∀ (m:Option Nat) (m':Option Nat) (s c:Nat),(Instr.range t (a.eval x)).run P w=.ok (.pointer (some ⟨w.heap.size,0,none⟩)) (w.alloc (.mapIter m' s #[] c)) →
     (match m with | none=>m'=none | some b=>∃ e',ρ b=some e'∧m'=some e'.blk)→(Abs.V.ptr (some (h.size,0)),h.push (.iter m s [] c))=(v,h')→Out P B w0 ρ h.size ⟨dst,.range t x,type,pos,after,guard⟩ a w v h':=by
    intro m m' s c q1 q2 q3
    cases q3
    have hle:RLe ρ (Rho.with_ ρ h.size ⟨w.heap.size,0,0⟩):=with_le r.none_at
    have ho:ORel P B (Rho.with_ ρ h.size ⟨w.heap.size,0,0⟩) (w.alloc (.mapIter m' s #[] c)) ⟨w.heap.size,0,0⟩ (.iter m s [] c):=by
     refine ⟨r.base,m',alloc_at w _,rfl,?_⟩
     cases m with
     | none=>exact q2
     | some b=>obtain ⟨e',k1,k2⟩:=q2;exact ⟨e',hle _ _ k1,k2⟩
    exact ⟨_,_,Rho.with_ ρ h.size ⟨w.heap.size,0,0⟩,.inl (run_val q1),.ptr _ _ _ _ with_same (by simp [at_]),(r.push _).lay r.none_at (by rw [Heap.size_push];omega) (by rw [Heap.get_push,if_pos rfl]) _ _ ho,New.with_ r.none_at (Nat.le_refl _)⟩
   split at hx
   ·rename_i hp
    have hv:=ev_sound ht hx' hp
    generalize hae:a.eval x=ux at hv fin
    cases hv
    exact fin none none 0 0 (run_range_nilMap w t kt et hu) rfl (Option.some.inj hx)
   ·rename_i b hp
    have hv:=ev_sound ht hx' hp
    split at hx
    ·rename_i es bs cl hg
     generalize hae:a.eval x=ux at hv fin
     cases hv with
     | map _ e r1 hρ hr =>
     subst hr
     obtain ⟨ces,q1,q2,q3⟩:=map_of r hρ hg
     exact fin (some b) (some e.blk) cl cl (run_range_map w t kt et e.blk ces cl hu q1) ⟨e,hρ,rfl⟩ (Option.some.inj hx)
    ·cases hx
   ·cases hx
  ·cases hk
 case next x is =>
  cases is with
  | true=>simp [kC] at hk
  | false =>
  simp only [kC] at hk
  split at hk
  ·rename_i x' hx'
   cases hk
   simp only [opK] at hx
   split at hx
   ·rename_i rb hp
    have hv:=ev_sound ht hx' hp
    obtain ⟨u,w',q1,q2,q3⟩:=nextA_snd r hv type hx
    exact ⟨u,w',ρ,.inl (run_val q1),q2,q3,New.refl _ _⟩
   ·cases hx
  ·cases hk
 case entry it =>
  simp only [kC] at hk
  split at hk
  ·rename_i x' hx'
   cases hk
   simp only [opK] at hx
   split at hx
   ·rename_i rb hp
    have hv:=ev_sound ht hx' hp
    obtain ⟨u,q0,q1,q2⟩:=entA_snd r hv hx
    subst q0
    exact Out.same r (run_val q1) q2
   ·cases hx
  ·cases hk
 case makeChan=>simp [kC] at hk
 case makeSlice t l c =>
  simp only [kC] at hk
  split at hk
  ·split at hk
   ·split at hk <;> cases hk
    cases hna
   ·cases hk
  ·cases hk
 case slice t x lo hi mx =>
  simp only [kC,sliceC] at hk
  split at hk
  ·rename_i x' lo' hi' mx' hx' hlo hhi hmx
   split at hk
   ·rename_i hu
    split at hk
    ·cases hk
     simp only [opK] at hx
     split at hx
     ·rename_i p q1 q2 hp hq1 hq2
      split at hx
      ·rename_i v' hv'
       cases hx
       cases mx with
       | some m=>simp only [opdO] at hmx;split at hmx <;> cases hmx
       | none =>
       obtain ⟨u,g1,g2⟩:=sliceStr_sound (P:=P) (w:=w) hu hv' (ev_sound ht hx' hp) (evo_sound ht hlo hq1) (evo_sound ht hhi hq2)
       exact Out.same r (run_val g1) g2
      ·cases hx
     ·cases hx
    ·cases hk
   ·rename_i e hu
    split at hk
    ·rename_i s hs
     cases hk
     simp only [opK] at hx
     split at hx
     ·rename_i p q1 q2 q3 hp hq1 hq2 hq3
      split at hx
      ·rename_i v' hv'
       cases hx
       obtain ⟨u,g1,g2⟩:=sliceSl_sound (P:=P) (w:=w) hu hs hv' (ev_sound ht hx' hp) (evo_sound ht hlo hq1) (evo_sound ht hhi hq2) (evo_sound ht hmx hq3)
       exact Out.same r (run_val g1) g2
      ·cases hx
     ·cases hx
    ·cases hk
   ·rename_i n e hu
    split at hk
    ·rename_i s hs
     cases hk
     simp only [opK] at hx
     split at hx
     ·rename_i p q1 q2 hp hq1 hq2
      split at hx
      ·rename_i v' hv'
       cases hx
       cases mx with
       | some m=>simp only [opdO] at hmx;split at hmx <;> cases hmx
       | none =>
       obtain ⟨u,g1,g2⟩:=sliceArr_sound (P:=P) (w:=w) hu hs hv' (ev_sound ht hx' hp) (evo_sound ht hlo hq1) (evo_sound ht hhi hq2)
       exact Out.same r (run_val g1) g2
      ·cases hx
     ·cases hx
    ·cases hk
   ·cases hk
  ·cases hk
 case fieldAddr s x f =>
  simp only [kC] at hk
  split at hk
  ·rename_i fs x' hu hx'
   split at hk
   ·rename_i fd hfd
    split at hk
    ·rename_i n hn
     cases hk
     simp only [opK] at hx
     split at hx
     ·rename_i b o' hq
      cases hx
      have hv:=ev_sound ht hx' hq
      cases hcr:a.eval x <;> rw [hcr] at hv
      case pointer ad =>
       cases hv with
       | ptr _ _ e ad' he had =>
       refine Out.same r (run_val (u:=.pointer (some (ad'.add fd.offset))) ?_) (.ptr _ _ e _ he (by rw [had,at_add]))
       simp only [hcr,Instr.fieldAt,Sem.run_bind,run_und hu,Result.andThen_ok,hfd,Instr.sureAddr,Sem.run_pure,fieldPlace,run_size hn,Nat.add_one_ne_zero,if_false]
      all_goals cases hv
     ·cases hx
    ·cases hk
   ·cases hk
  ·cases hk
 case field t x f =>
  simp only [kC] at hk
  split at hk
  ·rename_i fs x' hu hx'
   split at hk
   ·rename_i fd hfd
    split at hk
    ·rename_i g hg
     cases hk
     simp only [opK] at hx
     split at hx
     ·rename_i cs hq
      split at hx
      ·rename_i v' hv'
       cases hx
       have hv:=ev_sound ht hx' hq
       cases hcr:a.eval x <;> rw [hcr] at hv
       case agg c =>
        cases hv with
        | agg _ _ hvs =>
        obtain ⟨u,q1,q2⟩:=part_sound (P:=P) (w:=w) hg hvs hv'
        refine Out.same r (run_val (u:=u) ?_) q2
        simp only [hcr,Instr.field,Sem.run_bind,run_und hu,Result.andThen_ok,hfd,asAgg,Sem.run_pure,q1]
       all_goals cases hv
      ·cases hx
     ·cases hx
    ·cases hk
   ·cases hk
  ·cases hk
 case indexAddr t x i =>
  simp only [kC] at hk
  split at hk
  ·rename_i e x' i' hu hx' hi'
   split at hk
   ·rename_i s hs
    cases hk
    simp only [opK] at hx
    split at hx
    ·rename_i p q hp hq
     split at hx
     ·rename_i v' hv'
      cases hx
      obtain ⟨u,q1,q2⟩:=idxSl_sound (P:=P) (w:=w) hu hs hv' (ev_sound ht hx' hp) (ev_sound ht hi' hq)
      exact Out.same r (run_val q1) q2
     ·cases hx
    ·cases hx
   ·cases hk
  ·rename_i n e x' i' hu hx' hi'
   split at hk
   ·rename_i s hs
    cases hk
    simp only [opK] at hx
    split at hx
    ·rename_i p q hp hq
     split at hx
     ·rename_i v' hv'
      cases hx
      obtain ⟨u,q1,q2⟩:=idxArr_sound (P:=P) (w:=w) hu hs hv' (ev_sound ht hx' hp) (ev_sound ht hi' hq)
      exact Out.same r (run_val q1) q2
     ·cases hx
    ·cases hx
   ·cases hk
  ·cases hk
 case index t x i =>
  simp only [kC] at hk
  split at hk
  ·rename_i x' i' hu hx' hi'
   cases hk
   simp only [opK] at hx
   split at hx
   ·rename_i p q hp hq
    split at hx
    ·rename_i v' hv'
     cases hx
     obtain ⟨u,q1,q2⟩:=atStr_sound (P:=P) (w:=w) hu hv' (ev_sound ht hx' hp) (ev_sound ht hi' hq)
     exact Out.same r (run_val q1) q2
    ·cases hx
   ·cases hx
  ·rename_i n e x' i' hu hx' hi'
   split at hk
   ·rename_i s g hs hg
    cases hk
    simp only [opK] at hx
    split at hx
    ·rename_i p q hp hq
     split at hx
     ·rename_i v' hv'
      cases hx
      obtain ⟨u,q1,q2⟩:=atArr_sound (P:=P) (w:=w) hu hs hg hv' (ev_sound ht hx' hp) (ev_sound ht hi' hq)
      exact Out.same r (run_val q1) q2
     ·cases hx
    ·cases hx
   ·cases hk
  ·cases hk
 case lookup t m k' ok =>
  simp only [kC] at hk
  split at hk
  ·rename_i kt et m' k2 hu hm hk2
   split at hk
   ·rename_i z hz
    split at hk
    ·rename_i zv hzv
     split at hk
     ·rename_i kk hkk
      cases hk
      simp only [opK] at hx
      split at hx
      ·rename_i p q hp hq
       split at hx
       ·rename_i v' hv'
        cases hx
        obtain ⟨u,q1,q2⟩:=lookup_sound (P:=P) r hu hkk hz hzv hv' (ev_sound ht hm hp) (ev_sound ht hk2 hq)
        exact Out.same r (run_val q1) q2
       ·cases hx
      ·cases hx
     ·cases hk
    ·cases hk
   ·cases hk
  ·cases hk
 case mapUpdate t m k' v2 =>
  simp only [kC] at hk
  split at hk
  ·rename_i kt et m' k2 v3 hu hm hk2 hv3
   split at hk
   ·rename_i kk hkk
    cases hk
    simp only [opK] at hx
    split at hx
    ·rename_i p q s hp hq hs
     split at hx
     ·rename_i h2 hh
      cases hx
      obtain ⟨w',q1,q2⟩:=mapUpd_sound (P:=P) r hu hkk hh (ev_sound ht hm hp) (ev_sound ht hk2 hq) (ev_sound ht hv3 hs)
      exact ⟨undef,w',ρ,.inr ⟨run_skip q1,rfl⟩,.tuple _ _ .nil,q2,New.refl _ _⟩
     ·cases hx
    ·cases hx
   ·cases hk
  ·cases hk
 case insert t m k' v2 =>
  simp only [kC] at hk
  split at hk
  ·rename_i kt et m' k2 v3 hu hm hk2 hv3
   split at hk
   ·rename_i kk hkk
    cases hk
    simp only [opK] at hx
    split at hx
    ·rename_i p q s hp hq hs
     split at hx
     ·rename_i h2 hh
      cases hx
      obtain ⟨w',q1,q2⟩:=mapUpd_sound (P:=P) r hu hkk hh (ev_sound ht hm hp) (ev_sound ht hk2 hq) (ev_sound ht hv3 hs)
      exact ⟨undef,w',ρ,.inr ⟨run_skip q1,rfl⟩,.tuple _ _ .nil,q2,New.refl _ _⟩
     ·cases hx
    ·cases hx
   ·cases hk
  ·cases hk
 case typeAssert x xt at_ ok =>
  cases ok with
  | true=>simp [kC] at hk
  | false =>
  simp only [kC] at hk
  split at hk
  ·cases hk
  ·rename_i y d hni hy hd
   cases hk
   simp only [opK] at hx
   split at hx
   ·rename_i t' v' hq
    split at hx
    ·rename_i ht'
     cases hx
     subst ht'
     have hv:=ev_sound ht hy hq
     cases hcr:a.eval x <;> rw [hcr] at hv
     case iface t2 u2 =>
      cases hv with
      | iface _ _ _ hv2 =>
      refine Out.same r (run_val (u:=u2) ?_) hv2
      rw [hcr]
      unfold Instr.typeAssert
      simp only [Sem.run_bind,run_und hd,Result.andThen_ok]
      split
      all_goals first
       | exact (hni _ rfl).elim
       | (simp;done)
       | (rename_i h2;exact absurd rfl (h2 _ _))
       | (rename_i h2 h3;simp_all;done)
     all_goals cases hv
    ·cases hx
   ·cases hx
  ·cases hk
 case mapEntry t m k' =>
  simp only [kC] at hk
  split at hk
  ·rename_i kt et m' k2 hu hm hk2
   split at hk
   ·rename_i z hz
    split at hk
    ·rename_i zv hzv
     split at hk
     ·rename_i kk hkk
      cases hk
      simp only [opK] at hx
      split at hx
      ·rename_i p q hp hq
       obtain ⟨u,w',q1,q2,q3⟩:=mapEnt_sound (P:=P) r hu hkk hz hzv hx (ev_sound ht hm hp) (ev_sound ht hk2 hq)
       exact ⟨u,w',ρ,.inl (run_val q1),q2,q3,New.refl _ _⟩
      ·cases hx
     ·cases hk
    ·cases hk
   ·cases hk
  ·cases hk
 case entryStore t m s x =>
  simp only [kC] at hk
  split at hk
  ·rename_i m' s' x' hm hs hx'
   cases hk
   simp only [opK] at hx
   split at hx
   ·rename_i p q s2 hp hq hs2
    split at hx
    ·rename_i h2 hh
     cases hx
     obtain ⟨w',q1,q2⟩:=entSt_sound (P:=P) (t:=t) r hh (ev_sound ht hm hp) (ev_sound ht hs hq) (ev_sound ht hx' hs2)
     exact ⟨undef,w',ρ,.inr ⟨run_skip q1,rfl⟩,.tuple _ _ .nil,q2,New.refl _ _⟩
    ·cases hx
   ·cases hx
  ·cases hk
 case extract x i =>
  simp only [kC] at hk
  split at hk
  ·rename_i y hy
   cases hk
   simp only [opK] at hx
   split at hx
   ·rename_i vs hq
    split at hx
    ·rename_i v' hv'
     cases hx
     have hv:=ev_sound ht hy hq
     cases hcr:a.eval x <;> rw [hcr] at hv
     case tuple c =>
      cases hv with
      | tuple _ _ hvs =>
      obtain ⟨u,q1,q2⟩:=hvs.get _ _ hv'
      have q1':c[i]? = some u:=by simpa using q1
      refine Out.same r (run_val (u:=u) ?_) q2
      simp only [hcr,Instr.extract,q1',Sem.run_pure]
     all_goals cases hv
    ·cases hx
   ·cases hx
  ·cases hk
 case call c =>
  obtain ⟨callee,args,ts⟩:=c
  cases callee
  case value f =>
   simp only [kC] at hk
   split at hk <;> cases hk
   simp [opK] at hx
  case invoke =>
   simp only [kC] at hk
   (repeat' split at hk) <;> cases hk <;> simp [opK] at hx
  case builtin b =>
   obtain ⟨args⟩:=args
   obtain ⟨ts⟩:=ts
   simp only [kC] at hk
   exact builtin_sound hk hna ht r hx
 all_goals simp [kC] at hk
end
end Abs
end Go.Proofs.YthgcjbniipfnbaaGreatDoor
namespace Go.Proofs.YthgcjbniipfnbaaGreatDoor
namespace Abs
set_option linter.unusedVariables false
set_option linter.unusedSimpArgs false
open Go.RowKit
section
variable {P:Program} {B:Nat} {w0:World}
theorem repsI_sound {ρ:Rho} {zs:List V} {z:Array Value} (hz:VRs ρ zs z.toList) (n:Nat) (h:n=0∨zs.length≠0):VRs ρ (repsI n zs) ((Array.range n).map (z[· % z.size]!)).toList:=by
 have hl:zs.length=z.size:=by simpa using hz.length
 refine VRs.of_get (by simp [repsI]) fun i v hi=>?_
 have hin:i<n:=by
  have:=(List.getElem?_eq_some_iff.1 hi).1
  simpa [repsI] using this
 have hpos:0<zs.length:=by omega
 have hm:i % zs.length<zs.length:=Nat.mod_lt _ hpos
 simp only [repsI,List.getElem?_map,List.getElem?_range hin,Option.map_some,Option.some.injEq] at hi
 rw [List.getD_eq_getElem?_getD,List.getElem?_eq_getElem hm,Option.getD_some] at hi
 obtain ⟨u,q1,q2⟩:=hz.get (i % zs.length) v (by rw [List.getElem?_eq_getElem hm,hi])
 refine ⟨u,?_,q2⟩
 simp only [Array.toList_map,Array.toList_range,List.getElem?_map,List.getElem?_range hin,Option.map_some,Option.some.injEq]
 have hq:z[i % z.size]? = some u:=by rw [←hl];simpa using q1
 rw [getElem!_def,hq]
theorem selfTy_is {t s:TypeId} (h:selfTy P t=some s):t=s:=by
 unfold selfTy at h
 split at h
 ·split at h
  ·split at h
   ·split at h
    ·cases h;rfl
    ·cases h
   ·cases h
  ·cases h
 ·cases h
theorem cells_out {ρ:Rho} {h:Heap} {w:World} {b:Nat} {o:Oper} {a:Act} (r:Rel P B w0 ρ h w) {cs:List V} (hb:ρ b=none) (hlt:b<h.size) {ty:Option Nat} (hg:h.get b=some (.cells cs (.tip [] 0 ty))) {C:Array Value} {el:TypeId} (hty:∀ t,ty=some t→el=t) (hv:VRs ρ cs C.toList)
  {v:V} {u:Value} (hrun:(execOp a.eval o).run P w=.ok (.value u) (w.alloc (.cells C el))) (hvr:VR (Rho.with_ ρ b ⟨w.heap.size,0,C.size⟩) v u) :
  ∃ u w' em,Done P o a w u w'∧VR (Rho.with_ ρ b em) v u∧Rel P B w0 (Rho.with_ ρ b em) h w':=by
 have hl:cs.length=C.size:=by simpa using hv.length
 exact ⟨u,_,_,.inl hrun,hvr,r.new hb hlt hg C el (by rw [hl,←Array.length_toList,List.take_length];exact hv) (by omega) hty⟩
theorem alloc_sound {o:Oper} {k:K} (hk:kC P o=some k) (ha:k.isAlloc=true) {tm:TM} {h0 h1:Heap} {v:V} (hx:opK k tm h0=some (v,h1)) :
  ∃ ob:Obj,h1=h0.push ob∧∀ {ρ:Rho} {h:Heap} {w:World} {a:Act} {nt:Nat},TMR ρ nt tm a.tmps→Rel P B w0 ρ h w→ρ h0.size=none→h0.size<h.size→h.get h0.size=some ob →
   ∃ u w' em,Done P o a w u w'∧VR (Rho.with_ ρ h0.size em) v u∧Rel P B w0 (Rho.with_ ρ h0.size em) h w':=by
 obtain ⟨dst,op,type,pos,after,guard⟩:=o
 have ptrV:∀ {ρ:Rho} {b n lim:Nat},VR (Rho.with_ ρ b ⟨n,0,lim⟩) (.ptr (some (b,0))) (.pointer (some ⟨n,0,none⟩)):=by
  intro ρ b n lim
  exact .ptr _ _ _ _ with_same (by simp [at_])
 cases op
 case alloc t =>
  simp only [kC] at hk
  split at hk
  ·rename_i z hz
   cases hk
   simp only [opK] at hx
   cases hx
   refine ⟨_,rfl,fun {ρ h w a nt} ht r hb hlt hg=>?_⟩
   obtain ⟨zv,hzv,hzr⟩:=zeroC_val hz
   refine cells_out r hb hlt hg (C:=zv.cells) (el:=t) (fun s=>selfTy_is) (hzr ρ) (run_val (u:=.pointer (some ⟨w.heap.size,0,none⟩)) ?_) ptrV
   simp only [Instr.alloc,Sem.run_bind,run_zero hzv,Result.andThen_ok,newVar,newRow,run_newObj,Sem.run_pure,World.alloc_eq]
  ·cases hk
 case box t x =>
  simp only [kC] at hk
  split at hk
  ·rename_i y hy
   cases hk
   simp only [opK] at hx
   split at hx
   ·rename_i q hq
    cases hx
    refine ⟨_,rfl,fun {ρ h w a nt} ht r hb hlt hg=>?_⟩
    refine cells_out r hb hlt hg (C:=(a.eval x).cells) (el:=t) (fun s h=>by cases h) (ev_sound ht hy hq).cells (run_val (u:=.pointer (some ⟨w.heap.size,0,none⟩)) ?_) ptrV
    simp only [Instr.box,Sem.run_bind,Result.andThen_ok,newVar,newRow,run_newObj,Sem.run_pure,World.alloc_eq]
   ·cases hx
  ·cases hk
 case buildSlice t len parts =>
  simp only [kC] at hk
  split at hk
  ·rename_i e hu
   split at hk
   ·rename_i s z hs hz
    split at hk
    ·rename_i ps hps
     split at hk
     ·rename_i hc
      cases hk
      simp only [opK] at hx
      split at hx
      ·rename_i vs hvs
       split at hx
       ·rename_i cs hcs
        cases hx
        refine ⟨_,rfl,fun {ρ h w a nt} ht r hb hlt hg=>?_⟩
        obtain ⟨zv,hzv,hzr⟩:=zeroC_val hz
        obtain ⟨c',q1,q2⟩:=fill_sound hps ht hvs hcs (repsI_sound (hzr ρ) (len*s) hc.2)
        have hparts:(parts.map fun (i,x)=>(i,a.eval x)).toList=parts.toList.map fun (i,x)=>(i,a.eval x):=by simp
        refine cells_out r hb hlt hg (C:=c') (el:=e) (fun s h=>byteTy_is h) q2 (run_val (u:=.slice (some ⟨w.heap.size,0,none⟩) len len) ?_) (.slice _ _ _ _ _ _ with_same (fun _=>by simp [at_]) (Nat.le_refl _))
        have hn:¬ (2 ^ 24<len*s):=by have:=hc.1;omega
        by_cases h0:len*s=0
        ·have q1':Instr.fill (fun i=>some (i*s,s)) #[] (parts.toList.map fun (i,x)=>(i,a.eval x))=some c':=by
          have:(Array.range (len*s)).map (zv.cells[· % zv.cells.size]!)=#[]:=by rw [h0];simp
          rw [←this];exact q1
         have e0:(Array.range (len*s)).map ((#[]:Array Value)[· % (#[]:Array Value).size]!)=#[]:=by rw [h0];simp
         simp only [Instr.buildSlice,Sem.run_bind,run_und hu,Result.andThen_ok,run_size hs,gt_iff_lt,hn,if_false,h0,if_true,Sem.run_pure,hparts]
         rw [h0] at e0
         have hn0:¬ ((2:Nat) ^ 24<0):=by omega
         simp only [hn0,if_false,Sem.run_bind,Sem.run_pure,Result.andThen_ok,e0,q1',newRow,run_newObj,World.alloc_eq]
        ·simp only [Instr.buildSlice,Sem.run_bind,run_und hu,Result.andThen_ok,run_size hs,gt_iff_lt,hn,if_false,h0,Sem.run_pure,hparts,run_zero hzv,q1,newRow,run_newObj,World.alloc_eq]
       ·cases hx
      ·cases hx
     ·cases hk
    ·cases hk
   ·cases hk
  ·cases hk
 case makeMap t rs =>
  cases rs <;> simp only [kC] at hk
  ·cases hk
   simp only [opK] at hx
   cases hx
   refine ⟨_,rfl,fun {ρ h w a nt} ht r hb hlt hg=>?_⟩
   refine ⟨.map (some w.heap.size),_,_,.inl (run_val ?_),.map _ _ _ with_same rfl,r.newMap hb hlt hg⟩
   simp only [Instr.makeMap,Option.map_none,Sem.run_bind,run_newObj,Result.andThen_ok,Sem.run_pure,World.alloc_eq]
  ·cases hk
 case makeSlice t l c =>
  simp only [kC] at hk
  split at hk
  ·rename_i e l' c' hu hl hc
   split at hk
   ·rename_i s b z hs hb hz
    split at hk
    ·rename_i hzl
     cases hk
     simp only [opK] at hx
     split at hx
     ·rename_i p q hp hq
      have hx0:=hx
      cases p <;> try (simp [makeSlA] at hx;done)
      cases q <;> try (simp [makeSlA] at hx;done)
      rename_i kl l2 kc c2
      unfold makeSlA at hx
      simp only at hx
      by_cases hcnd:0≤l2∧l2≤c2∧c2≤1099511627776∧c2*b≤140737488355328
      ·rw [if_pos hcnd] at hx
       cases hx
       refine ⟨_,rfl,fun {ρ h w a nt} ht r hb' hlt hg=>?_⟩
       obtain ⟨n,m,q1,q2,q3,C,q4,q5⟩:=makeSl_sound (P:=P) r hu hs hb hz hzl.1 (l:=.int kl l2) (c:=.int kc c2) (v:=.slice (some (h.size,0)) l2.toNat c2.toNat) (h':=h.push (.cells (reps c2.toNat z) (.tip [] 0 none)))
        (by unfold makeSlA;simp only;rw [if_pos hcnd]) (ev_sound ht hl hp) (ev_sound ht hc hq)
       cases q1
       exact cells_out r hb' hlt hg (C:=C) (el:=e) (fun s h=>by cases h) q5 (run_val q4) (.slice _ _ _ _ _ _ with_same (fun _=>by simp [at_]) q3)
      ·rw [if_neg hcnd] at hx;cases hx
     ·cases hx
    ·cases hk
   ·cases hk
  ·cases hk
 case convert s d x =>
  simp only [kC,convC] at hk
  split at hk
  ·cases hk;cases ha
  ·cases hk;cases ha
  ·split at hk
   ·cases hk;cases ha
   ·cases hk
  ·rename_i y e hy hs hd
   split at hk
   ·rename_i he h1
    cases hk
    simp only [opK] at hx
    split at hx
    ·rename_i l hq
     cases hx
     refine ⟨_,rfl,fun {ρ h w a nt} ht r hb hlt hg=>?_⟩
     obtain ⟨u,w',em,q1,q2,q3⟩:=toBytes_sound (P:=P) r hs hd he (ev_sound ht hy hq) hb hlt hg
     exact ⟨u,w',em,.inl (run_val q1),q2,q3⟩
    ·cases hx
   ·cases hk
  ·split at hk
   ·cases hk;cases ha
   ·cases hk
  ·split at hk
   ·split at hk
    ·cases hk;cases ha
    ·cases hk
   ·cases hk
  ·cases hk
 case call c =>
  obtain ⟨callee,args,ts⟩:=c
  simp only [kC] at hk
  cases callee with
  | value f=>simp only at hk;split at hk <;> cases hk;cases ha
  | invoke=>simp only at hk;(repeat' split at hk) <;> cases hk <;> cases ha
  | builtin b =>
   simp only at hk
   cases b <;> simp only [builtinC,lenC,appendC,copyC,clearC,deleteC,mmC,mmNC] at hk <;> first
    | (cases hk;done)
    | ((repeat' split at hk) <;> first | (cases hk;done) | (cases hk;cases ha;done))
 case makeFunc fn x y =>
  cases fn <;> simp only [kC] at hk <;> first
   | (cases hk;done)
   | ((repeat' split at hk) <;> first | (cases hk;done) | (cases hk;cases ha;done))
 case next x is =>
  cases is <;> simp only [kC] at hk
  ·(repeat' split at hk) <;> first | (cases hk;done) | (cases hk;cases ha;done)
  ·cases hk
 case typeAssert x xt at_ ok =>
  cases ok <;> simp only [kC] at hk
  ·(repeat' split at hk) <;> first | (cases hk;done) | (cases hk;cases ha;done)
  ·cases hk
 case binOp op t x y t2 =>
  simp only [kC,binC] at hk
  (repeat' split at hk) <;> first
   | (cases hk;done)
   | (cases hk;cases ha;done)
   | (rename_i hn;cases hk;obtain ⟨_,_,rfl,_⟩:=isNil_run (P:=P) hn;cases ha)
 all_goals simp only [kC,sliceC] at hk
 all_goals first
  | (cases hk;done)
  | ((repeat' split at hk) <;> first | (cases hk;done) | (cases hk;cases ha;done))
end
end Abs
end Go.Proofs.YthgcjbniipfnbaaGreatDoor
