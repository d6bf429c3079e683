/- What the library answers to layer 24's laws, as the machine takes it; that it is so. -/
import Derived.Test.YthgcjbniipfnbaaGreatDoorB16
import Derived.Test.YthgcjbniipfnbaaGreatDoorL2
import Derived.Test.YthgcjbniipfnbaaGreatDoorL3
import Derived.Test.YthgcjbniipfnbaaGreatDoorA38
import Derived.Test.YthgcjbniipfnbaaGreatDoorH27
import Derived.Lib.LaidTab
import Derived.Lib.AppendIntMem
import Derived.Lib.IndexLaws
namespace Go.Proofs.YthgcjbniipfnbaaGreatDoor
namespace Abs
set_option linter.unusedVariables false
set_option linter.unusedSimpArgs false
set_option maxRecDepth 1000000
open Go.RowKit Go.Shelf
open Classical in
noncomputable def sumP (f:Nat) (args:List V) (h:Heap):Option (Option (V × Heap)) :=
 if f=122 then match args with
  | [x]=>some (some (x,h))
  | _=>some none
 else if f=33 then match args with
  | [.int .i64 n]=>if -9223372036854775808≤n∧n≤9223372036854775807 then some (some (.str (itoaF n),h)) else some none
  | _=>some none
 else if f=84 then match args with
  | [.str s]=>if s.length≤1000000∧Byt s then some (some (atoiSum s h)) else some none
  | _=>some none
 else if f=19 then match args with
  | [.str s,.str t]=>if s.length≤1000000∧Byt s∧t=[32] then some (some (.oslice h.size 0 (splitF s).length (splitF s).length 1,h.push (.cells ((splitF s).map V.str) (.tip [] 0 none)))) else some none
  | _=>some none
 else if f=21 then match args with
  | [.str s,.str t]=>if s.length≤1000000∧Byt s∧t=[10] then some (some (.bool (decide (10∈s)),h)) else some none
  | _=>some none
 else if f=27 then some (joinSum args h)
 else if f=115 then match args with
  | [.str t,.str s,.int .i64 a,.int .i64 b,.iface k (.int .i64 n)]=>if (s.length≤1000000∧t=[80,97,114,115,101,85,105,110,116])∧k=214∧(n=1∨n=2) then some (some (.iface 217 (.ptr (some (h.size,0))),h.push .dead)) else some none
  | _=>some none
 else none
noncomputable def cfgP0:Cfg:={ F:=tab,S:=sumP }
noncomputable def cfgP:Cfg:={ cfgP0 with S:=sumLive gl2 7 sumP }
theorem cfgP0_tab:TableOk Tryz.prog cfgP0:=⟨fun f af h=>tab_row f af h,fun f h=>by cases h⟩
theorem cfgP_tab:TableOk Tryz.prog cfgP:=⟨fun f af h=>tab_row f af h,fun f h=>by cases h⟩
/-! ### Plainly -/
theorem joinL_eq:∀ ts:List (List Nat),joinL [32] ts=joinF ts
 | []=>rfl
 | [a]=>rfl
 | a::b::r=>by
  show a++([32]++joinL [32] (b::r))=a++32::joinF (b::r)
  rw [joinL_eq (b::r)];rfl
theorem join_ge:∀ ts:List (List Nat),ts.length≤(joinF ts).length+1
 | []=>by simp
 | [a]=>by simp
 | a::b::r=>by
  have:=join_ge (b::r)
  show _≤(a++32::joinF (b::r)).length+1
  simp at this ⊢;omega
theorem strsV_strs:∀ ts:List (List Nat),strsV (ts.map V.str)=some ts
 | []=>rfl
 | a::r=>by
  show (match strsV (r.map V.str) with
   | some l=>some (a::l)
   | none=>none)=_
  rw [strsV_strs r]
theorem u8_strOf (b:ByteArray):u8 (strOf b)=b.data.toList:=by
 unfold u8 strOf
 rw [List.map_map]
 have:(UInt8.ofNat ∘ UInt8.toNat)=id:=by funext x;simp
 rw [this,List.map_id]
theorem ofU_strOf (l:List UInt8):ofU l=strOf ⟨l.toArray⟩:=rfl
theorem idx_mem (l:List UInt8) (c:UInt8):(0≤Lib.indexByte l c)↔c∈l:=by
 constructor
 ·intro h
  obtain ⟨o,ho⟩:∃ o:Nat,Lib.indexByte l c=o:=⟨(Lib.indexByte l c).toNat,by omega⟩
  exact List.mem_of_getElem? (Lib.indexByte_some ho).1
 ·intro h
  have:=Lib.indexByte_ge l c
  by_cases hm:Lib.indexByte l c=-1
  ·obtain ⟨k,hk,e⟩:=List.getElem_of_mem h
   exact absurd (by rw [List.getElem?_eq_getElem hk,e]) (Lib.indexByte_none hm k)
  ·omega
theorem mem_strOf (b:ByteArray):(10∈strOf b)↔(10:UInt8)∈b.data.toList:=by
 unfold strOf
 constructor
 ·intro h
  obtain ⟨x,hx,e⟩:=List.mem_map.1 h
  have:x=10:=UInt8.toNat_inj.1 e
  rw [←this];exact hx
 ·intro h
  exact List.mem_map.2 ⟨10,h,rfl⟩
theorem splitK_words:∀ l:List UInt8,(Lib.splitK [32] 0 (l.count 32) l).map ofU=splitF (ofU l)
 | []=>rfl
 | c :: r=>by
  have ih:=splitK_words r
  by_cases hc:c=32
  ·subst hc
   rw [List.count_cons_self]
   unfold Lib.splitK
   have hi:Lib.index ((32:UInt8)::r) [32]=0:=by rw [Lib.index_one];rfl
   rw [hi,if_neg (by decide)]
   show ofU []::(Lib.splitK [32] 0 (r.count 32) r).map ofU=splitF (32::ofU r)
   rw [ih];rfl
  ·have hn:¬ c.toNat=32:=fun e=>hc (UInt8.toNat_inj.1 e)
   rw [List.count_cons_of_ne hc]
   have hs:splitF (ofU (c::r))=match splitF (ofU r) with
    | []=>[[c.toNat]]
    | w::ws=>(c.toNat::w)::ws:=by
    show splitF (c.toNat::ofU r)=_
    conv=>lhs;unfold splitF
    rw [if_neg hn]
    rfl
   rw [hs,←ih]
   cases hk:r.count 32 with
   | zero=>rfl
   | succ k =>
    have hm:(32:UInt8)∈r:=List.count_pos_iff.1 (by omega)
    obtain ⟨j,hj⟩:∃ j:Nat,Lib.indexByte r 32=j:=⟨(Lib.indexByte r 32).toNat,by have:=(idx_mem r 32).2 hm;omega⟩
    have h1:Lib.index r [32]=(j:Int):=by rw [Lib.index_one,hj]
    have h2:Lib.index (c::r) [32]=((j+1:Nat):Int):=by
     rw [Lib.index_one]
     unfold Lib.indexByte
     rw [hj,if_neg (by simpa using hc),if_neg (by simp)];simp
    unfold Lib.splitK
    rw [h1,h2,if_neg (by simp;omega),if_neg (by simp)]
    rfl
theorem ofU_data (b:ByteArray):ofU b.data.toList=strOf b:=rfl
theorem split_words (b:ByteArray):(Lib.splitB ⟨#[32]⟩ 0 (Lib.countB b ⟨#[32]⟩) b).map strOf=splitF (strOf b):=by
 have h1:=Lib.splitB_data ⟨#[32]⟩ 0 (Lib.countB b ⟨#[32]⟩) b
 have h2:Lib.countB b ⟨#[32]⟩=b.data.toList.count 32:=Lib.count_one 32 b.data.toList
 have h3:=splitK_words b.data.toList
 rw [h2] at h1 ⊢
 have h4:(Lib.splitB ⟨#[32]⟩ 0 (b.data.toList.count 32) b).map strOf=((Lib.splitB ⟨#[32]⟩ 0 (b.data.toList.count 32) b).map (·.data.toList)).map ofU:=by rw [List.map_map];rfl
 rw [h4,h1]
 exact h3
/-! ### What the library's own contracts give -/
theorem var_below {P:Program} {B:Nat} {w0 w:World} (hb:Below B w0 w) {name:String} {g:Nat} (hg:P.globalNamed name=some g) (hB:g<B):w.var? P name=w0.var? P name:=by
 unfold World.var?
 rw [hg,Option.bind_some,Option.bind_some,hb.block g hB]
theorem var_lt {P:Program} {w:World} {name:String} {g:Nat} (hg:P.globalNamed name=some g) {cs:Array Value} (h:w.var? P name=some cs):g<w.heap.size:=by
 unfold World.var? at h
 rw [hg,Option.bind_some] at h
 rcases Nat.lt_or_ge g w.heap.size with q | q
 ·exact q
 ·rw [Array.getElem?_eq_none q] at h;cases h
structure Vars (B:Nat) (w0:World):Prop where
 tab:Lib.TabIs Tryz.prog w0 "internal/strconv.uint64pow10" .u64 Lib.pow10Tab
 syn:∃ t p,w0.var? Tryz.prog "strconv.ErrSyntax" = some #[.iface t p]
 rng:∃ t p,w0.var? Tryz.prog "strconv.ErrRange" = some #[.iface t p]
 lt:1<B∧4<B∧5<B
theorem gPow:Tryz.prog.globalNamed "internal/strconv.uint64pow10" = some 1:=by kernel_rfl
theorem gSyn:Tryz.prog.globalNamed "strconv.ErrSyntax" = some 4:=by kernel_rfl
theorem gRng:Tryz.prog.globalNamed "strconv.ErrRange" = some 5:=by kernel_rfl
theorem str1 {b:ByteArray} {c:UInt8} (h:[c.toNat]=strOf b):b=⟨#[c]⟩:=by
 obtain ⟨⟨l⟩⟩:=b
 have h:[c.toNat]=l.map UInt8.toNat:=h
 match l,h with
 | [x],h =>
  have:c.toNat=x.toNat:=by simpa using h
  rw [UInt8.toNat_inj.1 this]
 | [],h=>simp at h
 | x::y::t,h=>simp at h
theorem size_strOf {b:ByteArray}:(strOf b).length=b.size:=by unfold strOf;simp
section
variable {B:Nat} {w0 w:World} {ρ:Rho} {h:Heap}
theorem Vars.at (V:Vars B w0) (r:Rel Tryz.prog B w0 ρ h w):Vars B w:=by
 obtain ⟨l1,l2,l3⟩:=V.lt
 refine ⟨?_,?_,?_,V.lt⟩
 ·unfold Lib.TabIs;rw [var_below r.below gPow l1];exact V.tab
 ·rw [var_below r.below gSyn l2];exact V.syn
 ·rw [var_below r.below gRng l3];exact V.rng
theorem ret_err (r:Rel Tryz.prog B w0 ρ h w) {w':World} (hb:Below w.heap.size w w') (N:Nat):∃ ρ',Rel Tryz.prog B w0 ρ' (h.push .dead) w'∧New ρ ρ' h.size∧VR ρ' (.iface 217 (.ptr (some (h.size,0)))) (.iface 217 (.pointer (some ⟨N,0,none⟩))):=by
 have hnone:ρ h.size=none:=r.none_at
 have r1:=((r.below_keep hb).push .dead).deadEmb (b:=h.size) hnone (by rw [Heap.size_push];omega) (by rw [Heap.get_push,if_pos rfl]) ⟨N,0,0⟩
 exact ⟨_,r1,New.with_ hnone (Nat.le_refl _),.iface _ _ _ (.ptr h.size 0 ⟨N,0,0⟩ ⟨N,0,none⟩ with_same rfl)⟩
theorem itoa_snd (V:Vars B w0) {n:Int} (h1:-9223372036854775808≤n) (h2:n≤9223372036854775807) {us:Array Value} (r:Rel Tryz.prog B w0 ρ h w) (hr:VRs ρ [.int .i64 n] us.toList):CallSnd Tryz.prog B w0 ρ 33 us w h (.str (itoaF n)) h:=by
 obtain ⟨us⟩:=us
 cases hr with
 | cons _ u _ _ hu ht =>
 cases ht
 cases hu
 refine snd_calls (enters_of Tryz.func33 rfl (by kernel_rfl) _ _) ((Any.strconv_Itoa Tryz.laysM171 n h1 h2 w (V.at r).tab).mono fun e w' q=>?_)
 obtain ⟨rfl,k,os,rfl⟩:=q
 exact ⟨ρ,.str _ _ (ofU_strOf _),r.below_keep (Lib.below_grow _ w (Nat.le_refl _) k os),New.refl _ _⟩
theorem atoi_snd (V:Vars B w0) {s:List Nat} (hs:s.length≤1000000) {us:Array Value} (r:Rel Tryz.prog B w0 ρ h w) (hr:VRs ρ [.str s] us.toList):CallSnd Tryz.prog B w0 ρ 84 us w h (atoiSum s h).1 (atoiSum s h).2:=by
 obtain ⟨us⟩:=us
 cases hr with
 | cons _ u _ _ hu ht =>
 cases ht
 cases hu with
 | str b _ hb =>
 subst hb
 have hz:b.size≤1000000:=by rw [←size_strOf];exact hs
 have he:∀ a w,(callFunc 84 a).run Tryz.prog w=.ok (.enter 84 a) w:=enters_of Tryz.func84 rfl (by kernel_rfl)
 unfold atoiSum
 rw [u8_strOf]
 rcases hq:Lib.atoiAll b.data.toList with v | _ | _
 ·refine snd_calls (he _ _) ((Any.strconv_Atoi_ok Tryz.laysC172 b (by omega) v hq w).mono fun e w' q=>?_)
  obtain ⟨rfl,q⟩:=q
  have hb:Below w.heap.size w w':=by
   rcases q with rfl | ⟨t,rfl⟩
   ·exact Below.refl _ _
   ·exact Lib.bytesWorld_below _ _ _
  exact ⟨ρ,.tuple _ _ (.cons _ _ _ _ (.int _ _) (.cons _ _ _ _ .nilIface .nil)),r.below_keep hb,New.refl _ _⟩
 ·obtain ⟨t,p,hv⟩:=(V.at r).syn
  refine snd_calls (he _ _) ((Any.strconv_Atoi_syntax_var Tryz.laysC172 b (by omega) hq t p w hv).mono fun e w' q=>?_)
  obtain ⟨N,rfl,_,_,hb⟩:=q
  obtain ⟨ρ',q1,q2,q3⟩:=ret_err r hb N
  exact ⟨ρ',.tuple _ _ (.cons _ _ _ _ (.int _ _) (.cons _ _ _ _ q3 .nil)),q1,q2⟩
 ·obtain ⟨t,p,hv⟩:=(V.at r).rng
  refine snd_calls (he _ _) ((Any.strconv_Atoi_range_var Tryz.laysC172 b (by omega) hq t p w hv).mono fun e w' q=>?_)
  obtain ⟨N,rfl,_,_,hb⟩:=q
  obtain ⟨ρ',q1,q2,q3⟩:=ret_err r hb N
  exact ⟨ρ',.tuple _ _ (.cons _ _ _ _ (.int _ _) (.cons _ _ _ _ q3 .nil)),q1,q2⟩
set_option maxHeartbeats 1000000 in
theorem split_calls {P:Program} {ρ:Ren} (L:Lays.n146 P ρ) (hi9:(P.info? (ρ.t 9)).map (fun i=>(i.zero,i.size,i.bytes))=some (some (.string ByteArray.empty),1,16)) (s:ByteArray) (c:UInt8) (w:World) (hs:s.size<4294967281) :
  Calls P (ρ.f 146) #[.string s,.string ⟨#[c]⟩] w fun e w'=>e=.returned (.slice (some ⟨w.heap.size,0,none⟩) (Lib.countB s ⟨#[c]⟩+1) (Lib.countB s ⟨#[c]⟩+1))∧w'=w.alloc (.cells ((Lib.splitB ⟨#[c]⟩ 0 (Lib.countB s ⟨#[c]⟩) s).map Value.string).toArray (ρ.t 9)):=by
 have h1:1≤(⟨#[c]⟩:ByteArray).size:=by show 1≤1;omega
 have hle:=Lib.countB_le ⟨#[c]⟩ h1 s.size s (Nat.le_refl _)
 have hlen:=Lib.splitB_all ⟨#[c]⟩ h1 0 _ s rfl
 have hcc:Lib.countB s ⟨#[c]⟩=Lib.countByte s.data.toList c:=Lib.count_one c s.data.toList
 have c0:=Any.strings_genSplit_core { L with } hi9 s ⟨#[c]⟩ 0 (-1) (Lib.countB s ⟨#[c]⟩+1) w hs h1 (Nat.zero_le _)
  (fun x ar hx=>(Any.strings_Index_one { L with } x c _).mono fun e w' ⟨he,hw⟩=>⟨by rw [he];show _=Ending.returned (Value.int .i64 (Lib.index x.data.toList [c]));rw [Lib.index_one],hw⟩)
  ((Any.strings_Count_one { L with } s c w).mono fun e w' ⟨he,hw⟩=>⟨by rw [he,hcc],hw⟩) (by decide) (by decide) (by rw [if_pos (by decide)];omega)
 rw [Nat.add_sub_cancel,hlen] at c0
 have e2:Lib.cellsOf (Lib.splitB ⟨#[c]⟩ 0 (Lib.countB s ⟨#[c]⟩) s) (Lib.countB s ⟨#[c]⟩+1)=((Lib.splitB ⟨#[c]⟩ 0 (Lib.countB s ⟨#[c]⟩) s).map Value.string).toArray:=by rw [←hlen];exact Lib.cellsOf_full _
 rw [e2] at c0
 have t3:=L.t3;have t9:=L.t9;have t31:=L.t31
 have a3:=L.a3;have a9:=L.a9;have a31:=L.a31
 have z3:=L.z3;have v3:=L.v3;have z9:=L.z9;have v9:=L.v9;have z31:=L.z31;have v31:=L.v31
 have e221:∀ args w,(callFunc (ρ.f 221) args).run P w=.ok (.enter (ρ.f 221) args) w:=Go.Proofs.enters_of L.f221 (by kernel_rfl) rfl
 clear hcc hle hlen
 go_enter L.f146,Body.n146_ntmps ρ
 go_wp2_with (go_at_fn (ρ.f 221);refine c0.mono ?_;rintro e w' ⟨rfl,hw⟩;rw [hw])
 go_ret
 exact ⟨rfl,rfl⟩
theorem vrs_strs (ρ:Rho):∀ xs:List ByteArray,VRs ρ ((xs.map strOf).map V.str) (xs.map Value.string)
 | []=>.nil
 | x::r=>.cons _ _ _ _ (.str _ _ rfl) (vrs_strs ρ r)
theorem split_snd {s:List Nat} (hs:s.length≤1000000) {us:Array Value} (r:Rel Tryz.prog B w0 ρ h w) (hr:VRs ρ [.str s,.str [32]] us.toList) :
  CallSnd Tryz.prog B w0 ρ 19 us w h (.oslice h.size 0 (splitF s).length (splitF s).length 1) (h.push (.cells ((splitF s).map V.str) (.tip [] 0 none))):=by
 obtain ⟨us⟩:=us
 cases hr with
 | cons _ u _ _ hu ht =>
 cases ht with
 | cons _ u2 _ _ hu2 ht =>
 cases ht
 cases hu with
 | str b _ hb =>
 cases hu2 with
 | str b2 _ hb2 =>
 obtain rfl:=str1 (c:=32) hb2
 subst hb
 have hz:b.size≤1000000:=by rw [←size_strOf];exact hs
 have c:=split_calls Tryz.lays146 (by kernel_rfl) b 32 w (by omega)
 refine snd_calls (enters_of Tryz.func19 rfl (by kernel_rfl) _ _) (c.mono fun e w' q=>?_)
 obtain ⟨rfl,rfl⟩:=q
 have hlen:=Lib.splitB_all ⟨#[32]⟩ (by show 1≤1;omega) 0 _ b rfl
 have hle:=Lib.countB_le ⟨#[32]⟩ (by show 1≤1;omega) b.size b (Nat.le_refl _)
 rw [←split_words]
 generalize hxs:Lib.splitB ⟨#[32]⟩ 0 (Lib.countB b ⟨#[32]⟩) b=xs at *
 rw [←hlen]
 have hl2:(xs.map strOf).length=((xs.map strOf).map V.str).length:=by simp
 rw [hl2]
 refine (ret_row r (el:=9) (xs:=xs.map Value.string) ((Below.refl _ w).alloc (Nat.le_refl _) _) ?_ (vrs_strs ρ xs)).2 (by simp)
 refine ⟨by simp,.inr ⟨w.heap.size,xs.length,(xs.map Value.string).toArray,by simp,Nat.le_refl _,?_,by simp,by unfold maxLen;omega,by simp,by rw [Nat.mul_one,List.length_map,List.take_of_length_le (by simp)]⟩⟩
 show (w.heap.push _)[w.heap.size]? = _
 simp
 rfl
theorem contains_snd {s:List Nat} {us:Array Value} (r:Rel Tryz.prog B w0 ρ h w) (hr:VRs ρ [.str s,.str [10]] us.toList):CallSnd Tryz.prog B w0 ρ 21 us w h (.bool (decide (10∈s))) h:=by
 obtain ⟨us⟩:=us
 cases hr with
 | cons _ u _ _ hu ht =>
 cases ht with
 | cons _ u2 _ _ hu2 ht =>
 cases ht
 cases hu with
 | str b _ hb =>
 cases hu2 with
 | str b2 _ hb2 =>
 obtain rfl:=str1 (c:=10) hb2
 subst hb
 refine snd_calls (enters_of Tryz.func21 rfl (by kernel_rfl) _ _) ((Any.strings_Contains_one Tryz.lays144 b 10 w).mono fun e w' q=>?_)
 obtain ⟨rfl,rfl⟩:=q
 have:decide (0≤Lib.indexByte b.data.toList 10)=decide (10∈strOf b):=by
  by_cases hm:10∈strOf b
  ·rw [decide_eq_true hm,decide_eq_true ((idx_mem _ _).2 ((mem_strOf b).1 hm))]
  ·rw [decide_eq_false hm,decide_eq_false (fun q=>hm ((mem_strOf b).2 ((idx_mem _ _).1 q)))]
 rw [this]
 exact ⟨ρ,.bool _,r,New.refl _ _⟩
theorem toError_snd (V:Vars B w0) {t s:List Nat} {a b n:Int} (hs:s.length≤1000000) (hn:n=1∨n=2) {us:Array Value} (r:Rel Tryz.prog B w0 ρ h w) (hr:VRs ρ [.str t,.str s,.int .i64 a,.int .i64 b,.iface 214 (.int .i64 n)] us.toList) :
  CallSnd Tryz.prog B w0 ρ 115 us w h (.iface 217 (.ptr (some (h.size,0)))) (h.push .dead):=by
 obtain ⟨us⟩:=us
 cases hr with
 | cons _ u _ _ hu ht =>
 cases ht with
 | cons _ u2 _ _ hu2 ht =>
 cases ht with
 | cons _ u3 _ _ hu3 ht =>
 cases ht with
 | cons _ u4 _ _ hu4 ht =>
 cases ht with
 | cons _ u5 _ _ hu5 ht =>
 cases ht
 cases hu3;cases hu4
 cases hu5 with
 | iface _ _ u6 hu6 =>
 cases hu6
 cases hu with
 | str tb _ htb =>
 cases hu2 with
 | str sb _ hsb =>
 have hz:sb.size≤1000000:=by rw [←size_strOf,←hsb];exact hs
 have he:∀ a w,(callFunc 115 a).run Tryz.prog w=.ok (.enter 115 a) w:=enters_of Tryz.func115 rfl (by kernel_rfl)
 rcases hn with rfl | rfl
 ·obtain ⟨t,p,hv⟩:=(V.at r).rng
  have h1:w.cell? ⟨5,0,none⟩=some (.iface t p):=by have h0:=World.var?_cell gRng hv 0;simpa using h0
  refine snd_calls (he _ _) ((Any.strconv_toError_range Tryz.laysC245 tb sb a b (.iface t p) w (by omega) h1 (.inr ⟨t,p,rfl⟩)).mono fun e w' q=>?_)
  obtain ⟨N,rfl,_,_,hb⟩:=q
  obtain ⟨ρ',q1,q2,q3⟩:=ret_err r hb N
  exact ⟨ρ',q3,q1,q2⟩
 ·obtain ⟨t,p,hv⟩:=(V.at r).syn
  have h1:w.cell? ⟨4,0,none⟩=some (.iface t p):=by have h0:=World.var?_cell gSyn hv 0;simpa using h0
  refine snd_calls (he _ _) ((Any.strconv_toError_syntax Tryz.laysC245 tb sb a b (.iface t p) w (by omega) h1 (.inr ⟨t,p,rfl⟩)).mono fun e w' q=>?_)
  obtain ⟨N,rfl,_,_,hb⟩:=q
  obtain ⟨ρ',q1,q2,q3⟩:=ret_err r hb N
  exact ⟨ρ',q3,q1,q2⟩
theorem sumP_ok (V:Vars B w0):SumOk Tryz.prog B w0 cfgP0:=by
 intro f args h v h' hx
 replace hx:sumP f args h=some (some (v,h')):=hx
 unfold sumP at hx
 split at hx
 ·rename_i hf
  subst hf
  split at hx
  ·cases hx
   exact ⟨HM.refl h,fun ρ w us r hr=>noEscape_snd r hr⟩
  ·cases hx
 split at hx
 ·rename_i hf
  subst hf
  split at hx
  ·split at hx
   ·rename_i hc
    cases hx
    exact ⟨HM.refl h,fun ρ w us r hr=>itoa_snd V hc.1 hc.2 r hr⟩
   ·cases hx
  ·cases hx
 split at hx
 ·rename_i hf
  subst hf
  split at hx
  ·rename_i s
   split at hx
   ·rename_i hc
    have e:=Option.some.inj (Option.some.inj hx)
    have e1:v=(atoiSum s h).1:=by rw [e]
    have e2:h'=(atoiSum s h).2:=by rw [e]
    subst e1 e2
    refine ⟨?_,fun ρ w us r hr=>atoi_snd V hc.1 r hr⟩
    unfold atoiSum
    split
    ·exact HM.refl h
    ·exact HM.push h _
    ·exact HM.push h _
   ·cases hx
  ·cases hx
 split at hx
 ·rename_i hf
  subst hf
  split at hx
  ·split at hx
   ·rename_i hc
    cases hx
    obtain ⟨h1,h2,rfl⟩:=hc
    exact ⟨HM.push h _,fun ρ w us r hr=>split_snd h1 r hr⟩
   ·cases hx
  ·cases hx
 split at hx
 ·rename_i hf
  subst hf
  split at hx
  ·split at hx
   ·rename_i hc
    cases hx
    obtain ⟨h1,h2,rfl⟩:=hc
    exact ⟨HM.refl h,fun ρ w us r hr=>contains_snd r hr⟩
   ·cases hx
  ·cases hx
 split at hx
 ·rename_i hf
  subst hf
  exact join_snd joinE (Option.some.inj hx)
 split at hx
 ·rename_i hf
  subst hf
  split at hx
  ·split at hx
   ·rename_i hc
    cases hx
    obtain ⟨⟨h1,h2⟩,rfl,h3⟩:=hc
    exact ⟨HM.push h _,fun ρ w us r hr=>toError_snd V h1 h3 r hr⟩
   ·cases hx
  ·cases hx
 ·cases hx
end
end Abs
end Go.Proofs.YthgcjbniipfnbaaGreatDoor
