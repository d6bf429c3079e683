/- The library's functions, and behind, answer as the machine's summaries say. -/
import Derived.Test.YthgcjbniipfnbaaGreatDoorB4g
import Derived.Test.YthgcjbniipfnbaaGreatDoorLib
import Derived.Laws.Externs
namespace Go.Proofs.YthgcjbniipfnbaaGreatDoor
namespace Abs
set_option linter.unusedVariables false
set_option linter.unusedSimpArgs false
open Go.RowKit Go.Maps Go.Sort Go.Shelf
theorem cfg0_tab:TableOk Tryz.prog cfg0:=⟨fun f af h=>tab_row f af h,fun f h=>by cases h⟩
theorem cfg1_tab:TableOk Tryz.prog cfg1:=⟨fun f af h=>tab_row f af h,fun f h=>by cases h⟩
theorem sn_ne {f n:Nat} (h:SN.contains f=false) (hn:SN.contains n=true):f≠n:=by
 rintro rfl
 rw [hn] at h;cases h
theorem cfg0_std:Std cfg0:=⟨fun f args h hf=>by
 show sumLib f args h=none
 unfold sumLib
 rw [if_neg (sn_ne hf rfl),if_neg (sn_ne hf rfl),if_neg (sn_ne hf rfl),if_neg (sn_ne hf rfl),if_neg (sn_ne hf rfl),if_neg (sn_ne hf rfl),if_neg (sn_ne hf rfl),if_neg (sn_ne hf rfl)],rfl⟩
theorem cfg1_std:Std cfg1:=⟨fun f args h hf=>by
 show sumB f args h=none
 unfold sumB
 rw [if_neg (sn_ne hf rfl)]
 exact cfg0_std.s f args h hf,rfl⟩
theorem words_eq:∀ {cs:List V} {H:List Nat},wordsOf cs=some H→cs=(H.map iN).map uv∧∀ x∈H,x<4294967296
 | [],H,h=>by cases h;exact ⟨rfl,by simp⟩
 | .int .u32 (.ofNat n)::r,H,h=>by
  unfold wordsOf at h
  split at h
  ·rename_i l hb hl
   cases h
   obtain ⟨q1,q2⟩:=words_eq hl
   refine ⟨by rw [q1];rfl,fun x hx=>?_⟩
   rcases List.mem_cons.1 hx with rfl | hx
   ·have:=Nat.le_of_ble_eq_true hb
    omega
   ·exact q2 x hx
  ·cases h
 | .int .u32 (.negSucc _)::_,_,h=>by simp [wordsOf] at h
 | .int .i8 _::_,_,h | .int .i16 _::_,_,h | .int .i32 _::_,_,h | .int .i64 _::_,_,h | .int .u16 _::_,_,h | .int .u8 _::_,_,h | .int .u64 _::_,_,h
 | .bool _::_,_,h | .str _::_,_,h | .ptr _::_,_,h | .slice ..::_,_,h | .oslice ..::_,_,h | .map _::_,_,h | .func ..::_,_,h | .nilFunc::_,_,h | .iface ..::_,_,h | .nilIface::_,_,h
 | .agg _::_,_,h | .tuple _::_,_,h | .yld _::_,_,h=>by simp [wordsOf] at h
theorem roots_eq {h:Heap} (hr:rootsOk h=true):h.get 8=some (.cells ((rootsN.map iN).map uv) .ro):=by
 unfold rootsOk at hr
 split at hr
 ·rename_i cs hg
  rw [hg,V.beqs_eq _ _ hr]
 ·cases hr
theorem scopd_words (n:Nat):∀ l:List Int,V.scopeds n (l.map uv)=true
 | []=>rfl
 | x::l=>by simp only [List.map_cons,V.scopeds,scopd_words n l,Bool.and_true];rfl
/-! ### slices.Sorted(maps.Keys(m)) at keys that are strings -/
theorem sortsA (m:Nat):AnyZ.SortsIn Tryz.prog Tryz.sortedA_ren Fence.wide m :=
 ⟨fun blk off cap ss W hH hblk hsz=>callsIn_wide.2 (AnyM.slices_Sort_string Tryz.sortA blk off cap ss W hH hblk hsz),
  fun p cap W=>callsIn_wide.2 (AnyM.slices_Sort_string_none Tryz.sortA p cap W)⟩
theorem keysA:KeysS Tryz.prog 226 276 147 171 9:={
 ty:=Tryz.underlying9
 enK:=enters_of Tryz.func226 rfl (by kernel_rfl)
 enS:=enters_of Tryz.func147 rfl (by kernel_rfl)
 keys:=fun mb W=>(callsIn_wide (n:=6)).1 (AnyZ.keys_in Tryz.keysA Fence.wide 6 trivial rfl mb W)
 sorted:=fun Bm b nn D0 R w hB hm hown hmax hbytes=>by
  have hseq:SeqGives Fence.wide 2 Tryz.prog 276 #[.pointer (some ⟨Bm,0,none⟩)] encStr (fun ss=>ss.Perm (strKeys D0)) (Maps.size D0) w :=
   AnyZ.keys_gives (ρ:=Tryz.keysA_ren) { Tryz.keysA with } Fence.wide _ trivial rfl (by omega) Bm b nn D0 w hB hm hown
  have cS:=AnyZ.sorted_in Tryz.sortedA Fence.wide 5 trivial trivial trivial trivial rfl (by omega) (sortsA _) (enters_of Tryz.func164 rfl (by kernel_rfl)) 276 #[.pointer (some ⟨Bm,0,none⟩)] trivial (enters_of Tryz.func276 rfl (by kernel_rfl)) _ _ hmax hbytes w hseq
  change CallsIn _ _ Tryz.prog 147 _ _ _ at cS
  exact callsIn_wide.1 cS
 sortedNil:=fun Bm w hB hm=>by
  have hseq:SeqGives Fence.wide 2 Tryz.prog 276 #[.pointer (some ⟨Bm,0,none⟩)] encStr (fun ss:List (List UInt8)=>ss=[]) 0 w :=
   AnyZ.keys_gives_nil (ρ:=Tryz.keysA_ren) { Tryz.keysA with } Fence.wide _ trivial rfl Bm w hB hm
  have cS:=AnyZ.sorted_in Tryz.sortedA Fence.wide 5 trivial trivial trivial trivial rfl (by omega) (sortsA _) (enters_of Tryz.func164 rfl (by kernel_rfl)) 276 #[.pointer (some ⟨Bm,0,none⟩)] trivial (enters_of Tryz.func276 rfl (by kernel_rfl)) _ 0 (Nat.zero_le _) (by omega) w hseq
  change CallsIn _ _ Tryz.prog 147 _ _ _ at cS
  refine (callsIn_wide.1 cS).mono fun e w' q=>?_
  obtain ⟨v,ss,rfl,rfl,hrow,hnil,hb⟩:=q
  obtain rfl:v=.slice none 0 0:=hnil.2 rfl
  exact ⟨rfl,hb⟩ }
/-! ### slices.Insert, strings.Join, the searches -/
theorem insE:∀ args w,(callFunc 382 args).run Tryz.prog w=.ok (.enter 382 args) w:=enters_of Tryz.func382 rfl (by kernel_rfl)
theorem joinE:JoinS Tryz.prog 27:={
 en:=enters_of Tryz.func27 rfl (by kernel_rfl)
 none:=fun a c sep w=>Any.strings_Join_none Tryz.lays156 Tryz.Builder_Extra_156 a c sep w
 some:=fun bk o c xs sep w h1 h2 h3 h4 h5=>Any.strings_Join Tryz.lays156 Tryz.Builder_Extra_156 bk o c xs sep w h1 h2 h3 h4 h5 }
/-! ### strings.Repeat -/
theorem rep_eq (l:List UInt8):∀ n,(Lib.repeatL l n).map UInt8.toNat=repL (l.map UInt8.toNat) n
 | 0=>rfl
 | n+1=>by unfold Lib.repeatL repL;rw [List.map_append,rep_eq l n]
section
variable {B:Nat} {w0:World}
theorem noEscape_snd {ρ:Rho} {h:Heap} {w:World} {x:V} {us:Array Value} (r:Rel Tryz.prog B w0 ρ h w) (hr:VRs ρ [x] us.toList):CallSnd Tryz.prog B w0 ρ 122 us w h x h:=by
 obtain ⟨us⟩:=us
 cases hr with
 | cons _ u _ _ hu ht =>
 cases ht
 refine .inr ⟨u,w,?_,ρ,hu,r,New.refl _ _⟩
 rw [run_callFunc_extern Tryz.func122 (by kernel_rfl) (by kernel_rfl) (by kernel_rfl) (e:=Extern.AbiNoEscape.same) (by kernel_rfl)]
 rfl
theorem repeat_snd {ρ:Rho} {h:Heap} {w:World} {s:List Nat} {n:Int} {us:Array Value} (hn:0≤n∧s.length*n.toNat≤1000000) (hm:n≤9223372036854775807) (r:Rel Tryz.prog B w0 ρ h w) (hr:VRs ρ [.str s,.int .i64 n] us.toList) :
  CallSnd Tryz.prog B w0 ρ 308 us w h (.str (repL s n.toNat)) h:=by
 obtain ⟨us⟩:=us
 cases hr with
 | cons _ u _ _ hu ht =>
 cases ht with
 | cons _ u2 _ _ hu2 ht =>
 cases ht
 cases hu with
 | str b _ hb =>
 cases hu2
 obtain ⟨c,rfl⟩:∃ c:Nat,n=c:=⟨n.toNat,by omega⟩
 have hz:b.size=s.length:=by rw [hb];simp [strOf]
 refine snd_calls (enters_of Tryz.func308 rfl (by kernel_rfl) _ _) ((Any.strings_Repeat Tryz.lays105 Tryz.Builder_Extra_105 b c w (by omega) (by rw [hz];simp only [Int.toNat_natCast] at hn;omega)).mono fun e w' q=>?_)
 obtain ⟨rfl,hbel⟩:=q
 refine ⟨ρ,.str _ _ ?_,r.below_keep hbel,New.refl _ _⟩
 rw [Int.toNat_natCast,hb]
 show _=(Lib.repeatL b.data.toList c).map UInt8.toNat
 rw [rep_eq];rfl
theorem lib_sum (B:Nat) (w0:World):SumOk Tryz.prog B w0 cfg0:=by
 intro f args h v h' hx
 replace hx:sumLib f args h=some (some (v,h')):=hx
 unfold sumLib at hx
 split at hx
 ·rename_i hf
  subst hf
  split at hx
  ·cases hx
   exact ⟨HM.refl h,fun ρ w us r hr=>noEscape_snd r hr⟩
  ·cases hx
 split at hx
 ·rename_i hf
  subst hf
  replace hx:repSum args h=some (v,h'):=Option.some.inj hx
  unfold repSum at hx
  split at hx
  ·split at hx
   ·rename_i hc
    cases hx
    exact ⟨HM.refl h,fun ρ w us r hr=>repeat_snd hc.1 hc.2 r hr⟩
   ·cases hx
  ·cases hx
 split at hx
 ·rename_i hf
  subst hf
  exact keys_snd keysA.enK keysA.keys (Option.some.inj hx)
 split at hx
 ·rename_i hf
  subst hf
  exact sortedS_snd keysA (Option.some.inj hx)
 split at hx
 ·rename_i hf
  subst hf
  exact insert_snd Tryz.insertA insE (Option.some.inj hx)
 split at hx
 ·rename_i hf
  subst hf
  exact idx_snd Tryz.func174 (by kernel_rfl) (by kernel_rfl) (by kernel_rfl) (by kernel_rfl) (Option.some.inj hx)
 split at hx
 ·rename_i hf
  subst hf
  exact cnt_snd Tryz.func113 (by kernel_rfl) (by kernel_rfl) (by kernel_rfl) (by kernel_rfl) (Option.some.inj hx)
 split at hx
 ·rename_i hf
  subst hf
  exact join_snd joinE (Option.some.inj hx)
 ·cases hx
theorem behind_snd {h:Heap} {H:List Nat} {s:List Nat} (hH:H.length=8) (hl:∀ x∈H,x<4294967296) (hs:s.length=64) (hk:rootsOk h=true) {ρ:Rho} {w:World} {us:Array Value} (r:Rel Tryz.prog B w0 ρ h w)
  (hr:VRs ρ [.agg ((H.map iN).map uv),.str s] us.toList):CallSnd Tryz.prog B w0 ρ 352 us w h (.agg ((behindN rootsN H s).map fun n=>.int .u32 (.ofNat n))) h:=by
 have q:(behindN rootsN H s).map (fun n=>V.int .u32 (.ofNat n))=(behindF (rootsN.map iN) (H.map iN) s).map uv:=by
  rw [behindN_eq rfl hH hs hl,List.map_map];rfl
 rw [q]
 exact pure_sum cfg0_tab (lib_sum B w0) (behind_ans cfg0_std (fun _ _=>rfl) h r.fresh (H.map iN) (rootsN.map iN) (by simpa using hH) rfl s hs (roots_eq hk)) (by simp only [V.scopd];exact scopd_words _ _) r hr
theorem all_sum (B:Nat) (w0:World):SumOk Tryz.prog B w0 cfg1:=by
 intro f args h v h' hx
 replace hx:sumB f args h=some (some (v,h')):=hx
 unfold sumB at hx
 split at hx
 ·rename_i hf
  subst hf
  split at hx
  ·rename_i cs s
   split at hx
   ·rename_i H hH
    split at hx
    ·rename_i hc
     cases hx
     obtain ⟨q1,q2⟩:=words_eq hH
     rw [q1]
     exact ⟨HM.refl h,fun ρ w us r hr=>behind_snd hc.1 q2 hc.2.1 hc.2.2 r hr⟩
    ·cases hx
   ·cases hx
  ·cases hx
 ·exact lib_sum B w0 f args h v h' hx
end
end Abs
end Go.Proofs.YthgcjbniipfnbaaGreatDoor
