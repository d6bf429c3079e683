/- The abstract machine: slices.Insert at []string as a summary: the old block is given up; what comes back is a block of its own. The abstract machine: the library's searches in strings, and strings.Join, as summaries. The abstract machine: contracts whose answers speak of blocks that were there; rows of bytes in a call's own blocks. The abstract machine: arguments that came in, slices within slices among them. The abstract machine: maps with keys that are int, in contracts. The abstract machine, run in pieces: a call that Lean's kernel has run in a memory of a few blocks serves as a summary wherever these blocks are as they were there. The abstract machine: arguments that are handed on unread: values of flat types (numbers, texts, a slice among them); a law's run with a summary of its own closed part. -/
import Derived.Test.YthgcjbniipfnbaaGreatDoorA29
import Derived.Shelf.Spec.SlicesInsertGrow
import Derived.Lib.Bytealg
import Derived.Lib.Join
import Derived.Laws.Externs
import Derived.Deep.Strs
import Derived.Lib.SmallJoins
import Derived.ChangeArms
import Derived.WideShapes
namespace Go.Proofs.YthgcjbniipfnbaaGreatDoor
namespace Abs
noncomputable section
set_option linter.unusedVariables false
set_option linter.unusedSimpArgs false
open Go.RowKit Go.Shelf
def strQ:V→Bool
 | .str _=>true
 | _=>false
def insertSum (st:Nat) (args:List V) (h:Heap):Option (V × Heap) :=
 match args with
 | [s, .int .i64 i,.slice (some (vb,vo)) m mc]=>match h.get vb with
  | some (.cells vc (.tip [] 0 (some t))) =>
   if t = st∧vo+m≤vc.length∧m≠0∧m≤1000000∧((vc.drop vo).take m).all strQ=true∧0≤i then
    match s with
    | .slice none 0 0=>if i=0 then some (.oslice h.size 0 ((vc.drop vo).take m).length ((vc.drop vo).take m).length 1,h.push (.cells ((vc.drop vo).take m) (.tip [] 0 (some t)))) else none
    | .oslice b 0 n cap 1=>match h.get b with
     | some (.cells cs (.tip S 0 (some t'))) =>
      if t'=st∧i≤n∧n≤cs.length∧n≤1000000∧(cs.take n).all strQ=true∧vb≠b∧S.contains vb=false then
       some (.oslice h.size 0 ((cs.take n).take i.toNat++(vc.drop vo).take m++(cs.take n).drop i.toNat).length ((cs.take n).take i.toNat++(vc.drop vo).take m++(cs.take n).drop i.toNat).length 1,
        ((h.kill S).put b .dead).push (.cells ((cs.take n).take i.toNat++(vc.drop vo).take m++(cs.take n).drop i.toNat) (.tip [] 0 (some t))))
      else none
     | _=>none
    | _=>none
   else none
  | _=>none
 | _=>none
section
variable {P:Program} {B:Nat} {w0 w:World} {ρ:Rho} {h:Heap}
theorem Rel.dead1 (r:Rel P B w0 ρ h w) (b:Nat) (hlt:b<h.size):Rel P B w0 ρ (h.put b .dead) w:=by
 refine ⟨fun x e hx=>r.dom x e hx,fun x e hx=>?_,?_,fun x e o h1 h2 h3=>?_,fun x hx=>?_,r.below,r.base,r.glob⟩
 ·rw [Heap.get_put]
  by_cases hxb:x=b
  ·rw [if_pos hxb];exact ⟨_,rfl,trivial⟩
  ·rw [if_neg hxb];exact r.obj x e hx
 ·intro x x' e1 e2 o1 o2 S h1 h2 h3 h4 h5 h6 h7 h8
  rw [Heap.get_put] at h4 h6
  by_cases hx:x=b
  ·rw [if_pos hx] at h4;cases h4;cases h5
  ·rw [if_neg hx] at h4
   by_cases hx':x'=b
   ·rw [if_pos hx'] at h6;cases h6;cases h7
   ·rw [if_neg hx'] at h6
    exact r.sep x x' e1 e2 o1 o2 S h1 h2 h3 h4 h5 h6 h7 h8
 ·rw [Heap.get_put] at h2
  by_cases hxb:x=b
  ·rw [if_pos hxb] at h2;cases h2;cases h3
  ·rw [if_neg hxb] at h2;exact r.live x e o h1 h2 h3
 ·rw [Heap.get_put,if_neg (by simp only [Heap.size_put] at hx;omega)]
  exact r.fresh x (by simpa only [Heap.size_put] using hx)
theorem Rel.elsewhere (r:Rel P B w0 ρ h w) {g:Nat} (hB:B≤g) (hfree:∀ b' e' o',ρ b'=some e'→h.get b'=some o'→o'.alive=true→e'.blk≠g) (o:Nat) (u:Value):Rel P B w0 ρ h (w.setCell ⟨g,o,none⟩ u):=by
 refine ⟨r.dom,fun x e hx=>?_,r.sep,fun x e o' h1 h2 h3=>?_,r.fresh,r.below.setCell hB u,by simpa [World.setCell] using r.base,r.glob⟩
 ·obtain ⟨o',q1,q2⟩:=r.obj x e hx
  refine ⟨o',q1,?_⟩
  cases ha:o'.alive with
  | false=>cases o' <;> first | (cases ha;done) | trivial
  | true=>exact q2.heap (heap_setCell_ne w ⟨g,o,none⟩ u e.blk (hfree x e o' hx q1 ha))
 ·simpa [World.setCell] using r.live x e o' h1 h2 h3
theorem Rel.elsewheres {g:Nat} (hB:B≤g):∀ (us:List Value) (o:Nat) {w:World} (r:Rel P B w0 ρ h w),(∀ b' e' o',ρ b'=some e'→h.get b'=some o'→o'.alive=true→e'.blk≠g)→Rel P B w0 ρ h (w.setCells g o us)
 | [],o,w,r,_=>r
 | u::us,o,w,r,hf=>Rel.elsewheres hB us (o+1) (r.elsewhere hB hf o u) hf
theorem own_drew {e:Emb} {n fz:Nat} {ty:Option Nat} (ho:Own w e n fz ty):Own w.drew e n fz ty:=⟨ho.shape,ho.room⟩
theorem below_setCells {B:Nat} {a:World} {g:Nat} (hg:B≤g):∀ (us:List Value) (o:Nat) {w:World},Below B a w→Below B a (w.setCells g o us)
 | [],_,_,hb=>hb
 | u::us,o,w,hb=>below_setCells hg us (o+1) (hb.setCell (p:=⟨g,o,none⟩) hg u)
theorem own_setCells {e:Emb} {n fz:Nat} {ty:Option Nat} (g:Nat):∀ (us:List Value) (o:Nat) {w:World},Own w e n fz ty→Own (w.setCells g o us) e n fz ty
 | [],_,_,ho=>ho
 | u::us,o,w,ho=>own_setCells g us (o+1) (own_setCell ho ⟨g,o,none⟩ u)
theorem ret_new {w':World} (r:Rel P B w0 ρ h w') {g cap' el:Nat} {c:Array Value} {fr:Nat × Nat} (hB:B≤g) (hgc:w'.heap[g]? = some (.cells c el fr)) (hfr:fr.1=fr.2∨fr.2≤0) (hcap:cap'≤c.size) (hcm:cap'≤9223372036854775807)
  {news:List V} {us:List Value} (hv:VRs ρ news us) (hN:news.length≤cap') (hcell:∀ j v,us[j]? = some v→w'.cell? ⟨g,j,none⟩=some v) (hfree:∀ b' e' o',ρ b'=some e'→h.get b'=some o'→o'.alive=true→e'.blk≠g) :
  Ret P B w0 ρ h.size (.oslice h.size 0 news.length news.length 1) (h.push (.cells news (.tip [] 0 (some el)))) (.slice (some ⟨g,0,none⟩) news.length cap') w':=by
 have hnone:ρ h.size=none:=r.none_at
 have hgl:g<w'.heap.size:=(Array.getElem?_eq_some_iff.1 hgc).1
 have r2:=(r.push (.cells news (.tip [] 0 (some el)))).layAt (b:=h.size) (o:=.cells news (.tip [] 0 (some el))) hnone (by rw [Heap.size_push];omega) (by rw [Heap.get_push,if_pos rfl]) ⟨g,0,c.size⟩ hgl
  (fun b' e' o' h1 h2 h3 he=>by
   have hlt:=r.dom b' e' h1
   rw [Heap.get_push,if_neg (by omega)] at h2
   exact hfree b' e' o' h1 h2 h3 he)
  ⟨hB,fun i v hi=>by
   obtain ⟨u,q1,q2⟩:=hv.get i v hi
   refine ⟨u,?_,q2.mono (with_le hnone)⟩
   have:=hcell i u q1
   simpa [at_] using this,⟨⟨c,el,fr,hgc,rfl,hfr.elim .inl fun q=>.inr (.inl (by simpa using q)),fun t ht=>⟨by cases ht;rfl,rfl⟩⟩,by simp only [Nat.zero_add];omega⟩⟩
 exact ⟨_,VR.oslice h.size 0 news.length news.length 1 cap' ⟨g,0,c.size⟩ ⟨g,0,none⟩ with_same (fun _=>⟨rfl,.inr ⟨by simp only [Nat.zero_add,Nat.mul_one];exact hcap,hcm⟩⟩) (Nat.le_refl _) hN,r2,New.with_ hnone (Nat.le_refl _)⟩
theorem strs_one:∀ {cs:List V} {us:List Value},VRs ρ cs us→cs.all strQ=true→∀ u∈us,u.oneCell'=true
 | _,_,.nil,_,u,hu=>by cases hu
 | _,_,.cons v u x a hv ht,hs,u',hu=>by
  simp only [List.all_cons,Bool.and_eq_true] at hs
  rcases List.mem_cons.1 hu with rfl | hu
  ·cases hv <;> first | rfl | (cases hs.1;done)
  ·exact strs_one ht hs.2 u' hu
theorem VRs.takeN:∀ {cs:List V} {us:List Value} (n:Nat),VRs ρ cs us→VRs ρ (cs.take n) (us.take n)
 | _,_,0,_=>.nil
 | _,_,n+1,.nil=>.nil
 | _,_,n+1,.cons v u x a h t=>.cons v u _ _ h (t.takeN n)
theorem VRs.dropN:∀ {cs:List V} {us:List Value} (n:Nat),VRs ρ cs us→VRs ρ (cs.drop n) (us.drop n)
 | _,_,0,h=>h
 | _,_,n+1,.nil=>.nil
 | _,_,n+1,.cons v u x a h t=>t.dropN n
theorem VRs.cat:∀ {cs ds:List V} {us vs:List Value},VRs ρ cs us→VRs ρ ds vs→VRs ρ (cs++ds) (us++vs)
 | _,_,_,_,.nil,h=>h
 | _,_,_,_,.cons v u x a h t,k=>.cons v u _ _ h (t.cat k)
theorem three_cells {W':World} {g off:Nat} {xs ys zs:List Value} (h1:∀ j v,xs[j]? = some v→W'.cell? ⟨g,off+j,none⟩=some v) (h2:∀ j v,ys[j]? = some v→W'.cell? ⟨g,off+(xs.length+j),none⟩=some v)
  (h3:∀ j v,zs[j]? = some v→W'.cell? ⟨g,off+(xs.length+ys.length+j),none⟩=some v) (j:Nat) (v:Value) (hj:(xs++ys++zs)[j]? = some v):W'.cell? ⟨g,off+j,none⟩=some v:=by
 rw [List.getElem?_append] at hj
 split at hj
 ·rw [List.getElem?_append] at hj
  split at hj
  ·exact h1 j v hj
  ·have:=h2 _ v hj
   rwa [show xs.length+(j-xs.length)=j by omega] at this
 ·rename_i hl
  simp only [List.length_append] at hl hj
  have:=h3 _ v hj
  rwa [show xs.length+ys.length+(j-(xs.length+ys.length))=j by omega] at this
theorem ret_fresh {w':World} {h2:Heap} (r:Rel P B w0 ρ h2 w) (hb:Below w.heap.size w w') {cap' el:Nat} {c:Array Value} (hgc:w'.heap[w.heap.size]? = some (.cells c el (0,0))) (hcap:cap'≤c.size) (hcm:cap'≤9223372036854775807)
  {news:List V} {us:List Value} (hv:VRs ρ news us) (hN:news.length≤cap') (hcell:∀ j v,us[j]? = some v→w'.cell? ⟨w.heap.size,j,none⟩=some v) :
  Ret P B w0 ρ h2.size (.oslice h2.size 0 news.length news.length 1) (h2.push (.cells news (.tip [] 0 (some el)))) (.slice (some ⟨w.heap.size,0,none⟩) news.length cap') w' :=
 ret_new (r.below_keep hb) r.base hgc (.inl rfl) hcap hcm hv hN hcell fun b' e' o' h1 h2 h3 he=>by
  have:=r.live b' e' o' h1 h2 h3
  omega
theorem insert_snd {ρr:Ren} (L:Lays2.n22 P ρr) (hen:∀ args w,(callFunc (ρr.f 22) args).run P w=.ok (.enter (ρr.f 22) args) w) {args:List V} {v:V} {h':Heap} (hx:insertSum (ρr.t 9) args h=some (v,h')) :
  HM h h'∧∀ (ρ:Rho) (w:World) (us:Array Value),Rel P B w0 ρ h w→VRs ρ args us.toList→CallSnd P B w0 ρ (ρr.f 22) us w h v h':=by
 unfold insertSum at hx
 split at hx
 rotate_left
 ·cases hx
 rename_i s i vb vo m mc
 split at hx
 rotate_left
 ·cases hx
 rename_i vc t hvb
 split at hx
 rotate_left
 ·cases hx
 rename_i hc
 obtain ⟨ht,hvl,hm0,hmx,hvs,hi0⟩:=hc
 subst ht
 have hnl:((vc.drop vo).take m).length=m:=by simp;omega
 have vfacts:∀ (ρ:Rho) (w:World) (r:Rel P B w0 ρ h w) (u:Value),VR ρ (.slice (some (vb,vo)) m mc) u→∃ ev us2,ρ vb=some ev∧u=.slice (some ⟨ev.blk,vo,none⟩) m mc∧VRs ρ ((vc.drop vo).take m) us2∧us2.length=m ∧
   (∀ j x,us2[j]? = some x→w.cell? ⟨ev.blk,vo+j,none⟩=some x)∧(∀ u∈us2,u.oneCell'=true)∧∃ c fr,w.heap[ev.blk]? = some (.cells c (ρr.t 9) fr)∧(fr.1=fr.2∨fr.2≤0):=by
  intro ρ w r u hu
  cases hu with
  | slice _ _ _ _ e a he ha hl =>
  have ha:=ha (by omega)
  obtain ⟨o0,g0,g1⟩:=r.obj vb e he
  rw [hvb] at g0
  cases g0
  obtain ⟨hB,hcf,⟨c,el,fr,hcc,hsz,hfr,hty⟩,hroom⟩:=g1
  obtain ⟨rfl,hoff⟩:=hty _ rfl
  obtain ⟨us2,q1,q2⟩:=facts_list (w:=w) (ρ:=ρ) (e:=e) ((vc.drop vo).take m) vo (fun i v hv=>by
   refine hcf (vo+i) v ?_
   rw [List.getElem?_take] at hv
   split at hv
   ·rwa [List.getElem?_drop] at hv
   ·cases hv)
  refine ⟨e,us2,he,by rw [ha];simp [at_,hoff],q1,by rw [←VRs.length q1];exact hnl,fun j x hj=>?_,strs_one q1 hvs,c,fr,hcc,?_⟩
  ·have:=q2 j x hj
   rw [at_add] at this
   simpa [at_,hoff] using this
  ·rcases hfr with q | q | q
   ·exact .inl q
   ·exact .inr (by omega)
   ·cases q.1
 split at hx
 ·-- nil
  split at hx
  rotate_left
  ·cases hx
  rename_i hi
  subst hi
  cases hx
  refine ⟨HM.push _ _,fun ρ w us r hv=>?_⟩
  obtain ⟨us⟩:=us
  cases hv with
  | cons _ u0 _ _ hu0 ht =>
  cases ht with
  | cons _ u1 _ _ hu1 ht =>
  cases ht with
  | cons _ u2 _ _ hu2 ht =>
  cases ht
  cases hu0
  cases hu1
  obtain ⟨ev,us2,he,rfl,q1,q2,q3,q4,c,fr,hcc,hfr⟩:=vfacts ρ w r u2 hu2
  refine snd_calls (hen _ _) ((Any2.slices_Insert_string_end_grow L none 0 0 ev.blk vo m mc [] us2 w (by omega) (Nat.le_refl _) (by omega) (by omega) rfl q2 (fun _=>rfl) (fun a h=>by cases h) q3 q4).mono fun e w' q=>?_)
  obtain ⟨rfl,rfl⟩:=q
  have hge:=grownCap_ge w (0+m) 0 (ρr.t 9)
  have hx:=ret_fresh r (((Below.refl _ w).drew).alloc (Nat.le_refl _) (.cells (([]++us2).toArray++Builtin.zeroCells (Value.string ⟨#[]⟩).cells (grownCap w (0+m) 0 (ρr.t 9)-(0+m))) (ρr.t 9)))
   (cap':=grownCap w (0+m) 0 (ρr.t 9)) (alloc_at w.drew _) (by simp only [Array.size_append,size_zeroCells,List.size_toArray,List.nil_append,q2];have:(Value.string ⟨#[]⟩).cells.size=1:=rfl;rw [this];omega) (grownCap_le_maxLen w _ 0 _ (by unfold maxLen;omega)) q1 (by rw [hnl];omega)
   (fun j v hj=>by
    show (w.drew.alloc _).cell? ⟨w.drew.heap.size,j,none⟩=some v
    rw [World.cell?_alloc_new,List.nil_append,Array.getElem?_append_left (by simpa using (List.getElem?_eq_some_iff.1 hj).1)]
    simpa using hj)
  rw [show 0+m=((vc.drop vo).take m).length by omega] at hx ⊢
  exact hx
 ·-- a slice that may have room
  rename_i b n cap
  split at hx
  rotate_left
  ·cases hx
  rename_i cs S t' hg
  split at hx
  rotate_left
  ·cases hx
  rename_i hc
  obtain ⟨ht',hin,hncs,hnx,hcss,hne,hS⟩:=hc
  subst ht'
  obtain ⟨k,rfl⟩:∃ k:Nat,i=k:=⟨i.toNat,by omega⟩
  have hkn:k≤n:=by omega
  cases hx
  rw [Int.toNat_natCast]
  refine ⟨(HM.kill S h).trans ((HM.put _ _ _).trans (HM.push _ _)),fun ρ w us r hv=>?_⟩
  have hS':vb∉S:=fun hm=>by rw [List.contains_iff_mem.2 hm] at hS;cases hS
  obtain ⟨us⟩:=us
  cases hv with
  | cons _ u0 _ _ hu0 ht =>
  cases ht with
  | cons _ u1 _ _ hu1 ht =>
  cases ht with
  | cons _ u2 _ _ hu2 ht =>
  cases ht
  cases hu1
  cases hu0 with
  | oslice _ _ _ _ _ cap' e a he ha hl hcp =>
  obtain ⟨ev,us2,hev,rfl,q1,q2,q3,q4,c2,fr2,hcc2,hfr2⟩:=vfacts ρ w r u2 hu2
  have blt:=r.dom b e he
  have r1:=r.killed he hg
  have g1b:((h.kill S).put b (.cells cs (.tip [] 0 (some (ρr.t 9))))).get b=some (.cells cs (.tip [] 0 (some (ρr.t 9)))):=by rw [Heap.get_put,if_pos rfl]
  have g1v:((h.kill S).put b (.cells cs (.tip [] 0 (some (ρr.t 9))))).get vb=some (.cells vc (.tip [] 0 (some (ρr.t 9)))):=by rw [Heap.get_put,if_neg hne,Heap.kill_get,if_neg (fun q=>hS' q.1)];exact hvb
  have hblk:ev.blk≠e.blk:=fun q=>by
   have:=(r1.sep b vb e ev _ _ [] he hev (Ne.symm hne) g1b rfl g1v rfl q).1
   cases this
  have hfree:∀ b' e' o',ρ b'=some e'→((h.kill S).put b .dead).get b'=some o'→o'.alive=true→e'.blk≠e.blk:=by
   intro b' e' o' h1 h2 h3 q
   rw [Heap.get_put] at h2
   by_cases hb':b'=b
   ·rw [if_pos hb'] at h2;cases h2;cases h3
   ·rw [if_neg hb'] at h2
    have:=(r1.sep b b' e e' _ o' [] he h1 (Ne.symm hb') g1b rfl (by rw [Heap.get_put,if_neg hb'];exact h2) h3 q).1
    cases this
  have r2:Rel P B w0 ρ ((h.kill S).put b .dead) w:=(r1.dead1 b (by rw [Heap.size_put,Heap.kill_size];exact blt)).congr (by simp only [Heap.size_put]) fun x=>by
   rw [Heap.get_put,Heap.get_put,Heap.get_put]
   by_cases hx:x=b
   ·rw [if_pos hx,if_pos hx]
   ·rw [if_neg hx,if_neg hx,if_neg hx]
  have hsz:((h.kill S).put b .dead).size=h.size:=by rw [Heap.size_put,Heap.kill_size]
  obtain ⟨o0,g0,gr⟩:=r.obj b e he
  rw [hg] at g0
  cases g0
  obtain ⟨hB,hcf,hown⟩:=gr
  have hown0:=hown
  obtain ⟨⟨c,el,fr,hcc,hcsz,hfr,hty⟩,hroom⟩:=hown
  obtain ⟨rfl,hoff⟩:=hty _ rfl
  have hfr':fr.1=fr.2∨fr.2≤0:=by
   rcases hfr with q | q | q
   ·exact .inl q
   ·exact .inr (by omega)
   ·cases q.1
  have htl:(cs.take n).length=n:=by simp;omega
  obtain ⟨us1,p1,p2⟩:=facts_list (w:=w) (ρ:=ρ) (e:=e) (cs.take n) 0 (fun i v hv=>by
   refine hcf (0+i) v ?_
   rw [List.getElem?_take] at hv
   split at hv
   ·rwa [Nat.zero_add]
   ·cases hv)
  have p3:us1.length=n:=by rw [←VRs.length p1];exact htl
  have p4:∀ j x,us1[j]? = some x→w.cell? ⟨e.blk,j,none⟩=some x:=fun j x hj=>by
   have:=p2 j x hj
   rw [at_add] at this
   simpa [at_,hoff] using this
  have p5:=strs_one p1 hcss
  have hnews:VRs ρ ((cs.take n).take k++(vc.drop vo).take m++(cs.take n).drop k) (us1.take k++us2++us1.drop k):=((p1.takeN k).cat q1).cat (p1.dropN k)
  have hNl:((cs.take n).take k++(vc.drop vo).take m++(cs.take n).drop k).length=n+m:=by simp only [List.length_append,List.length_take,List.length_drop,hnl];omega
  have hk1:(us1.take k).length=k:=by simp;omega
  have hk2:(us1.drop k).length=n-k:=by simp;omega
  by_cases hrm:n+m≤cap'
  ·-- in place
   obtain ⟨rfl,hlim⟩:=ha (by omega)
   obtain ⟨hlim,hc63⟩:cap'≤e.lim∧cap'≤9223372036854775807:=by
    rcases hlim with q | q
    ·cases q
    ·exact ⟨by omega,q.2⟩
   have hat:at_ e 0=⟨e.blk,0,none⟩:=by simp [at_,hoff]
   have hsome:∀ j,j<n+m→(w.cell? ⟨e.blk,j,none⟩).isSome=true:=fun j hj=>by
    simp only [World.cell?,hcc]
    simp;omega
   have hnf:∀ j,j<n+m→w.frozen? ⟨e.blk,j,none⟩=false:=fun j hj=>by
    have:=notFrozen hown0 (i:=j) (Nat.zero_le _) (by omega)
    simpa [at_,hoff] using this
   rw [hat]
   by_cases hkn':k<n
   ·refine snd_calls (hen _ _) ((Any2.slices_Insert_string_shift L e.blk 0 n cap' k ev.blk vo m mc us1 us2 w hkn' (by omega) hrm hc63 hblk p3 q2 (fun j v hj=>by rw [Nat.zero_add];exact p4 j v hj) (fun j hj=>by rw [Nat.zero_add];exact hsome j hj) (fun j hj=>by rw [Nat.zero_add];exact hnf j hj) q3 p5 q4
     (ρr.t 9) (ρr.t 9) c2.size c.size (by simp only [World.shape?,hcc2]) (by simp only [World.shape?,hcc]) (by omega) ?_ ?_).mono fun e1 w' q=>?_)
    ·simp only [World.frozen?,hcc2];rcases hfr2 with q | q <;> simp <;> omega
    ·simp only [World.frozen?,hcc2];rcases hfr2 with q | q <;> simp <;> omega
    ·obtain ⟨rfl,hw'⟩:=q
     rw [Nat.zero_add,Nat.zero_add] at hw'
     subst hw'
     have r3:=Rel.elsewheres hB us2 k (Rel.elsewheres hB (us1.drop k) (k+m) r2.drew hfree) hfree
     obtain ⟨⟨c',el',fr',h1,h2,h3,h4⟩,h5⟩:=own_setCells e.blk us2 k (own_setCells e.blk (us1.drop k) (k+m) (own_drew hown0))
     obtain ⟨rfl,_⟩:=h4 _ rfl
     have h3':fr'.1=fr'.2∨fr'.2≤0:=by
      rcases h3 with q | q | q
      ·exact .inl q
      ·exact .inr (by omega)
      ·cases q.1
     have hcell:∀ j v,(us1.take k++us2++us1.drop k)[j]? = some v→((w.drew.setCells e.blk (k+m) (us1.drop k)).setCells e.blk k us2).cell? ⟨e.blk,j,none⟩=some v:=by
      intro j v hj
      have key:=three_cells (W':=(w.drew.setCells e.blk (k+m) (us1.drop k)).setCells e.blk k us2) (g:=e.blk) (off:=0) (xs:=us1.take k) (ys:=us2) (zs:=us1.drop k)
       (fun j x hj=>by
        have hjk:j<k:=by have:=(List.getElem?_eq_some_iff.1 hj).1;omega
        rw [World.cell?_setCells_out _ _ _ _ _ (fun _ _=>Or.inl (by simp only;omega)),World.cell?_setCells_out _ _ _ _ _ (fun _ _=>Or.inl (by simp only;omega)),Nat.zero_add]
        exact p4 j x (by rwa [List.getElem?_take,if_pos hjk] at hj))
       (fun j x hj=>by
        have hjm:j<us2.length:=(List.getElem?_eq_some_iff.1 hj).1
        rw [hk1,Nat.zero_add,World.cell?_setCells_in e.blk us2 k (w.drew.setCells e.blk (k+m) (us1.drop k)) (fun j hj=>isSome_setCells e.blk (us1.drop k) (k+m) w.drew (fun j hj=>hsome _ (by omega)) _ (hsome _ (by omega))) j hjm,←List.getElem?_eq_getElem hjm];exact hj)
       (fun j x hj=>by
        have hjm:j<(us1.drop k).length:=(List.getElem?_eq_some_iff.1 hj).1
        rw [hk1,q2,Nat.zero_add,World.cell?_setCells_out _ _ _ _ _ (fun _ _=>Or.inr (by simp only;omega)),World.cell?_setCells_in e.blk (us1.drop k) (k+m) w.drew (fun j hj=>hsome _ (by omega)) j hjm,←List.getElem?_eq_getElem hjm];exact hj) j v hj
      rwa [Nat.zero_add] at key
     have hx:=ret_new r3 hB h1 h3' (cap':=cap') (by omega) hc63 hnews (by omega) hcell hfree
     rw [hsz,hNl] at hx
     rw [hNl]
     exact hx
   ·obtain rfl:k=n:=by omega
    refine snd_calls (hen _ _) ((Any2.slices_Insert_string_end_room L e.blk 0 k cap' ev.blk vo m mc us2 w (by omega) hrm hc63 q2 (fun j hj=>by rw [Nat.zero_add];exact hsome _ (by omega)) (fun j hj=>by rw [Nat.zero_add];exact hnf _ (by omega)) q3 q4).mono fun e1 w' q=>?_)
    obtain ⟨rfl,hw'⟩:=q
    rw [Nat.zero_add] at hw'
    subst hw'
    have r3:=Rel.elsewheres hB us2 k r2 hfree
    obtain ⟨⟨c',el',fr',h1,h2,h3,h4⟩,h5⟩:=own_setCells e.blk us2 k hown0
    obtain ⟨rfl,_⟩:=h4 _ rfl
    have h3':fr'.1=fr'.2∨fr'.2≤0:=by
     rcases h3 with q | q | q
     ·exact .inl q
     ·exact .inr (by omega)
     ·cases q.1
    have hcell:∀ j v,(us1.take k++us2++us1.drop k)[j]? = some v→(w.setCells e.blk k us2).cell? ⟨e.blk,j,none⟩=some v:=by
     intro j v hj
     have key:=three_cells (W':=w.setCells e.blk k us2) (g:=e.blk) (off:=0) (xs:=us1.take k) (ys:=us2) (zs:=us1.drop k)
      (fun j x hj=>by
       have hjk:j<k:=by have:=(List.getElem?_eq_some_iff.1 hj).1;omega
       rw [World.cell?_setCells_out _ _ _ _ _ (fun _ _=>Or.inl (by simp only;omega)),Nat.zero_add]
       exact p4 j x (by rwa [List.getElem?_take,if_pos hjk] at hj))
      (fun j x hj=>by
       have hjm:j<us2.length:=(List.getElem?_eq_some_iff.1 hj).1
       rw [hk1,Nat.zero_add,World.cell?_setCells_in e.blk us2 k w (fun j hj=>hsome _ (by omega)) j hjm,←List.getElem?_eq_getElem hjm];exact hj)
      (fun j x hj=>by
       have:=(List.getElem?_eq_some_iff.1 hj).1
       omega) j v hj
     rwa [Nat.zero_add] at key
    have hx:=ret_new r3 hB h1 h3' (cap':=cap') (by omega) hc63 hnews (by omega) hcell hfree
    rw [hsz,hNl] at hx
    rw [hNl]
    exact hx
  ·-- a new row
   by_cases hkn':k<n
   ·obtain ⟨rfl,hlim⟩:=ha (by omega)
    have hat:at_ e 0=⟨e.blk,0,none⟩:=by simp [at_,hoff]
    rw [hat]
    refine snd_calls (hen _ _) ((Any2.slices_Insert_string_grow L e.blk 0 n cap' k ev.blk vo m mc us1 us2 w hkn' (by omega) (by omega) (by omega) (by omega) p3 q2 (fun j v hj=>by rw [Nat.zero_add];exact p4 j v hj) q3 p5 q4).mono fun e1 w' q=>?_)
    obtain ⟨rfl,rfl⟩:=q
    have hge:=grownCap_ge w (n+m) cap' (ρr.t 9)
    have hle:=grownCap_le_maxLen w (n+m) cap' (ρr.t 9) (by unfold maxLen;omega)
    have hz1:(Value.string ⟨#[]⟩).cells.size=1:=rfl
    generalize hcap:grownCap w (n+m) cap' (ρr.t 9)=cap2 at hge hle ⊢
    generalize hC:(us1.take k).toArray++Builtin.zeroCells (Value.string ⟨#[]⟩).cells (n+m-k)++Builtin.zeroCells (Value.string ⟨#[]⟩).cells (cap2-(n+m))=C0
    have hCs:C0.size=cap2:=by rw [←hC];simp only [Array.size_append,size_zeroCells,List.size_toArray,hz1,hk1];omega
    have hC1:∀ j x,(us1.take k)[j]? = some x→C0[j]? = some x:=fun j x hj=>by
     have:=(List.getElem?_eq_some_iff.1 hj).1
     rw [←hC,Array.getElem?_append_left (by simp only [Array.size_append,List.size_toArray];omega),Array.getElem?_append_left (by simpa using this)]
     simpa using hj
    have hW0:∀ x,x<n+m→((w.alloc (.cells C0 (ρr.t 9))).cell? ⟨w.heap.size,x,none⟩).isSome=true:=fun x hx=>by rw [World.cell?_alloc_new];simp;omega
    have hbel:Below w.heap.size w ((((w.alloc (.cells C0 (ρr.t 9))).drew.setCells w.heap.size k us2).drew).setCells w.heap.size (k+m) (us1.drop k)) :=
     below_setCells (Nat.le_refl _) _ _ (below_setCells (Nat.le_refl _) _ _ ((Below.refl _ w).alloc (Nat.le_refl _) _).drew).drew
    have ow0:Own (w.alloc (.cells C0 (ρr.t 9))) ⟨w.heap.size,0,C0.size⟩ 0 0 (some (ρr.t 9)):=⟨⟨C0,ρr.t 9,(0,0),alloc_at w _,rfl,.inl rfl,fun t ht=>⟨by cases ht;rfl,rfl⟩⟩,by simp⟩
    obtain ⟨⟨c',el',fr',h1,h2,h3,h4⟩,h5⟩:=own_setCells w.heap.size (us1.drop k) (k+m) (w:=((w.alloc (.cells C0 (ρr.t 9))).drew.setCells w.heap.size k us2).drew) (own_drew (own_setCells w.heap.size us2 k (w:=(w.alloc (.cells C0 (ρr.t 9))).drew) (own_drew ow0)))
    obtain ⟨rfl,_⟩:=h4 _ rfl
    have h2:c'.size=C0.size:=h2
    have h1:_=some (Go.Obj.cells c' (ρr.t 9) fr'):=h1
    have h3':fr'.1=fr'.2∨fr'.2≤0:=by
     rcases h3 with q | q | q
     ·exact .inl q
     ·exact .inr (by simpa using q)
     ·cases q.1
    have hcell:∀ j v,(us1.take k++us2++us1.drop k)[j]? = some v→((((w.alloc (.cells C0 (ρr.t 9))).drew.setCells w.heap.size k us2).drew).setCells w.heap.size (k+m) (us1.drop k)).cell? ⟨w.heap.size,j,none⟩=some v:=by
     intro j v hj
     have key:=three_cells (W':=(((w.alloc (.cells C0 (ρr.t 9))).drew.setCells w.heap.size k us2).drew).setCells w.heap.size (k+m) (us1.drop k)) (g:=w.heap.size) (off:=0) (xs:=us1.take k) (ys:=us2) (zs:=us1.drop k)
      (fun j x hj=>by
       have hjk:j<k:=by have:=(List.getElem?_eq_some_iff.1 hj).1;omega
       rw [World.cell?_setCells_out _ _ _ _ _ (fun _ _=>Or.inl (by simp only;omega))]
       show ((w.alloc (.cells C0 (ρr.t 9))).drew.setCells w.heap.size k us2).cell? _=_
       rw [World.cell?_setCells_out _ _ _ _ _ (fun _ _=>Or.inl (by simp only;omega)),Nat.zero_add]
       show (w.alloc (.cells C0 (ρr.t 9))).cell? _=_
       rw [World.cell?_alloc_new]
       exact hC1 j x hj)
      (fun j x hj=>by
       have hjm:j<us2.length:=(List.getElem?_eq_some_iff.1 hj).1
       rw [hk1,World.cell?_setCells_out _ _ _ _ _ (fun _ _=>Or.inl (by simp only;omega)),Nat.zero_add]
       show ((w.alloc (.cells C0 (ρr.t 9))).drew.setCells w.heap.size k us2).cell? _=_
       rw [World.cell?_setCells_in w.heap.size us2 k (w.alloc (.cells C0 (ρr.t 9))).drew (fun j hj=>hW0 _ (by omega)) j hjm,←List.getElem?_eq_getElem hjm];exact hj)
      (fun j x hj=>by
       have hjm:j<(us1.drop k).length:=(List.getElem?_eq_some_iff.1 hj).1
       rw [hk1,q2,Nat.zero_add,World.cell?_setCells_in w.heap.size (us1.drop k) (k+m) (((w.alloc (.cells C0 (ρr.t 9))).drew.setCells w.heap.size k us2).drew) (fun j hj=>isSome_setCells w.heap.size us2 k (w.alloc (.cells C0 (ρr.t 9))).drew (fun j hj=>hW0 _ (by omega)) _ (hW0 _ (by omega))) j hjm,←List.getElem?_eq_getElem hjm];exact hj) j v hj
     rwa [Nat.zero_add] at key
    have hx:=ret_new (r2.below_keep hbel) r2.base h1 h3' (cap':=cap2) (by omega) (by unfold maxLen at hle;omega) hnews (by omega) hcell (fun b' e' o' h1 h2 h3 he=>by
     have:=r2.live b' e' o' h1 h2 h3
     omega)
    rw [hsz,hNl] at hx
    rw [hNl]
    exact hx
   ·obtain rfl:k=n:=by omega
    refine snd_calls (hen _ _) ((Any2.slices_Insert_string_end_grow L (some a) k cap' ev.blk vo m mc us1 us2 w (by omega) (by omega) (by omega) (by omega) p3 q2 (fun h=>by cases h) (fun a' ha' j x hj=>by
     cases ha'
     have hjm:=(List.getElem?_eq_some_iff.1 hj).1
     rw [(ha (by omega)).1,at_add]
     have:=p4 j x hj
     simpa [at_,hoff] using this) q3 q4).mono fun e1 w' q=>?_)
    obtain ⟨rfl,rfl⟩:=q
    have hge:=grownCap_ge w (k+m) cap' (ρr.t 9)
    have hle:=grownCap_le_maxLen w (k+m) cap' (ρr.t 9) (by unfold maxLen;omega)
    have hz1:(Value.string ⟨#[]⟩).cells.size=1:=rfl
    generalize hcap:grownCap w (k+m) cap' (ρr.t 9)=cap2 at hge hle ⊢
    have hlist:us1.take k++us2++us1.drop k=us1++us2:=by rw [List.take_of_length_le (by omega),List.drop_of_length_le (by omega),List.append_nil]
    have hx:=ret_fresh r2 (((Below.refl _ w).drew).alloc (Nat.le_refl _) (.cells ((us1++us2).toArray++Builtin.zeroCells (Value.string ⟨#[]⟩).cells (cap2-(k+m))) (ρr.t 9)))
     (cap':=cap2) (alloc_at w.drew _) (by simp only [Array.size_append,size_zeroCells,List.size_toArray,List.length_append,hz1];omega) (by unfold maxLen at hle;omega) hnews (by omega)
     (fun j v hj=>by
      rw [hlist] at hj
      show (w.drew.alloc _).cell? ⟨w.drew.heap.size,j,none⟩=some v
      rw [World.cell?_alloc_new,Array.getElem?_append_left (by simpa using (List.getElem?_eq_some_iff.1 hj).1)]
      simpa using hj)
    rw [hsz,hNl] at hx
    rw [hNl]
    exact hx
 ·cases hx
end
end
end Abs
end Go.Proofs.YthgcjbniipfnbaaGreatDoor
namespace Go.Proofs.YthgcjbniipfnbaaGreatDoor
namespace Abs
noncomputable section
set_option linter.unusedVariables false
set_option linter.unusedSimpArgs false
open Go.RowKit
/-! ### internal/bytealg.IndexByteString, CountString -/
def idxB:List Nat→Nat→Int
 | [],_=>-1
 | b::l,c=>if Nat.beq b c=true then 0 else if idxB l c=-1 then -1 else idxB l c+1
def cntB:List Nat→Nat→Nat
 | [],_=>0
 | b::l,c=>if Nat.beq b c=true then cntB l c+1 else cntB l c
theorem byte_beq (b:UInt8) (c:Nat) (hc:c<256):(b == c.toUInt8)=Nat.beq b.toNat c:=by
 rw [Bool.eq_iff_iff]
 simp only [beq_iff_eq,Nat.beq_eq]
 constructor
 ·rintro rfl
  simp [Nat.toUInt8,UInt8.toNat_ofNat']
  omega
 ·intro h
  subst h
  simp [Nat.toUInt8]
theorem idxB_eq (c:Nat) (hc:c<256):∀ l:List UInt8,Lib.indexByte l c.toUInt8=idxB (l.map UInt8.toNat) c
 | []=>rfl
 | b::l=>by
  simp only [Lib.indexByte,List.map_cons,idxB,byte_beq b c hc,idxB_eq c hc l,beq_iff_eq]
theorem cntB_eq (c:Nat) (hc:c<256):∀ l:List UInt8,Lib.countByte l c.toUInt8=cntB (l.map UInt8.toNat) c
 | []=>rfl
 | b::l=>by
  have ih:=cntB_eq c hc l
  unfold Lib.countByte at ih ⊢
  simp only [List.count_cons,List.map_cons,cntB,byte_beq b c hc,ih]
  split <;> simp
def idxSum (args:List V) (h:Heap):Option (V × Heap) :=
 match args with
 | [.str s,.int .u8 c]=>if 0≤c∧c<256 then some (.int .i64 (idxB s c.toNat),h) else none
 | _=>none
def cntSum (args:List V) (h:Heap):Option (V × Heap) :=
 match args with
 | [.str s,.int .u8 c]=>if 0≤c∧c<256 then some (.int .i64 (Int.ofNat (cntB s c.toNat)),h) else none
 | _=>none
section
variable {P:Program} {B:Nat} {w0 w:World} {ρ:Rho} {h:Heap}
theorem idx_snd {f:Nat} {fn:Func} (hf:P.funcs[f]? = some fn) (hname:(fn.name == "runtime.NumGoroutine")=false) (hb:fn.body.isNone=true) (hn:Extern.findNext fn=none) (he:Extern.find fn=some Extern.BytealgIndexByte.indexByte)
  {args:List V} {v:V} {h':Heap} (hx:idxSum args h=some (v,h')):HM h h'∧∀ (ρ:Rho) (w:World) (us:Array Value),Rel P B w0 ρ h w→VRs ρ args us.toList→CallSnd P B w0 ρ f us w h v h':=by
 unfold idxSum at hx
 split at hx
 ·rename_i s c
  split at hx
  ·rename_i hc
   cases hx
   refine ⟨HM.refl h,fun ρ w us r hr=>?_⟩
   obtain ⟨us⟩:=us
   cases hr with
   | cons _ u _ _ hu ht =>
   cases ht with
   | cons _ u2 _ _ hu2 ht =>
   cases ht
   cases hu with
   | str b _ hb2 =>
   cases hu2
   refine .inr ⟨_,w,?_,ρ,.int _ _,r,New.refl _ _⟩
   rw [run_callFunc_extern hf hname hb hn he,Lib.run_indexByteString]
   rw [idxB_eq _ (by omega),←show strOf b=b.data.toList.map UInt8.toNat from rfl,←hb2]
   rfl
  ·cases hx
 ·cases hx
theorem cnt_snd {f:Nat} {fn:Func} (hf:P.funcs[f]? = some fn) (hname:(fn.name == "runtime.NumGoroutine")=false) (hb:fn.body.isNone=true) (hn:Extern.findNext fn=none) (he:Extern.find fn=some Extern.BytealgCount.count)
  {args:List V} {v:V} {h':Heap} (hx:cntSum args h=some (v,h')):HM h h'∧∀ (ρ:Rho) (w:World) (us:Array Value),Rel P B w0 ρ h w→VRs ρ args us.toList→CallSnd P B w0 ρ f us w h v h':=by
 unfold cntSum at hx
 split at hx
 ·rename_i s c
  split at hx
  ·rename_i hc
   cases hx
   refine ⟨HM.refl h,fun ρ w us r hr=>?_⟩
   obtain ⟨us⟩:=us
   cases hr with
   | cons _ u _ _ hu ht =>
   cases ht with
   | cons _ u2 _ _ hu2 ht =>
   cases ht
   cases hu with
   | str b _ hb2 =>
   cases hu2
   refine .inr ⟨_,w,?_,ρ,.int _ _,r,New.refl _ _⟩
   rw [run_callFunc_extern hf hname hb hn he,Lib.run_countString]
   rw [cntB_eq _ (by omega),←show strOf b=b.data.toList.map UInt8.toNat from rfl,←hb2]
   rfl
  ·cases hx
 ·cases hx
end
/-! ### strings.Join -/
def strsV:List V→Option (List (List Nat))
 | []=>some []
 | .str s::r=>match strsV r with
  | some l=>some (s::l)
  | none=>none
 | _::_=>none
def joinL (sep:List Nat):List (List Nat)→List Nat
 | []=>[]
 | [a]=>a
 | a::r=>a++(sep++joinL sep r)
def joinSum (args:List V) (h:Heap):Option (V × Heap) :=
 match args with
 | [x,.str sep]=>match slLen x with
  | some n=>match slCells h 1 n x with
   | some cs=>match strsV cs with
    | some l=>if (l.length≤1000000∧(joinL sep l).length≤1000000)∧l.length=n then some (.str (joinL sep l),h) else none
    | none=>none
   | none=>none
  | none=>none
 | _=>none
theorem join_eq (sep:List UInt8):∀ xs:List (List UInt8),(Lib.join xs sep).map UInt8.toNat=joinL (sep.map UInt8.toNat) (xs.map fun x=>x.map UInt8.toNat)
 | []=>rfl
 | [a]=>by simp [Lib.join,List.intercalate,joinL]
 | a::b::r=>by
  have e:Lib.join (a::b::r) sep=a++(sep++Lib.join (b::r) sep):=by simp [Lib.join,List.intercalate]
  rw [e,List.map_append,List.map_append,join_eq sep (b::r)]
  rfl
structure JoinS (P:Program) (f:Nat):Prop where
 en:∀ args w,(callFunc f args).run P w=.ok (.enter f args) w
 none:∀ (a:Option Addr) (c:Nat) (sep:ByteArray) (w:World),Calls P f #[.slice a 0 c,.string sep] w fun e w'=>e=.returned (.string ⟨#[]⟩)∧w'=w
 some:∀ (bk o c:Nat) (xs:List ByteArray) (sep:ByteArray) (w:World),(∀ (j:Nat) x,xs[j]? = Option.some x→w.cell? ⟨bk,o+j,Option.none⟩=Option.some (.string x))→bk<w.heap.size→xs.length≤140737488355328→xs.length≤c →
  (Lib.join (xs.map (·.data.toList)) sep.data.toList).length≤140737488355328 →
  Calls P f #[.slice (Option.some ⟨bk,o,Option.none⟩) xs.length c,.string sep] w fun e w'=>e=.returned (.string ⟨(Lib.join (xs.map (·.data.toList)) sep.data.toList).toArray⟩)∧Below w.heap.size w w'
section
variable {P:Program} {B:Nat} {w0 w:World} {ρ:Rho} {h:Heap}
theorem rds_real (r:Rel P B w0 ρ h w) {b o n:Nat} {cs:List V} {e:Emb} (he:ρ b=some e) (hr:h.rds b o n=some cs):∃ us,VRs ρ cs us∧∀ j v,us[j]? = some v→w.cell? ((at_ e o).add j)=some v:=by
 unfold Heap.rds at hr
 split at hr
 ·rename_i ds st hg
  split at hr
  ·rename_i hl
   cases hr
   exact facts_list (w:=w) (ρ:=ρ) (e:=e) ((ds.drop o).take n) o (fun i v hv=>by
    refine r.facts he hg (o+i) v ?_
    rw [List.getElem?_take] at hv
    split at hv
    ·rwa [List.getElem?_drop] at hv
    ·cases hv)
  ·cases hr
 ·cases hr
theorem sl_real (r:Rel P B w0 ρ h w) {x:V} {ux:Value} {n:Nat} {cs:List V} (hn:slLen x=some n) (hc:slCells h 1 n x=some cs) (hx:VR ρ x ux) :
  ∃ base c us,ux=.slice base n c∧n≤c∧VRs ρ cs us∧(n≠0→∃ e o,base=some (at_ e o)∧∀ j v,us[j]? = some v→w.cell? ((at_ e o).add j)=some v):=by
 cases hx <;> simp only [slLen,Option.some.injEq] at hn <;> try (cases hn;done)
 ·subst hn
  simp only [slCells] at hc
  cases hc
  exact ⟨none,0,[],rfl,Nat.le_refl _,.nil,fun h=>absurd rfl h⟩
 ·rename_i b o len cap e a he ha hl
  subst hn
  simp only [slCells] at hc
  by_cases h0:len=0
  ·rw [if_pos h0] at hc
   cases hc
   exact ⟨some a,cap,[],rfl,hl,.nil,fun h=>absurd h0 h⟩
  ·rw [if_neg h0,Nat.mul_one] at hc
   obtain ⟨us,q1,q2⟩:=rds_real r he hc
   exact ⟨some a,cap,us,rfl,hl,q1,fun _=>⟨e,o,by rw [ha (by omega)],q2⟩⟩
 ·rename_i b o len cap sz cap' e a he ha hl hcp
  subst hn
  simp only [slCells] at hc
  by_cases h0:len=0
  ·rw [if_pos h0] at hc
   cases hc
   exact ⟨some a,cap',[],rfl,by omega,.nil,fun h=>absurd h0 h⟩
  ·rw [if_neg h0,Nat.mul_one] at hc
   obtain ⟨us,q1,q2⟩:=rds_real r he hc
   exact ⟨some a,cap',us,rfl,by omega,q1,fun _=>⟨e,o,by rw [(ha (by omega)).1],q2⟩⟩
theorem strs_real:∀ {cs:List V} {l:List (List Nat)} {us:List Value},strsV cs=some l→VRs ρ cs us→∃ xs:List ByteArray,us=xs.map Value.string∧l=xs.map strOf
 | [],l,us,hl,hv=>by
  cases hl;cases hv
  exact ⟨[],rfl,rfl⟩
 | v::cs,l,us,hl,hv=>by
  cases v <;> simp only [strsV] at hl <;> try (cases hl;done)
  rename_i s
  split at hl
  ·rename_i l' hl'
   cases hl
   cases hv with
   | cons _ u _ us hu ht =>
   obtain ⟨xs,q1,q2⟩:=strs_real hl' ht
   cases hu with
   | str b _ hb=>exact ⟨b::xs,by rw [q1];rfl,by rw [q2,hb];rfl⟩
  ·cases hl
theorem join_snd {f:Nat} (J:JoinS P f) {args:List V} {v:V} {h':Heap} (hx:joinSum args h=some (v,h')):HM h h'∧∀ (ρ:Rho) (w:World) (us:Array Value),Rel P B w0 ρ h w→VRs ρ args us.toList→CallSnd P B w0 ρ f us w h v h':=by
 unfold joinSum at hx
 split at hx
 rotate_left
 ·cases hx
 rename_i x sep
 split at hx
 rotate_left
 ·cases hx
 rename_i n hn
 split at hx
 rotate_left
 ·cases hx
 rename_i cs hcs
 split at hx
 rotate_left
 ·cases hx
 rename_i l hl
 split at hx
 rotate_left
 ·cases hx
 rename_i hc
 cases hx
 refine ⟨HM.refl h,fun ρ w us r hr=>?_⟩
 obtain ⟨us⟩:=us
 cases hr with
 | cons _ u _ _ hu ht =>
 cases ht with
 | cons _ u2 _ _ hu2 ht =>
 cases ht
 cases hu2 with
 | str sb _ hsb =>
 obtain ⟨base,c,us,rfl,hnc,q1,q2⟩:=sl_real r hn hcs hu
 obtain ⟨xs,rfl,rfl⟩:=strs_real hl q1
 have hxl:xs.length=n:=by simpa using hc.2
 have hj:(Lib.join (xs.map (·.data.toList)) sb.data.toList).map UInt8.toNat=joinL sep (xs.map strOf):=by
  rw [join_eq,hsb,List.map_map];rfl
 by_cases h0:n=0
 ·subst h0
  obtain rfl:xs=[]:=List.length_eq_zero_iff.1 hxl
  refine snd_calls (J.en _ _) ((J.none base c sb w).mono fun e w' q=>?_)
  obtain ⟨rfl,rfl⟩:=q
  exact ⟨ρ,.str _ _ rfl,r,New.refl _ _⟩
 ·obtain ⟨e,o,rfl,hcell⟩:=q2 h0
  have hcell':∀ (j:Nat) y,xs[j]? = some y→w.cell? ⟨e.blk,e.off+o+j,none⟩=some (.string y):=fun j y hy=>by
   have:=hcell j (.string y) (by rw [List.getElem?_map,hy];rfl)
   rw [at_add] at this
   simpa [at_,Nat.add_assoc] using this
  have hlt:e.blk<w.heap.size:=by
   have h1:0<xs.length:=by omega
   have:=hcell' 0 xs[0] (List.getElem?_eq_getElem h1)
   rcases Nat.lt_or_ge e.blk w.heap.size with q | q
   ·exact q
   ·have hn:w.heap[e.blk]? = none:=Array.getElem?_eq_none q
    simp [World.cell?,hn] at this
  have hlen:(Lib.join (xs.map (·.data.toList)) sb.data.toList).length=(joinL sep (xs.map strOf)).length:=by rw [←hj,List.length_map]
  have hq:=J.some e.blk (e.off+o) c xs sb w hcell' hlt (by omega) (by omega) (by rw [hlen];omega)
  rw [hxl] at hq
  refine snd_calls (J.en _ _) (hq.mono fun e1 w' q=>?_)
  obtain ⟨rfl,hb⟩:=q
  refine ⟨ρ,.str _ _ ?_,r.below_keep hb,New.refl _ _⟩
  rw [←hj];rfl
end
end
end Abs
end Go.Proofs.YthgcjbniipfnbaaGreatDoor
namespace Go.Proofs.YthgcjbniipfnbaaGreatDoor
namespace Abs
noncomputable section
set_option linter.unusedVariables false
set_option linter.unusedSimpArgs false
open Go.RowKit
section
variable {C:Cfg} {f:Nat} {args:List V} {h:Heap}
theorem Ans.loc {np:Nat} {res:List Res} {body:AC} {e0:List (Nat × V)} {R:V→Heap→Prop} (hSm:∀ f args h v h',C.S f args h=some (some (v,h'))→HM h h') (hS:C.S f args h=none) (hF:C.F f=some ⟨np,res,body⟩) (hl:args.length=np) (he:argsE 0 args []=e0) (hw:Wf h)
  (hx:∀ h2,Grow h h2→h2.size=h.size→(∀ b,h2.get b=h.get b)→WC C body e0 h2 fun x e' h1=>Fin x∧∃ v,retE e' h1 res=some v∧∀ n,R v { h1 with low:=n })
  (hloc:∀ v h1,(∀ b,b<h.size→h1.get b=h.get b)→R v h1→v.scopd h.size=true→R v h) (hpl:body.plain=true:=by rfl) (hdx:np≤DX:=by decide):Ans C f args h R:=by
 have hx:=hx { h with low:=h.size } ⟨hw,Nat.le_refl _,fun _ _ q=>q⟩ rfl (fun _=>rfl)
 rw [←he] at hx
 have hx:=hx _ ((Sub.nil (.nil:TM)).args 0 args)
 have key:∃ v h',(∃ n x t h1,execC (run C n).1 (run C n).2 body (argsTM 0 args .nil) { h with low:=h.size }=some (x,t,h1)∧(∀ id,x≠.exit id)∧∃ vs,ressA t h1 res=some vs∧closeCall h (oneOf vs) h1=(v,h'))∧R v h':=by
  obtain ⟨n,x,t,h1,q1,e1,q2,q3,v,q4,q5⟩:=hx
  have hex:∀ id,x≠.exit id:=by intro id hid;subst hid;exact q3
  simp only [retE] at q4
  split at q4
  ·rename_i vs q
   cases q4
   by_cases hc:h.size≤h1.low∧(oneOf vs).scopd h.size=true
   ·have hm:=(HM.run C hSm (n+1)).2 body (argsTM 0 args .nil) { h with low:=h.size } x t h1 q1
    refine ⟨oneOf vs,h,⟨n,x,t,h1,q1,hex,vs,q2.ress q,by simp only [closeCall,if_pos hc]⟩,?_⟩
    exact hloc _ _ (fun b hb=>hm.get b (Nat.lt_of_lt_of_le hb hc.1) hb) (q5 h1.low) hc.2
   ·exact ⟨oneOf vs,{ h1 with low:=min h.low h1.low },⟨n,x,t,h1,q1,hex,vs,q2.ress q,by simp only [closeCall,if_neg hc]⟩,q5 _⟩
  ·cases q4
 obtain ⟨v,h',q1,q2⟩:=key
 exact ⟨v,h',Gives.body hS hF hl hpl (by omega) q1,q2⟩
theorem Ans.mut {np:Nat} {res:List Res} {body:AC} {e0:List (Nat × V)} {R:V→Heap→Prop} (hS:C.S f args h=none) (hF:C.F f=some ⟨np,res,body⟩) (hl:args.length=np) (he:argsE 0 args []=e0) (hw:Wf h)
  (hx:∀ h2,Grow h h2→h2.size=h.size→(∀ b,h2.get b=h.get b)→WC C body e0 h2 fun x e' h1=>Fin x∧∃ v,retE e' h1 res=some v∧h1.low<h.size∧∀ n,R v { h1 with low:=n })
  (hpl:body.plain=true:=by rfl) (hdx:np≤DX:=by decide):Ans C f args h R:=by
 have hx:=hx { h with low:=h.size } ⟨hw,Nat.le_refl _,fun _ _ q=>q⟩ rfl (fun _=>rfl)
 rw [←he] at hx
 have hx:=hx _ ((Sub.nil (.nil:TM)).args 0 args)
 have key:∃ v h',(∃ n x t h1,execC (run C n).1 (run C n).2 body (argsTM 0 args .nil) { h with low:=h.size }=some (x,t,h1)∧(∀ id,x≠.exit id)∧∃ vs,ressA t h1 res=some vs∧closeCall h (oneOf vs) h1=(v,h'))∧R v h':=by
  obtain ⟨n,x,t,h1,q1,e1,q2,q3,v,q4,lo,q5⟩:=hx
  have hex:∀ id,x≠.exit id:=by intro id hid;subst hid;exact q3
  simp only [retE] at q4
  split at q4
  ·rename_i vs q
   cases q4
   exact ⟨oneOf vs,{ h1 with low:=min h.low h1.low },⟨n,x,t,h1,q1,hex,vs,q2.ress q,by simp only [closeCall];rw [if_neg (by omega)]⟩,q5 _⟩
  ·cases q4
 obtain ⟨v,h',q1,q2⟩:=key
 exact ⟨v,h',Gives.body hS hF hl hpl (by omega) q1,q2⟩
theorem Ans.sum {R:V→Heap→Prop} {v:V} {h':Heap} (hS:C.S f args h=some (some (v,h'))) (hr:R v h'):Ans C f args h R:=⟨v,h',Gives.sum hS,hr⟩
end
theorem retE_cells {e:List (Nat × V)} {h:Heap} {t b o n:Nat} {cs:List V} (hg:Env.get e t=some (.ptr (some (b,o)))) (hr:h.rds b o n=some cs):retE e h [.cell t (some n)]=some (.agg cs):=by
 simp only [retE,ressE,resE,hg,loadA,hr];rfl
theorem Chg.low {F:List Nat} {h h':Heap} (g:Chg F h h') (n:Nat):Chg F h { h' with low:=n }:=⟨g.wf,g.size,g.keep⟩
theorem Grow.low1 {h h':Heap} (g:Grow h h') (n:Nat):Grow h { h' with low:=n }:=⟨g.wf,g.size,g.ext⟩
theorem Chg.refl {F:List Nat} {h:Heap} (hw:Wf h):Chg F h h:=⟨hw,Nat.le_refl _,fun _ _ _ q=>q⟩
theorem Chg.of_same {F:List Nat} {h h2 h3:Heap} (g:Chg F h2 h3) (hs:h2.size=h.size) (hg:∀ b,h2.get b=h.get b):Chg F h h3:=⟨g.wf,by rw [←hs];exact g.size,fun b o q hb=>g.keep b o q (by rw [hg];exact hb)⟩
theorem Wf.same {h h2:Heap} (hw:Wf h) (hs:h2.size=h.size) (hg:∀ b,h2.get b=h.get b):Wf h2:=fun b hb=>by rw [hg];exact hw b (by omega)
/-! ### Cells in a block of a call's own -/
def Cl (h:Heap) (b:Nat) (cs:List V):Prop:=∃ ty,h.get b=some (.cells cs (.tip [] 0 ty))
theorem Cl.grow {h h':Heap} {b:Nat} {cs:List V} (a:Cl h b cs) (g:Grow h h'):Cl h' b cs:=a.imp fun _ q=>g.ext _ _ q
theorem Cl.chg {F:List Nat} {h h':Heap} {b:Nat} {cs:List V} (a:Cl h b cs) (g:Chg F h h') (hb:b∉F):Cl h' b cs:=a.imp fun _ q=>g.keep _ _ hb q
theorem Cl.lt {h:Heap} {b:Nat} {cs:List V} (a:Cl h b cs) (hw:Wf h):b<h.size:=by obtain ⟨ty,q⟩:=a;exact Wf.lt hw q
theorem Cl.rd {h:Heap} {b:Nat} {cs:List V} (a:Cl h b cs) {i:Nat} {v:V} (hi:cs[i]? = some v):h.rd b i=some v:=by obtain ⟨ty,q⟩:=a;rw [rd_cell q,hi]
theorem Cl.rds {h:Heap} {b:Nat} {cs:List V} (a:Cl h b cs) {k:Nat} (hk:cs.length=k):h.rds b 0 k=some cs:=by obtain ⟨ty,q⟩:=a;exact rds_all q hk
theorem Cl.rdsAt {h:Heap} {b o n:Nat} {cs:List V} (a:Cl h b cs) (hk:o+n≤cs.length):h.rds b o n=some ((cs.drop o).take n):=by
 obtain ⟨ty,q⟩:=a;simp only [Heap.rds,q];rw [if_pos hk]
theorem Cl.of_get {h h1:Heap} {b:Nat} {cs:List V} (a:Cl h1 b cs) (hg:h1.get b=h.get b):Cl h b cs:=a.imp fun _ q=>by rw [←hg];exact q
theorem Cl.new (h:Heap) (cs:List V) (ty:Option Nat):Cl (h.push (.cells cs (.tip [] 0 ty))) h.size cs:=⟨ty,get_push_self _ _⟩
theorem Cl.set {h:Heap} (hw:Wf h) {b:Nat} {cs:List V} (a:Cl h b cs) {i:Nat} (hi:i<cs.length) {v:V} (hv:V.one v=true) :
  ∃ h',h.wr b i [v]=some h'∧Cl h' b (cs.set i v)∧Chg [b] h h'∧h'.size=h.size:=by
 obtain ⟨ty,q⟩:=a
 exact ⟨_,wr_cell q hi hv,⟨ty,by rw [get_put,if_pos rfl]⟩,Chg.put hw (Wf.lt hw q) _,rfl⟩
theorem Cl.sets {h:Heap} (hw:Wf h) {b:Nat} {cs:List V} (a:Cl h b cs) {i:Nat} {us:List V} (hi:i+us.length≤cs.length) (hv:us.all V.one=true) :
  ∃ h',h.wr b i us=some h'∧Cl h' b (splice cs i us)∧Chg [b] h h'∧h'.size=h.size:=by
 obtain ⟨ty,q⟩:=a
 refine ⟨h.put b (.cells (splice cs i us) (.tip [] 0 ty)),?_,⟨ty,by rw [get_put,if_pos rfl]⟩,Chg.put hw (Wf.lt hw q) _,rfl⟩
 simp only [Heap.wr,q]
 rw [if_pos ⟨Nat.zero_le _,hi,hv⟩];rfl
theorem Chg.newGrow {h0 h h':Heap} {F:List Nat} (g:Grow h0 h) (c:Chg F h h') (hw0:Wf h0) (hF:∀ b∈F,h0.size≤b):Grow h0 h' :=
 ⟨c.wf,Nat.le_trans g.size c.size,fun b o q=>c.keep b o (fun hb=>by have:=hF b hb;have:=Wf.lt hw0 q;omega) (g.ext b o q)⟩
theorem sl_one {h:Heap} {u sz:Nat} {c:List V} {st:St} (hg:h.get u=some (.cells c st)) (hc:c.length=sz):Sl h sz (.slice (some (u,0)) 1 1) [c]:=by
 refine ⟨by simpa using hc,rfl,Nat.le_refl _,fun _=>?_⟩
 have:=rds_all hg (n:=1*sz) (by omega)
 simpa using this
theorem Grown.one {h:Heap} {low sz:Nat} {x:V} {es:List (List V)} (g:Grown h low sz x es):V.one x=true:=by
 obtain ⟨_,⟨rfl,_⟩ | ⟨b',S,ty,rfl,_,q,_⟩⟩:=g <;> rfl
theorem Grown.same {h h':Heap} {low sz:Nat} {x:V} {es:List (List V)} (g:Grown h low sz x es) (hg:∀ b,h'.get b=h.get b):Grown h' low sz x es :=
 g.frame fun b o q _ _ _ _ _=>by rw [hg];exact q
/-! ### Bytes -/
abbrev bv (n:Nat):V:=.int .u8 (Int.ofNat n)
theorem u8s_bv:∀ l:List Nat,(∀ b∈l,b<256)→u8s (l.map bv)=some l
 | [],_=>rfl
 | a::l,h=>by
  have h1:=u8s_bv l fun b hb=>h b (List.mem_cons_of_mem _ hb)
  have h2:=h a List.mem_cons_self
  simp only [List.map_cons,u8s,h1]
  rw [show (Int.ofNat a).toNat=a from rfl,Nat.mod_eq_of_lt h2]
end
end Abs
end Go.Proofs.YthgcjbniipfnbaaGreatDoor
namespace Go.Proofs.YthgcjbniipfnbaaGreatDoor
namespace Abs
noncomputable section
set_option linter.unusedVariables false
set_option linter.unusedSimpArgs false
open Go.RowKit Go.ChangeShapes Go.WideShapes
theorem VRs.len {ρ:Rho}:∀ {x:List V} {a:List Value},VRs ρ x a→x.length=a.length
 | _,_,.nil=>rfl
 | _,_,.cons _ _ _ _ _ t=>by simp [VRs.len t]
section
variable {H:Type} {enc:TypeId × Value→H} {P:Program} {w:World} {held:Bool}
theorem cells_head {a:Addr} {sz:Nat} (hsz:sz≠0) {cs:List Value} (h:w.cells? 0 a sz=some cs):a.block<w.heap.size∧a.spot=none:=by
 obtain ⟨_,hl,hc⟩:=World.cells?_some h
 have:=hc 0 (by omega)
 rw [List.getElem?_eq_getElem (by omega)] at this
 have h0:a.add 0=a:=rfl
 rw [h0] at this
 unfold World.cell? at this
 split at this
 ·rename_i c _ _ q
  refine ⟨(Array.getElem?_eq_some_iff.1 q).1,?_⟩
  cases hs:a.spot with
  | none=>rfl
  | some s=>rw [hs] at this;simp at this
 ·cases this
theorem open_slT {t e:TypeId} {sz:Nat} (hsz:sz≠0) (ht:P.underlying t=some (.slice e)) (hc:P.cellsOf e=sz) {fuel:Nat} {cs:List Value} {y:DataW H × List MemPlace} (hd:DataW.trod enc P w 0 (fun _=>true) held fuel t cs=some y)
  (φ:Heap→List V→Prop) (hφ:∀ h h' c,Grow h h'→φ h c→φ h' c)
  (hel:∀ n cs y,DataW.trod enc P w 0 (fun _=>true) held n e cs=some y→∀ ρ h,Rel P w.heap.size w ρ h w→∃ ρ' h' vs,Rel P w.heap.size w ρ' h' w∧RLe ρ ρ'∧Grow h h'∧VRs ρ' vs cs∧vs.length=sz∧φ h' vs)
  {ρ:Rho} {h:Heap} (r:Rel P w.heap.size w ρ h w) (hpos:0<w.heap.size) :
  ∃ ρ' h' x es,Rel P w.heap.size w ρ' h' w∧RLe ρ ρ'∧Grow h h'∧VRs ρ' [x] cs∧Sl h' sz x es∧(∀ c∈es,φ h' c)∧es.length≤maxLen:=by
 rcases DataW.trod_slice ht hd with ⟨h0,_⟩ | ⟨a,len,cap,elems,rest,n,_,h0,_,_,hl,hm,hlen,he,hrest,_⟩
 ·subst h0
  exact ⟨ρ,h,.slice none 0 0,[],r,fun _ _ q=>q,Grow.refl r.fresh,.cons _ _ _ _ .sliceNil .nil,Sl.nil h sz,by simp,by simp [maxLen]⟩
 subst h0
 by_cases hcap:cap=0
 ·subst hcap
  obtain rfl:len=0:=by omega
  have hg:=r.glob 0 (by decide)
  refine ⟨ρ,h,.slice (some (0,0)) 0 0,[],r,fun _ _ q=>q,Grow.refl r.fresh,.cons _ _ _ _ (.slice 0 0 0 0 ⟨0,0,0⟩ a hg (fun q=>absurd rfl q) (Nat.le_refl _)) .nil,⟨by simp,rfl,Nat.le_refl _,by simp⟩,by simp,by simp [maxLen]⟩
 have head:a.block<w.heap.size∧a.spot=none:=by
  by_cases hl0:len=0
  ·obtain ⟨q1,q2⟩:=hrest rfl
   have:=q2 0 (by omega)
   rw [List.getElem?_eq_getElem (by omega),Option.bind_eq_some_iff] at this
   obtain ⟨cs,g1,_⟩:=this
   subst hl0
   simp only [Nat.zero_add,Nat.zero_mul,hc] at g1
   exact cells_head hsz g1
  ·have:=he 0 (by omega)
   rw [List.getElem?_eq_getElem (by omega),Option.bind_eq_some_iff] at this
   obtain ⟨cs,g1,_⟩:=this
   simp only [Nat.zero_mul,hc] at g1
   exact cells_head hsz g1
 obtain ⟨hblk,hspot⟩:=head
 have ha:a=at_ ⟨a.block,a.off,0⟩ 0:=by
  cases a;simp only at hspot;subst hspot;rfl
 have key:∀ m,m≤len→∃ ρ' h',∃ es:List (List V),Rel P w.heap.size w ρ' h' w∧RLe ρ ρ'∧Grow h h'∧es.length=m∧(∀ c∈es,c.length=sz∧φ h' c)∧∀ j v,es.flatten[j]? = some v→∃ u,w.cell? (at_ ⟨a.block,a.off,0⟩ j)=some u∧VR ρ' v u:=by
  intro m
  induction m with
  | zero=>intro _;exact ⟨ρ,h,[],r,fun _ _ q=>q,Grow.refl r.fresh,rfl,by simp,by simp⟩
  | succ m ih =>
   intro hm'
   obtain ⟨ρ1,h1,es,r1,hle1,gr1,q1,q2,q3⟩:=ih (by omega)
   have hi:=he m (by omega)
   have hel':elems[m]? = some elems[m]:=List.getElem?_eq_getElem (by omega)
   rw [hel',Option.bind_eq_some_iff] at hi
   obtain ⟨cs,g1,g2⟩:=hi
   obtain ⟨ρ2,h2,vs,r2,hle2,gr2,p1,p2,p3⟩:=hel _ _ _ g2 ρ1 h1 r1
   rw [hc] at g1
   obtain ⟨_,g3,g4⟩:=World.cells?_some g1
   refine ⟨ρ2,h2,es++[vs],r2,fun b e hb=>hle2 b e (hle1 b e hb),gr1.trans gr2,by simp [q1],?_,?_⟩
   ·intro c hcm
    rcases List.mem_append.1 hcm with q | q
    ·exact ⟨(q2 c q).1,hφ _ _ _ gr2 (q2 c q).2⟩
    ·simp at q;subst q;exact ⟨p2,p3⟩
   ·intro j v hj
    have hfl:=flat_len (fun c hc=>(q2 c hc).1)
    rw [List.flatten_append,List.flatten_cons,List.flatten_nil,List.append_nil] at hj
    by_cases hjl:j<es.flatten.length
    ·rw [List.getElem?_append_left hjl] at hj
     obtain ⟨u,s1,s2⟩:=q3 j v hj
     exact ⟨u,s1,s2.mono hle2⟩
    ·rw [List.getElem?_append_right (by omega)] at hj
     obtain ⟨u,s1,s2⟩:=VRs.at p1 hj
     refine ⟨u,?_,s2⟩
     have hlt:j-es.flatten.length<sz:=by
      have:=(List.getElem?_eq_some_iff.1 hj).1;omega
     have:=g4 _ hlt
     rw [s1] at this
     rw [ha,at_add,at_add] at this
     rw [←this,hfl,q1]
     congr 2;rw [hfl,q1] at hjl;omega
 obtain ⟨ρ1,h1,es,r1,hle1,gr1,q1,q2,q3⟩:=key len (Nat.le_refl _)
 have hcf:CellFacts ρ1 w ⟨a.block,a.off,0⟩ es.flatten:=fun i v hv=>by
  obtain ⟨u,g1,g2⟩:=q3 i v hv
  exact ⟨u,g1,g2⟩
 obtain ⟨r',hle⟩:=r1.addRo ⟨a.block,a.off,0⟩ es.flatten hblk hcf
 have gp:=(Grow.refl r1.fresh).push (.cells es.flatten .ro)
 refine ⟨_,_,.slice (some (h1.size,0)) len cap,es,r',fun b e hb=>hle b e (hle1 b e hb),gr1.trans gp,.cons _ _ _ _ ?_ .nil,⟨fun c hc=>(q2 c hc).1,q1.symm,hl,fun _=>rds_all (get_push_self _ _) (flat_len fun c hc=>(q2 c hc).1)⟩,fun c hc=>hφ _ _ _ gp (q2 c hc).2,by omega⟩
 exact .slice h1.size 0 len cap ⟨a.block,a.off,0⟩ a (by simp) (fun _=>ha) hl
theorem struct_cells {t:TypeId} {fs:Array Field} {v:Value} {rc:Reach} {b0:Nat} {d:DataW H} {p:List MemPlace} (ht:P.underlying t=some (.struct fs)) (hval:Value.okWide P w rc b0 t v) (h:DataW.Trod enc P w 0 (fun _=>true) held t v d p) :
  ∃ (cs:Array Value) (fuel:Nat),v=.agg cs∧DataW.trod enc P w 0 (fun _=>true) held fuel t cs.toList=some (d,p):=by
 obtain ⟨cs,rfl,_⟩:=okWide_struct ht hval
 obtain ⟨fuel,hf⟩:=h
 exact ⟨cs,fuel,rfl,hf⟩
end
end
end Abs
end Go.Proofs.YthgcjbniipfnbaaGreatDoor
namespace Go.Proofs.YthgcjbniipfnbaaGreatDoor
namespace Abs
noncomputable section
set_option linter.unusedVariables false
set_option linter.unusedSimpArgs false
open Go.RowKit
namespace StepK
variable {e:List (Nat × V)} {h h':Heap} {x y z:Opd} {a b c v:V}
theorem lookup {kk:FK} {zero:V} {ok:Bool} (hx:evE e x=some a) (hy:evE e y=some b) (hl:lookupA h kk zero ok a b=some v):StepK e h (.lookup kk zero ok x y) v h:=fun tm hs=>by simp only [opK,hs.ev hx,hs.ev hy,hl]
theorem mapUpd {kk:FK} (hx:evE e x=some a) (hy:evE e y=some b) (hz:evE e z=some c) (hl:mapUpdA h kk a b c=some h'):StepK e h (.mapUpd kk x y z) undefV h':=fun tm hs=>by simp only [opK,hs.ev hx,hs.ev hy,hs.ev hz,hl]
theorem mapDel {kk:FK} (hx:evE e x=some a) (hy:evE e y=some b) (hl:mapDelA h kk a b=some h'):StepK e h (.mapDel kk x y) (.tuple []) h':=fun tm hs=>by simp only [opK,hs.ev hx,hs.ev hy,hl]
theorem mapLen (hx:evE e x=some a) {es:List (V × V)} (hl:mapOf h a=some es):StepK e h (.mapLen x) (.int .i64 es.length) h:=fun tm hs=>by simp only [opK,hs.ev hx,hl]
end StepK
/-! ### Maps by keys that are int: entries in their order -/
section
variable {β:Type}
def findI (k:Int):List (Int × β)→Option β
 | []=>none
 | (a,v)::r=>if k=a then some v else findI k r
def updI (k:Int) (v:β):List (Int × β)→List (Int × β)
 | []=>[(k,v)]
 | (a,w)::r=>if k=a then (k,v)::r else (a,w)::updI k v r
theorem findI_upd (k j:Int) (v:β):∀ A:List (Int × β),findI j (updI k v A)=if j=k then some v else findI j A
 | []=>by simp only [updI,findI]
 | (a,w)::r=>by
  simp only [updI]
  by_cases h:k=a
  ·rw [if_pos h]
   simp only [findI]
   by_cases hj:j=k
   ·rw [if_pos hj,if_pos hj]
   ·rw [if_neg hj,if_neg hj,if_neg (fun q=>hj (q.trans h.symm))]
  ·rw [if_neg h]
   simp only [findI]
   rw [findI_upd k j v r]
   by_cases hj:j=a
   ·rw [if_pos hj,if_neg (fun q=>h (q.symm.trans hj)),if_pos hj]
   ·rw [if_neg hj,if_neg hj]
theorem findI_none {k:Int}:∀ {A:List (Int × β)},findI k A=none↔k∉A.map (·.1)
 | []=>by simp [findI]
 | (a,w)::r=>by
  simp only [findI,List.map_cons,List.mem_cons,not_or]
  by_cases h:k=a
  ·rw [if_pos h];simp [h]
  ·rw [if_neg h,findI_none];simp [h]
def Keys1 (A:List (Int × β)):Prop:=(A.map (·.1)).Nodup
theorem updI_keys (k:Int) (v:β):∀ A:List (Int × β),(updI k v A).map (·.1)=if k∈A.map (·.1) then A.map (·.1) else A.map (·.1)++[k]
 | []=>by simp [updI]
 | (a,w)::r=>by
  simp only [updI]
  by_cases h:k=a
  ·rw [if_pos h];simp [h]
  ·rw [if_neg h]
   simp only [List.map_cons,updI_keys k v r,List.mem_cons,h,false_or]
   split <;> rfl
theorem Keys1.upd {A:List (Int × β)} (h:Keys1 A) (k:Int) (v:β):Keys1 (updI k v A):=by
 unfold Keys1 at h ⊢
 rw [updI_keys]
 split
 ·exact h
 ·rename_i q
  rw [List.nodup_append]
  refine ⟨h,by simp,?_⟩
  intro a ha b hb e
  obtain rfl:=List.mem_singleton.1 hb
  subst e;exact q ha
theorem updI_len (k:Int) (v:β) (A:List (Int × β)):(updI k v A).length=if k∈A.map (·.1) then A.length else A.length+1:=by
 have:=congrArg List.length (updI_keys k v A)
 rw [List.length_map] at this
 rw [this]
 split <;> simp
def MapI (g:β→V) (h:Heap) (b:Nat) (A:List (Int × β)):Prop :=
 Keys1 A∧∃ bs cl,h.get b=some (.map (A.map fun p=>(V.int .i64 p.1,g p.2)) bs cl)∧incN cl bs=true∧bs.length=A.length
theorem MapI.grow {g:β→V} {h h':Heap} {b:Nat} {A:List (Int × β)} (m:MapI g h b A) (gr:Grow h h'):MapI g h' b A :=
 ⟨m.1,let ⟨bs,cl,q1,q2⟩:=m.2;⟨bs,cl,gr.ext _ _ q1,q2⟩⟩
theorem MapI.lt {g:β→V} {h:Heap} {b:Nat} {A:List (Int × β)} (m:MapI g h b A) (hw:Wf h):b<h.size:=by
 obtain ⟨_,bs,cl,q,_⟩:=m;exact Wf.lt hw q
theorem MapI.new (g:β→V) (h:Heap):MapI g (h.push (.map [] [] 0)) h.size []:=⟨List.nodup_nil,[],0,get_push_self _ _,rfl,rfl⟩
theorem findM_I (g:β→V) (k:Int):∀ A:List (Int × β),findM (.int .i64 k) (A.map fun p=>(V.int .i64 p.1,g p.2))=(findI k A).map g
 | []=>rfl
 | (a,w)::r=>by
  simp only [List.map_cons,findM,V.beq,decide_true,Bool.true_and,beq_iff_eq,findI]
  by_cases h:k=a
  ·rw [if_pos h,if_pos h];rfl
  ·rw [if_neg h,if_neg h];exact findM_I g k r
theorem updM_I (g:β→V) (k:Int) (v:β):∀ A:List (Int × β),updM (.int .i64 k) (g v) (A.map fun p=>(V.int .i64 p.1,g p.2))=(updI k v A).map fun p=>(V.int .i64 p.1,g p.2)
 | []=>rfl
 | (a,w)::r=>by
  simp only [List.map_cons,updM,V.beq,decide_true,Bool.true_and,beq_iff_eq,updI]
  by_cases h:k=a
  ·rw [if_pos h,if_pos h];rfl
  ·rw [if_neg h,if_neg h,List.map_cons,updM_I g k v r]
theorem keysOk_I (g:β→V) (k:Int) (A:List (Int × β)):keysOk .int (.int .i64 k) (A.map fun p=>(V.int .i64 p.1,g p.2))=true:=by
 simp only [keysOk,sameKind,decide_true,Bool.true_and,List.all_map,Function.comp_def]
 rw [List.all_eq_true];intro x _;rfl
theorem MapI.look {g:β→V} {h:Heap} {b:Nat} {A:List (Int × β)} (m:MapI g h b A) (k:Int) (zero:V):lookupA h .int zero true (.map (some b)) (.int .i64 k)=some (match findI k A with | some v=>.tuple [g v,.bool true] | none=>.tuple [zero,.bool false]):=by
 obtain ⟨_,bs,cl,q,_⟩:=m
 simp only [lookupA,mapOf,q,keysOk_I,if_true,findM_I]
 cases findI k A <;> rfl
theorem incN_snoc {cl:Nat}:∀ {bs:List Nat},incN cl bs=true→incN (cl+1) (bs++[cl])=true
 | [],_=>by simp [incN]
 | [a],h=>by
  simp only [incN,decide_eq_true_eq] at h
  simp [incN,h]
 | a::b::r,h=>by
  simp only [incN,Bool.and_eq_true,List.cons_append] at h ⊢
  exact ⟨h.1,incN_snoc (bs:=b::r) h.2⟩
theorem MapI.upd {g:β→V} {h:Heap} (hw:Wf h) {b:Nat} {A:List (Int × β)} (m:MapI g h b A) (k:Int) (v:β) :
  ∃ h',mapUpdA h .int (.map (some b)) (.int .i64 k) (g v)=some h'∧MapI g h' b (updI k v A)∧Chg [b] h h'∧h'.size=h.size:=by
 obtain ⟨hk,bs,cl,q,q2,q3⟩:=m
 have hb:=Wf.lt hw q
 have hlen:=updI_len k v A
 simp only [mapUpdA,q,keysOk_I,if_true,findM_I,updM_I]
 refine ⟨_,rfl,?_,Chg.put hw hb _,rfl⟩
 cases hf:findI k A with
 | some w =>
  have:k∈A.map (·.1):=by
   refine Decidable.byContradiction fun hn=>?_
   rw [findI_none.2 hn] at hf;cases hf
  rw [if_pos this] at hlen
  exact ⟨hk.upd k v,bs,cl,by rw [get_put,if_pos rfl];rfl,q2,by rw [q3,hlen]⟩
 | none =>
  rw [if_neg (findI_none.1 hf)] at hlen
  exact ⟨hk.upd k v,bs++[cl],cl+1,by rw [get_put,if_pos rfl];rfl,incN_snoc q2,by rw [List.length_append,q3,hlen];rfl⟩
end
end
end Abs
end Go.Proofs.YthgcjbniipfnbaaGreatDoor
namespace Go.Proofs.YthgcjbniipfnbaaGreatDoor
namespace Abs
noncomputable section
set_option linter.unusedVariables false
set_option linter.unusedSimpArgs false
open Go.RowKit
structure Cut where
 f:Nat
 args:List V
 n0:Nat
 l0:List (Nat × Obj)
 v:V
 n1:Nat
 l1:List (Nat × Obj)
def optB:Option Nat→Option Nat→Bool
 | none,none=>true
 | some a,some b=>Nat.beq a b
 | _,_=>false
theorem optB_eq:∀ {a b:Option Nat},optB a b=true→a=b
 | none,none,_=>rfl
 | some a,some b,h=>by rw [Nat.eq_of_beq_eq_true h]
 | none,some _,h=>by cases h
 | some _,none,h=>by cases h
def natsB:List Nat→List Nat→Bool
 | [],[]=>true
 | a::r,b::s=>Nat.beq a b && natsB r s
 | _,_=>false
theorem natsB_eq:∀ {a b:List Nat},natsB a b=true→a=b
 | [],[],_=>rfl
 | a::r,b::s,h=>by
  simp only [natsB,Bool.and_eq_true] at h
  rw [Nat.eq_of_beq_eq_true h.1,natsB_eq h.2]
 | [],_::_,h=>by cases h
 | _::_,[],h=>by cases h
def stB:St→St→Bool
 | .ro,.ro=>true
 | .sup,.sup=>true
 | .tip S fz ty,.tip S' fz' ty'=>natsB S S' && (Nat.beq fz fz' && optB ty ty')
 | _,_=>false
theorem stB_eq:∀ {a b:St},stB a b=true→a=b
 | .ro,.ro,_=>rfl
 | .sup,.sup,_=>rfl
 | .tip S fz ty,.tip S' fz' ty',h=>by
  simp only [stB,Bool.and_eq_true] at h
  rw [natsB_eq h.1,Nat.eq_of_beq_eq_true h.2.1,optB_eq h.2.2]
 | .ro,.sup,h=>by cases h
 | .ro,.tip ..,h=>by cases h
 | .sup,.ro,h=>by cases h
 | .sup,.tip ..,h=>by cases h
 | .tip ..,.ro,h=>by cases h
 | .tip ..,.sup,h=>by cases h
def entsB:List (V × V)→List (V × V)→Bool
 | [],[]=>true
 | (a,x)::r,(b,y)::s=>V.beq a b && (V.beq x y && entsB r s)
 | _,_=>false
theorem entsB_eq:∀ {a b:List (V × V)},entsB a b=true→a=b
 | [],[],_=>rfl
 | (a,x)::r,(b,y)::s,h=>by
  simp only [entsB,Bool.and_eq_true] at h
  rw [V.beq_eq _ _ h.1,V.beq_eq _ _ h.2.1,entsB_eq h.2.2]
 | [],_::_,h=>by cases h
 | _::_,[],h=>by cases h
def objB:Obj→Obj→Bool
 | .cells cs st,.cells cs' st'=>stB st st' && V.beqs cs cs'
 | .map es bs cl,.map es' bs' cl'=>Nat.beq cl cl' && (natsB bs bs' && entsB es es')
 | .dead,.dead=>true
 | _,_=>false
theorem objB_eq:∀ {a b:Obj},objB a b=true→a=b
 | .cells cs st,.cells cs' st',h=>by
  simp only [objB,Bool.and_eq_true] at h
  rw [stB_eq h.1,V.beqs_eq _ _ h.2]
 | .map es bs cl,.map es' bs' cl',h=>by
  simp only [objB,Bool.and_eq_true] at h
  rw [Nat.eq_of_beq_eq_true h.1,natsB_eq h.2.1,entsB_eq h.2.2]
 | .dead,.dead,_=>rfl
 | .cells ..,.map ..,h | .cells ..,.loop ..,h | .cells ..,.dfr,h | .cells ..,.dead,h | .cells ..,.iter ..,h=>by cases h
 | .map ..,.cells ..,h | .map ..,.loop ..,h | .map ..,.dfr,h | .map ..,.dead,h | .map ..,.iter ..,h=>by cases h
 | .loop ..,_,h=>by cases h
 | .dfr,_,h=>by cases h
 | .iter ..,_,h=>by cases h
 | .dead,.cells ..,h | .dead,.map ..,h | .dead,.loop ..,h | .dead,.dfr,h | .dead,.iter ..,h=>by cases h
def litT (n:Nat):List (Nat × Obj)→HT
 | []=>deadT n
 | (b,o)::r=>(litT n r).set b o
def litH (n:Nat) (l:List (Nat × Obj)):Heap:=⟨litT n l,n,0⟩
def subL:List (Nat × Obj)→Heap→Bool
 | [],_=>true
 | (b,o)::r,h=>match h.get b with
  | some o'=>objB o o' && subL r h
  | none=>false
theorem lit_get (n:Nat):∀ (l:List (Nat × Obj)) (b:Nat),(litH n l).get b=(if b<n then some .dead else none)∨∃ p∈l,p.1=b∧(litH n l).get b=some p.2
 | [],b=>.inl (deadT_get n b)
 | (x,o)::r,b=>by
  have e:(litH n ((x,o)::r)).get b=if b=x then some o else (litH n r).get b:=HT.get_set _ _ _ _
  rw [e]
  by_cases hb:b=x
  ·rw [if_pos hb];exact .inr ⟨(x,o),List.mem_cons_self,hb.symm,rfl⟩
  ·rw [if_neg hb]
   rcases lit_get n r b with q | ⟨p,q1,q2,q3⟩
   ·exact .inl q
   ·exact .inr ⟨p,List.mem_cons_of_mem _ q1,q2,q3⟩
theorem subL_mem:∀ {l:List (Nat × Obj)} {h:Heap},subL l h=true→∀ p∈l,h.get p.1=some p.2
 | (b,o)::r,h,hs,p,hp=>by
  unfold subL at hs
  split at hs
  ·rename_i o' hg
   simp only [Bool.and_eq_true] at hs
   rcases List.mem_cons.1 hp with rfl | hp
   ·rw [hg,objB_eq hs.1]
   ·exact subL_mem hs.2 p hp
  ·cases hs
 | [],_,_,_,hp=>by cases hp
section
variable {P:Program} {B:Nat} {w0:World}
theorem Rel.pruned {ρ:Rho} {h:Heap} {w:World} (r:Rel P B w0 ρ h w) {n:Nat} {l:List (Nat × Obj)} (hs:h.size=n) (hl:subL l h=true):Rel P B w0 ρ (litH n l) w:=by
 have look:∀ b o,(litH n l).get b=some o→o≠.dead→h.get b=some o:=by
  intro b o hq hd
  rcases lit_get n l b with q | ⟨p,q1,rfl,q3⟩
  ·rw [hq] at q
   split at q
   ·cases q;exact absurd rfl hd
   ·cases q
  ·rw [hq] at q3;cases q3
   exact subL_mem hl p q1
 have alive:∀ o:Obj,o.alive=true→o≠.dead:=by rintro o ha rfl;cases ha
 have sups:∀ (o:Obj) S,o.sups=some S→o≠.dead:=by rintro o S ha rfl;cases ha
 refine ⟨fun b e hb=>by show b<n;rw [←hs];exact r.dom b e hb,fun b e hb=>?_,?_,?_,?_,r.below,r.base,r.glob⟩
 ·have hlt:=r.dom b e hb
  rcases lit_get n l b with q | ⟨p,q1,rfl,q3⟩
  ·rw [if_pos (by omega)] at q
   exact ⟨_,q,trivial⟩
  ·obtain ⟨o,g1,g2⟩:=r.obj _ e hb
   rw [subL_mem hl p q1] at g1
   cases g1
   exact ⟨_,q3,g2⟩
 ·intro b b' e e' o o' S h1 h2 h3 h4 h5 h6 h7 h8
  exact r.sep b b' e e' o o' S h1 h2 h3 (look b o h4 (sups o S h5)) h5 (look b' o' h6 (alive o' h7)) h7 h8
 ·intro b e o h1 h2 h3
  exact r.live b e o h1 (look b o h2 (alive o h3)) h3
 ·intro b hb
  have hb:n≤b:=hb
  rcases lit_get n l b with q | ⟨p,q1,rfl,q3⟩
  ·rw [q,if_neg (by omega)]
  ·have:=subL_mem hl p q1
   rw [r.fresh _ (by omega)] at this
   cases this
def cutOk (C:Cfg) (n:Nat) (c:Cut):Bool:=match (run C n).1 (.fn c.f) c.args (litH c.n0 c.l0) with
 | some (v,h)=>Nat.ble c.n0 c.n1 && (V.beq v c.v && (Nat.beq h.size c.n1 && subL c.l1 h))
 | none=>false
def cutAt (c:Cut) (f:Nat) (args:List V) (h:Heap):Bool:=Nat.beq f c.f && (Nat.beq h.size c.n0 && (V.beqs args c.args && subL c.l0 h))
def cutsAt:List Cut→Nat→List V→Heap→Option (V × Heap)
 | [],_,_,_=>none
 | c::r,f,args,h=>match cutAt c f args h with
  | true=>some (c.v,litH c.n1 c.l1)
  | false=>cutsAt r f args h
def sumCut (S:Nat→List V→Heap→Option (Option (V × Heap))) (l:List Cut) (f:Nat) (args:List V) (h:Heap):Option (Option (V × Heap)):=match cutsAt l f args h with
 | some x=>some (some x)
 | none=>S f args h
def CutSnd (P:Program) (B:Nat) (w0:World) (c:Cut):Prop:=c.n0≤c.n1∧∀ h,h.size=c.n0→subL c.l0 h=true→∀ (ρ:Rho) (w:World) (us:Array Value),Rel P B w0 ρ h w→VRs ρ c.args us.toList→CallSnd P B w0 ρ c.f us w h c.v (litH c.n1 c.l1)
theorem cut_snd {C:Cfg} (hT:TableOk P C) (hS:SumOk P B w0 C) {n:Nat} {c:Cut} (hk:cutOk C n c=true):CutSnd P B w0 c:=by
 unfold cutOk at hk
 split at hk
 ·rename_i v h1 hx
  simp only [Bool.and_eq_true] at hk
  obtain ⟨k1,k2,k3,k4⟩:=hk
  obtain rfl:=V.beq_eq _ _ k2
  refine ⟨Nat.le_of_ble_eq_true k1,fun h hz hl ρ w us r hr=>?_⟩
  have snd:=(run_sound hT hS n).1.fn _ _ _ _ _ hx ρ w us (r.pruned hz hl) hr
  have conv:∀ u w',Ret P B w0 ρ (litH c.n0 c.l0).size c.v h1 u w'→Ret P B w0 ρ h.size c.v (litH c.n1 c.l1) u w':=by
   rintro u w' ⟨ρ',q1,q2,q3⟩
   exact ⟨ρ',q1,q2.pruned (Nat.eq_of_beq_eq_true k3) k4,by rw [hz];exact q3⟩
  rcases snd with ⟨q1,q2⟩ | ⟨u,w',q1,q2⟩
  ·refine .inl ⟨q1,fun m=>?_⟩
   obtain ⟨g1,g2⟩:=q2 m
   refine ⟨g1,fun cs hcs=>?_⟩
   obtain ⟨e,w',fr,q3,q4,q5,q6⟩:=g2 cs hcs
   refine ⟨e,w',fr,?_,q4,q5,q6⟩
   cases e with
   | returned u=>exact conv u w' q3
   | panicked c=>exact q3.elim
   | outgrown=>exact q3.elim
  ·exact .inr ⟨u,w',q1,conv u w' q2⟩
 ·cases hk
theorem cutsAt_mem:∀ {l:List Cut} {f:Nat} {args:List V} {h:Heap} {x:V × Heap},cutsAt l f args h=some x→∃ c∈l,cutAt c f args h=true∧x=(c.v,litH c.n1 c.l1)
 | c::r,f,args,h,x,hx=>by
  unfold cutsAt at hx
  split at hx
  ·rename_i ha;cases hx;exact ⟨c,List.mem_cons_self,ha,rfl⟩
  ·obtain ⟨d,q1,q2⟩:=cutsAt_mem hx
   exact ⟨d,List.mem_cons_of_mem _ q1,q2⟩
 | [],_,_,_,_,hx=>by cases hx
def Cfg.cuts (C:Cfg) (l:List Cut):Cfg:={ C with S:=sumCut C.S l }
theorem cuts_ok {C:Cfg} {l:List Cut} (hS:SumOk P B w0 C) (hl:∀ c∈l,CutSnd P B w0 c):SumOk P B w0 (C.cuts l):=by
 intro f args h v h' hx
 replace hx:sumCut C.S l f args h=some (some (v,h')):=hx
 unfold sumCut at hx
 split at hx
 ·rename_i x hc
  cases hx
  obtain ⟨c,q1,q2,q3⟩:=cutsAt_mem hc
  cases q3
  unfold cutAt at q2
  simp only [Bool.and_eq_true] at q2
  obtain ⟨k1,k2,k3,k4⟩:=q2
  obtain rfl:=Nat.eq_of_beq_eq_true k1
  obtain rfl:=V.beqs_eq _ _ k3
  have hz:=Nat.eq_of_beq_eq_true k2
  obtain ⟨g1,g2⟩:=hl c q1
  exact ⟨⟨by rw [hz];exact g1,Nat.zero_le _,fun b hb _=>absurd hb (Nat.not_lt_zero b)⟩,g2 h hz k4⟩
 ·exact hS f args h v h' hx
theorem cuts_tab {C:Cfg} {l:List Cut} (hT:TableOk P C):TableOk P (C.cuts l):=⟨hT.tab,hT.idle⟩
end
def nb:Nat→Nat→List Nat
 | 0,_=>[]
 | n+1,x=>Nat.mod x 256::nb n (Nat.div x 256)
end
end Abs
end Go.Proofs.YthgcjbniipfnbaaGreatDoor
namespace Go.Proofs.YthgcjbniipfnbaaGreatDoor
namespace Abs
noncomputable section
set_option linter.unusedVariables false
set_option linter.unusedSimpArgs false
open Go.RowKit Go.ChangeShapes Go.WideShapes
inductive Kd where
 | bool
 | int (k:IntKind)
 | str
 | sl
def flatF (P:Program) (g:TypeId→Option (List Kd)):Nat→List Field→Option (List Kd)
 | _,[]=>some []
 | off,f::r=>match g f.type with
  | some ks=>if f.offset=off∧P.cellsOf f.type=ks.length then match flatF P g (off+ks.length) r with
    | some l=>some (ks++l)
    | none=>none
   else none
  | none=>none
def flatK (P:Program):Nat→TypeId→Option (List Kd)
 | 0,_=>none
 | n+1,t=>match P.underlying t with
  | some .bool=>some [.bool]
  | some (.int k)=>some [.int k]
  | some .string=>some [.str]
  | some (.slice e)=>if P.cellsOf e≠0 then some [.sl] else none
  | some (.struct fs)=>match flatF P (flatK P n) 0 fs.toList with
   | some l=>if P.cellsOf t=l.length then some l else none
   | none=>none
  | _=>none
def Kd.fit:Kd→Value→Prop
 | .bool,u=>∃ b,u=.bool b
 | .int k,u=>∃ n,u=.int k n
 | .str,u=>∃ s,u=.string s
 | .sl,u=>u=.slice none 0 0∨∃ a len cap,u=.slice (some a) len cap∧len≤cap∧(cap≠0→a.spot=none)
def Kd.like:Kd→V→Prop
 | .bool,v=>∃ b,v=.bool b
 | .int k,v=>∃ n,v=.int k n
 | .str,v=>∃ s,v=.str s
 | .sl,v=>v=.slice none 0 0∨∃ n c,v=.slice (some (GN,0)) n c
inductive Fits:List Kd→List Value→Prop where
 | nil:Fits [] []
 | cons (k:Kd) (u:Value) (ks:List Kd) (us:List Value) (h:k.fit u) (t:Fits ks us):Fits (k::ks) (u::us)
inductive Likes:List Kd→List V→Prop where
 | nil:Likes [] []
 | cons (k:Kd) (v:V) (ks:List Kd) (vs:List V) (h:k.like v) (t:Likes ks vs):Likes (k::ks) (v::vs)
theorem Fits.append:∀ {a b:List Kd} {x y:List Value},Fits a x→Fits b y→Fits (a++b) (x++y)
 | _,_,_,_,.nil,h=>h
 | _,_,_,_,.cons k u ks us q t,h=>.cons k u _ _ q (Fits.append t h)
theorem Fits.length:∀ {a:List Kd} {x:List Value},Fits a x→a.length=x.length
 | _,_,.nil=>rfl
 | _,_,.cons _ _ _ _ _ t=>by simp [Fits.length t]
section
variable {H:Type} {enc:TypeId × Value→H} {P:Program} {w:World} {held:Bool}
end
section
variable {P:Program} {B:Nat} {w0:World}
theorem Rel.deadEmb {ρ:Rho} {h:Heap} {w:World} (r:Rel P B w0 ρ h w) {b:Nat} (hb:ρ b=none) (hlt:b<h.size) (hg:h.get b=some .dead) (e:Emb):Rel P B w0 (Rho.with_ ρ b e) h w:=by
 have hle:RLe ρ (Rho.with_ ρ b e):=with_le hb
 have old:∀ {x:Nat} {e':Emb},Rho.with_ ρ b e x=some e'→x≠b→ρ x=some e':=by
  intro x e' hx hne
  unfold Rho.with_ at hx
  rwa [if_neg hne] at hx
 refine ⟨fun x e' hx=>?_,fun x e' hx=>?_,?_,fun x e' o h1 h2 h3=>?_,r.fresh,r.below,r.base,r.glob.mono hle⟩
 ·by_cases hne:x=b
  ·subst hne;exact hlt
  ·exact r.dom x e' (old hx hne)
 ·by_cases hne:x=b
  ·subst hne;exact ⟨.dead,hg,trivial⟩
  ·obtain ⟨o,q1,q2⟩:=r.obj x e' (old hx hne)
   exact ⟨o,q1,q2.mono hle⟩
 ·intro x x' e1 e2 o1 o2 S h1 h2 h3 h4 h5 h6 h7 h8
  have n1:x≠b:=by rintro rfl;rw [hg] at h4;cases h4;cases h5
  have n2:x'≠b:=by rintro rfl;rw [hg] at h6;cases h6;cases h7
  exact r.sep x x' e1 e2 o1 o2 S (old h1 n1) (old h2 n2) h3 h4 h5 h6 h7 h8
 ·have n1:x≠b:=by rintro rfl;rw [hg] at h2;cases h2;cases h3
  exact r.live x e' o (old h1 n1) h2 h3
/-! ### A closed part as a summary -/
def glB (l:List (Nat × List V)) (h:Heap):Bool:=(List.range GN).all fun g=>match h.get g,(baseH l).get g with
 | some a,some b=>objB a b
 | _,_=>false
theorem glB_gl {l:List (Nat × List V)} {h:Heap} (hb:glB l h=true):Gl l h:=by
 intro g hg
 have:=List.all_eq_true.1 hb g (List.mem_range.2 hg)
 split at this
 ·rename_i a b q1 q2
  rw [q1,q2,objB_eq this]
 ·cases this
def sumLive (l:List (Nat × List V)) (live:Nat) (S:Nat→List V→Heap→Option (Option (V × Heap))) (f:Nat) (args:List V) (h:Heap):Option (Option (V × Heap)) :=
 match Nat.beq f live with
 | true=>match args with
  | []=>match glB l h with
   | true=>some (some (.bool true,h))
   | false=>some none
  | _=>some none
 | false=>S f args h
def isT:Option (V × Heap)→Bool
 | some (.bool b,_)=>b
 | _=>false
theorem isT_eq {r:Option (V × Heap)} (h:isT r=true):∃ h1,r=some (.bool true,h1):=by
 unfold isT at h
 split at h
 ·subst h;exact ⟨_,rfl⟩
 ·cases h
end
end
end Abs
end Go.Proofs.YthgcjbniipfnbaaGreatDoor
