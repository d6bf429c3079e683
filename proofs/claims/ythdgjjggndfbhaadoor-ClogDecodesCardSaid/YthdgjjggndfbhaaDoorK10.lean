/- Layer 13: what the document's Encode and Decode answer. -/
import Derived.Test.YthdgjjggndfbhaaDoorK6
import Derived.Test.YthdgjjggndfbhaaDoorB14
import Derived.Test.YthdgjjggndfbhaaDoorR02f
namespace Go.Proofs.YthdgjjggndfbhaaDoor
namespace Abs
set_option linter.unusedVariables false
set_option linter.unusedSimpArgs false
open Go.RowKit
attribute [local irreducible] WO WC WD StepK Ans Does Runs DoesD

def rdbodyF (s : List Nat) : Dec :=
  let q := numberF ((cutF s).drop 2) 0 6
  let k := numberF q.2.1 q.2.2 1
  let r := rdEnts k.1 k.2
  if endF r.2.1 r.2.2 = 0 ∧ codeF q.1 r.1 = 0 ∧ encF q.1 r.1 = s then ⟨q.1, r.1, 0⟩ else ⟨0, [], 3⟩
def rdecF (s : List Nat) : Dec :=
  if s.length < 41 then ⟨0, [], 2⟩ else if ofF (cutF s) ≠ digF s then ⟨0, [], 4⟩ else rdbodyF s

section
variable {C : Cfg} (S : StdO C)
include S

theorem r13encode_ans (ho : ∀ args h, C.S 15 args h = none) (h : Heap) (hw : Wf h) (seq : Int) (x : V) (es : List Ent) (s : Ents h x es) (hn : es.length ≤ 1000000000) (hb : ∀ e ∈ es, e.byt) : Ans C 12 [.agg [iv seq, x]] h fun v h' => v = .tuple [.str (encF seq es), iv (codeF seq es)] ∧ Grow h h' := by
  have hF : C.F 12 = some a12 := S.f rfl
  unfold a12 at hF
  refine Ans.val (fun _ _ => S.s _ _ _ rfl) hF rfl rfl hw fun h2 g => ?_
  clear hF
  refine WC.seqO ?_
  refine WO.ops (StepK.box rfl) <| omv rfl <| omv rfl ?_
  have a := Cl.new h2 [iv seq, x] none
  have g3 := g.push (.cells [iv seq, x] (.tip [] 0 none))
  change WO C _ _ (h2.push (.cells [iv seq, x] (.tip [] 0 none))) _
  generalize h2.push (.cells [iv seq, x] (.tip [] 0 none)) = h3 at *
  generalize h2.size = b at *
  refine WO.nil (WC.seqO ?_)
  refine WO.ops (StepK.loadN rfl (a.rds rfl)) ?_
  refine WO.call rfl rfl (r13check_ans S h3 g3.wf seq x es (s.grow g3) hn) ?_
  rintro v h4 ⟨rfl, g4⟩
  have a := a.grow g4
  have g4 := g3.trans g4
  refine omv rfl (WO.nil (WC.seq (WC.seqO ?_)))
  refine omv rfl <| obn rfl rfl rfl ?_
  refine WO.nil (WC.cond rfl (fun hc => WC.seqO ?_) (fun hc => WC.skip (WC.seqD ?_)))
  · have hc : codeF seq es ≠ 0 := by simpa using hc
    refine omv rfl <| omv rfl <| omv rfl ?_
    refine WO.nil (WC.ret ⟨trivial, g4, ?_⟩)
    have hno : ¬ blkOk seq es := fun q => hc (by unfold codeF; rw [if_pos q])
    show some (V.tuple [.str [], iv (codeF seq es)]) = _
    unfold encF; rw [if_neg hno]
  have hcode : codeF seq es = 0 := by simpa using hc
  clear hc
  have hok : blkOk seq es := by
    have hc := hcode
    unfold codeF at hc; split at hc
    · assumption
    · cases hc
  have hok' := hok
  have m1 : mostF 1 = 255 := rfl
  have m2 : mostF 2 = 65535 := rfl
  have m6 : mostF 6 = 281474976710655 := rfl
  obtain ⟨o1, o2, o3⟩ := hok
  have l0 : h4.rd b (0 + 0) = some (iv seq) := a.rd rfl
  have l1 : h4.rd b (0 + 1) = some x := a.rd rfl
  have s4 := s.grow g4
  refine dfa rfl ?_
  refine WD.load1 rfl l0 ?_
  refine dfa rfl ?_
  refine WD.load1 rfl l1 ?_
  refine dls rfl s4.len ?_
  refine WD.call (by repeat (first | exact trivial | refine ⟨by with_reducible assumption, ?_⟩)) rfl rfl (rput_ans S.toStdM h4 g4.wf seq 6 (by omega)) ?_
  rintro v h6 ⟨rfl, g6⟩
  have k0 : h6.rd b (0 + 0) = some (iv seq) := g6.rd l0
  have k1 : h6.rd b (0 + 1) = some x := g6.rd l1
  have e1 : (putF seq 6).length = 6 := putF_len o1.1 (by omega)
  have e2 : (putF es.length 1).length = 1 := putF_len (by omega) (by omega)
  refine dbn rfl rfl (add_str (by simp [e1])) ?_
  refine WD.call (by repeat (first | exact trivial | refine ⟨by with_reducible assumption, ?_⟩)) rfl rfl (rput_ans S.toStdM h6 g6.wf es.length 1 (by omega)) ?_
  rintro v h7 ⟨rfl, g7⟩
  have g7 := g6.trans g7
  have a7 := a.grow g7
  have g7 := g4.trans g7
  refine dbn rfl rfl (add_str (by simp [e1, e2])) ?_
  refine dmv rfl ?_
  refine WD.nil (by repeat (first | exact trivial | refine ⟨by with_reducible assumption, ?_⟩)) (WC.seq (WC.seqO ?_))
  have hdH : [80, 76] ++ putF seq 6 ++ putF (es.length : Int) 1 = encH seq es.length := rfl
  rw [hdH]
  have hHl := encH_len (n := es.length) o1 o2
  refine omv rfl (WO.nil (WC.block ?_))
  refine WC.loop (σ := Nat) (fun p => [(1, .ptr (some (b, 0))), (5, .str (encH seq es.length ++ ((es.take p).map Ent.enc).flatten)), (6, iv p)]) (fun p h' => Grow h h' ∧ p ≤ es.length ∧ Cl h' b [iv seq, x]) (fun p => es.length - p) 0 (Cov.cons rfl (Cov.cons (by show some (V.str (encH seq es.length)) = some (V.str (encH seq es.length ++ [])); rw [List.append_nil]) (Cov.cons rfl (Cov.nil _)))) ⟨g7, by omega, a7⟩ ?_
  clear a7 g7 a s4
  rintro p h9 ⟨g9, hp, a9⟩
  have hpl := encs_len (es.take p) (fun e he => o3 e (List.mem_of_mem_take he))
  have htl : (es.take p).length = p := by rw [List.length_take]; omega
  have r1 : h9.rd b (0 + 1) = some x := a9.rd rfl
  refine WC.seq (WC.seqO ?_)
  refine omv rfl <| ofa rfl <| old rfl r1 <| ols rfl (s.grow g9).len <| obn rfl rfl rfl ?_
  refine WO.nil (WC.cond rfl (fun hc => WC.skip ?_) (fun hc => WC.exit ?_))
  · have hc := of_decide_eq_true hc
    have hp : p < es.length := by omega
    obtain ⟨c, o, q1, q2, u0, u1, u2, u3⟩ := (s.grow g9).at hp
    have hoke := o3 es[p] (List.getElem_mem hp)
    have hencl := enc_len hoke
    have htake : es.take (p + 1) = es.take p ++ [es[p]] := by rw [List.take_succ_eq_append_getElem hp]
    obtain ⟨t1, t2, t3, t4, t5⟩ := hoke
    generalize es[p] = e at *
    have lt : (textF e.key 1).length = 1 + e.key.length := by
      unfold textF; rw [if_neg (by omega), List.length_append, putF_len (by omega) (by omega)]; rfl
    have l2 : (putF e.len 2).length = 2 := putF_len t4.1 (by omega)
    have l3 : (putF e.loc 2).length = 2 := putF_len t5.1 (by omega)
    refine WC.seq (WC.block (WC.draw ?_))
    refine dmv rfl <| dfa rfl ?_
    refine WD.load1 rfl r1 ?_
    refine dmv rfl <| WD.pure (StepK.idxSl rfl rfl q1) rfl <| dfa rfl ?_
    refine WD.load1 rfl u0 ?_
    refine dfa rfl ?_
    refine WD.load1 rfl r1 ?_
    refine dmv rfl <| WD.pure (StepK.idxSl rfl rfl q1) rfl <| dfa rfl ?_
    refine WD.load1 rfl u1 ?_
    refine dfa rfl ?_
    refine WD.load1 rfl r1 ?_
    refine dmv rfl <| WD.pure (StepK.idxSl rfl rfl q1) rfl <| dfa rfl ?_
    refine WD.load1 rfl u2 ?_
    refine dfa rfl ?_
    refine WD.load1 rfl r1 ?_
    refine dmv rfl <| WD.pure (StepK.idxSl rfl rfl q1) rfl <| dfa rfl ?_
    refine WD.load1 rfl u3 ?_
    refine WD.call (by repeat (first | exact trivial | refine ⟨by with_reducible assumption, ?_⟩)) rfl rfl (rftext_ans S.toStdM h9 g9.wf e.key 1 (by omega)) ?_
    rintro v h12 ⟨rfl, g12⟩
    have x1 := g12.rd r1
    have v1 := g12.rd u1
    have v2 := g12.rd u2
    have v3 := g12.rd u3
    refine dbn rfl rfl (add_str (by simp only [List.length_append]; omega)) <| dbn rfl rfl (add_str (by simp only [List.length_append]; omega)) ?_
    refine WD.call (by repeat (first | exact trivial | refine ⟨by with_reducible assumption, ?_⟩)) rfl rfl (rput_ans S.toStdM h12 g12.wf e.len 2 (by omega)) ?_
    rintro v h13 ⟨rfl, g13⟩
    have x13 := g13.rd x1
    have w1 := g13.rd v1
    have w2 := g13.rd v2
    have w3 := g13.rd v3
    refine dbn rfl rfl (add_str (by simp only [List.length_append]; omega)) ?_
    refine WD.call (by repeat (first | exact trivial | refine ⟨by with_reducible assumption, ?_⟩)) rfl rfl (rput_ans S.toStdM h13 g13.wf e.loc 2 (by omega)) ?_
    rintro v h14 ⟨rfl, g14⟩
    have x14 := g14.rd x13
    have y1 := g14.rd w1
    have y2 := g14.rd w2
    have y3 := g14.rd w3
    have g1234 := (g12.trans g13).trans g14
    refine dbn rfl rfl (add_str (by simp only [List.length_append]; omega)) <| dmv rfl ?_
    refine WD.nil (by repeat (first | exact trivial | refine ⟨by with_reducible assumption, ?_⟩)) (WC.ops ?_)
    refine omv rfl <| oad rfl rfl (by omega) <| omv rfl ?_
    refine WO.nil ⟨p + 1, Cov.cons rfl (Cov.cons ?_ (Cov.cons rfl (Cov.nil _))), ⟨g9.trans g1234, by omega, a9.grow g1234⟩, by omega⟩
    refine (show some (V.str (encH seq es.length ++ ((es.take p).map Ent.enc).flatten ++ textF e.key 1 ++ e.sum ++ putF e.len 2 ++ putF e.loc 2)) = some (V.str (encH seq es.length ++ ((es.take (p + 1)).map Ent.enc).flatten)) from ?_)
    rw [htake, List.map_append, List.flatten_append]
    simp [Ent.enc]
  have hc := of_decide_eq_false hc
  obtain rfl : p = es.length := by omega
  rw [List.take_length] at hpl ⊢
  have hT : encH seq es.length ++ (es.map Ent.enc).flatten = encT seq es := rfl
  rw [hT]
  have hTb : Byt (encT seq es) := (encH_byt _ _).app (encs_byt es hb)
  have hTl : (encT seq es).length ≤ 700 := by unfold encT; rw [List.length_append]; omega
  refine WC.seqO ?_
  refine omv rfl <| omv rfl ?_
  refine WO.call rfl rfl (rof_ans S.toStdM ho h9 g9.wf (encT seq es) (by omega) hTb) ?_
  rintro v h10 ⟨rfl, g10⟩
  refine obn rfl rfl (add_str (by rw [ofF_len]; omega)) <| omv rfl <| omv rfl ?_
  refine WO.nil (WC.ret ⟨trivial, g9.trans g10, ?_⟩)
  show some (V.tuple [.str (encT seq es ++ ofF (encT seq es)), iv 0]) = some (V.tuple [.str (encF seq es), iv (codeF seq es)])
  unfold encF; rw [if_pos hok', hcode]

theorem r13decode_ans (ho : ∀ args h, C.S 15 args h = none) (h : Heap) (hw : Wf h) (s : List Nat) (hs : s.length ≤ 1000000) (hb : Byt s) :
    Ans C 17 [.str s] h fun v h' => ∃ x, v = .tuple [.agg [iv (rdecF s).seq, x], iv (rdecF s).code] ∧ Grow h h' ∧ Grown h' h.size 4 x ((rdecF s).es.map Ent.v) := by
  have hF : C.F 17 = some a17 := S.f rfl
  unfold a17 at hF
  refine Ans.loc S.hm (S.s _ _ _ rfl) hF rfl rfl hw (fun h2 g hsz hge => ?_) ?_
  rotate_left
  · rintro v h1 hg ⟨x, rfl, g1, gr⟩ hv
    refine ⟨x, rfl, Grow.refl hw, gr.scopd ?_ h⟩
    simpa [V.scopd, V.scopeds] using hv
  clear hF
  -- an error's end
  have err : ∀ (t : Nat) (h3 : Heap) (e' : List (Nat × V)) (b : Nat) (code : Int) (cs : List V), t ≠ 2 → t ≠ 3 → Grow h h3 → h.size ≤ b → Cl h3 b cs → cs.length = 2 → Env.get e' 2 = some (.ptr (some (b, 0))) → rdecF s = ⟨0, [], code⟩ →
      ∀ Q : Ex → List (Nat × V) → Heap → Prop, (∀ e' h1, (Fin .ret ∧ ∃ v, retE e' h1 [.cell 2 (some 2), .tmp 3] = some v ∧ ∀ n, ∃ x, v = .tuple [.agg [iv (rdecF s).seq, x], iv (rdecF s).code] ∧ Grow h { h1 with low := n } ∧ Grown { h1 with low := n } h.size 4 x ((rdecF s).es.map Ent.v)) → Q .ret e' h1) →
      WC C (.seq (.ops [⟨(some t), none, .build [(.int .i64 (0)), (.slice none 0 0)] []⟩,
        ⟨none, none, .store 2 (.t 2) (.t t)⟩, ⟨(some 3), none, .mv (.c (.int .i64 code))⟩]) .ret) e' h3 Q := by
    intro t h3 e' b code cs t2 t3 g3 hb3 a3 hcs he hd Q hQ
    obtain ⟨h4, q1, q2, q3, q4⟩ := a3.sets g3.wf (i := 0) (us := [iv 0, .slice none 0 0]) (by simp [hcs]) rfl
    refine WC.seqO ?_
    refine obu rfl rfl ?_
    have he2 : Env.get ((t, V.agg [iv 0, .slice none 0 0]) :: e') 2 = some (.ptr (some (b, 0))) := by simp only [Env.get]; rw [if_neg (fun q => t2 q.symm)]; exact he
    have he3 : Env.get ((t, V.agg [iv 0, .slice none 0 0]) :: e') t = some (.agg [iv 0, .slice none 0 0]) := by simp only [Env.get, if_true]
    refine WO.op (StepK.store (v := .agg [iv 0, .slice none 0 0]) he2 he3 rfl q1) ?_
    refine omv rfl ?_
    have q2 : Cl h4 b [iv 0, .slice none 0 0] := by
      have := splice_head (us := [iv 0, .slice none 0 0]) (cs := cs) (ds := []) (by simp [hcs])
      rw [List.append_nil, List.append_nil] at this; rw [this] at q2; exact q2
    refine WO.nil (WC.ret (hQ _ _ ⟨trivial, .tuple [.agg [iv 0, .slice none 0 0], iv code], ?_, fun n => ⟨.slice none 0 0, by rw [hd], (Chg.newGrow g3 q3 hw (by simpa using hb3)).low1 n, by rw [hd]; exact Grown.nil _ _ _⟩⟩))
    have hl : loadA h4 (some 2) (.ptr (some (b, 0))) = some (.agg [iv 0, .slice none 0 0]) := by simp only [loadA, q2.rds (k := 2) rfl]
    simp only [retE, ressE, resE, Env.put, Env.get, if_true, show ((2 : Nat) = 3) = False by simp, show ((2 : Nat) = t) = False from eq_false (fun q => t2 q.symm), if_false, he, hl]
    rfl
  refine WC.seqO ?_
  refine WO.ops StepK.alloc <| omv rfl ?_
  have a0 := Cl.new h2 [iv 0, .slice none 0 0] none
  have g3 := g.push (.cells [iv 0, .slice none 0 0] (.tip [] 0 none))
  have hb2 : h.size ≤ h2.size := g.size
  change WO C _ _ (h2.push (.cells [iv 0, .slice none 0 0] (.tip [] 0 none))) _
  generalize h2.push (.cells [iv 0, .slice none 0 0] (.tip [] 0 none)) = h3 at *
  generalize h2.size = b2 at *
  refine WO.nil (WC.seq (WC.seqO ?_))
  refine omv rfl <| olt rfl <| obn rfl rfl rfl ?_
  refine WO.nil (WC.cond rfl (fun hc => ?_) (fun hc => WC.skip (WC.seqO ?_)))
  · have hc := of_decide_eq_true hc
    refine err 15 h3 _ b2 2 _ (by decide) (by decide) g3 hb2 a0 rfl rfl ?_ _ (fun _ _ q => q)
    unfold rdecF; rw [if_pos (by omega)]
  have hc := of_decide_eq_false hc
  have h41 : 41 ≤ s.length := by omega
  have hcut : s.take ((s.length : Int) - 32).toNat = cutF s := by unfold cutF; congr 1; omega
  have hdig : s.drop ((s.length : Int) - 32).toNat = digF s := by unfold digF; congr 1; omega
  have hcl : (cutF s).length ≤ 1000000 := by unfold cutF; rw [List.length_take]; omega
  have hcb : Byt (cutF s) := hb.take _
  have hlo : sliceStrA (.str s) none (some (iv ((s.length : Int) - 32))) = some (.str (cutF s)) := by rw [str_lo (by omega) (by omega), hcut]
  have hhi : sliceStrA (.str s) (some (iv ((s.length : Int) - 32))) none = some (.str (digF s)) := by rw [str_hi (by omega) (by omega), hdig]
  have hmid : sliceStrA (.str s) (some (iv 2)) (some (iv ((s.length : Int) - 32))) = some (.str ((cutF s).drop 2)) := by
    rw [str_mid (by omega) (by omega) (by omega)]
    unfold cutF
    rw [List.drop_take]
    congr 3
    omega
  refine omv rfl <| olt rfl <| osb rfl rfl (by omega) <| omv rfl (WO.nil (WC.seq (WC.seqD ?_)))
  refine dmv rfl <| dmv rfl <| WD.pure (StepK.sliceStr rfl rfl rfl hlo) rfl ?_
  refine dmv rfl <| dmv rfl <| WD.pure (StepK.sliceStr rfl rfl rfl hhi) rfl ?_
  refine WD.call (by repeat (first | exact trivial | refine ⟨by with_reducible assumption, ?_⟩)) rfl rfl (rof_ans S.toStdM ho h3 g3.wf (cutF s) hcl hcb) ?_
  rintro v h4 ⟨rfl, g4⟩
  have a0 := a0.grow g4
  have g4 := g3.trans g4
  refine dbn rfl rfl rfl ?_
  refine WD.nil (by repeat (first | exact trivial | refine ⟨by with_reducible assumption, ?_⟩)) (WC.cond rfl (fun hc2 => ?_) (fun hc2 => WC.skip (WC.seqO ?_)))
  · refine err 27 h4 _ b2 4 _ (by decide) (by decide) g4 hb2 a0 rfl rfl ?_ _ (fun _ _ q => q)
    unfold rdecF; rw [if_neg (by omega), if_pos]
    intro q; rw [q, beqL_refl] at hc2; cases hc2
  have hdg : ofF (cutF s) = digF s := (beqL_iff _ _).1 (by simpa using hc2)
  have hdec : rdecF s = rdbodyF s := by
    unfold rdecF; rw [if_neg (by omega), if_neg (by simpa using hdg)]
  clear hc2 hdg
  have hcb : Byt ((cutF s).drop 2) := hcb.drop _
  refine omv rfl <| omv rfl <| WO.ops (StepK.sliceStr rfl rfl rfl hmid) <| obu rfl rfl <| WO.ops (StepK.box rfl) ?_
  have hbd : rdbodyF s = (let q := numberF ((cutF s).drop 2) 0 6
      let k := numberF q.2.1 q.2.2 1
      let r := rdEnts k.1 k.2
      if endF r.2.1 r.2.2 = 0 ∧ codeF q.1 r.1 = 0 ∧ encF q.1 r.1 = s then ⟨q.1, r.1, 0⟩ else ⟨0, [], 3⟩) := rfl
  generalize (cutF s).drop 2 = t at *
  have r5 : RdAt _ h4.size t 0 := Cl.new h4 [.str t, iv 0] none
  have gq := (Grow.refl g4.wf).push (.cells [.str t, iv 0] (.tip [] 0 none))
  have hb2l := a0.lt g4.wf
  have a5 := a0.grow gq
  have g5 := g4.trans gq
  have hrb : h.size ≤ h4.size := g4.size
  have hne : h4.size ≠ b2 := by omega
  change WO C _ _ (h4.push (.cells [.str t, iv 0] (.tip [] 0 none))) _
  generalize h4.push (.cells [.str t, iv 0] (.tip [] 0 none)) = h5 at *
  generalize h4.size = rb at *
  refine omv rfl (WO.nil (WC.seqO ?_))
  refine obu rfl rfl <| WO.ops StepK.alloc ?_
  have a8 := Cl.new h5 [iv 0, .slice none 0 0] none
  have gp := (Grow.refl g5.wf).push (.cells [iv 0, .slice none 0 0] (.tip [] 0 none))
  have r8 : RdAt (h5.push (.cells [iv 0, .slice none 0 0] (.tip [] 0 none))) rb t 0 := Cl.grow r5 gp
  have ab8 := a5.grow gp
  have hrbl := Cl.lt r5 g5.wf
  have hb2l := a5.lt g5.wf
  change WO C _ _ (h5.push (.cells [iv 0, .slice none 0 0] (.tip [] 0 none))) _
  generalize h5.push (.cells [iv 0, .slice none 0 0] (.tip [] 0 none)) = h8 at *
  have hs7 := g5.size
  obtain ⟨h9, p1, p2, p3, p4⟩ := a8.sets gp.wf (i := 0) (us := [iv 0, .slice none 0 0]) (by simp) rfl
  have n8 : h5.size ≠ rb := by omega
  have n82 : h5.size ≠ b2 := by omega
  generalize h5.size = b8 at *
  have g8 := g5.trans gp
  have g9 := Chg.newGrow g8 p3 hw (by simpa using hs7)
  have a9 : Cl h9 b8 [iv 0, .slice none 0 0] := p2
  have r9 : RdAt h9 rb t 0 := Cl.chg r8 p3 (by simpa using fun e => n8 e.symm)
  have ab9 := ab8.chg p3 (by simpa using fun e => n82 e.symm)
  refine WO.op (StepK.store rfl rfl rfl p1) (WO.nil (WC.seqO ?_))
  refine omv rfl ?_
  refine WO.call rfl rfl (rnumber_ans S.toStdM h9 g9.wf rb _ _ 6 r9 hcb) ?_
  rintro v h10 ⟨rfl, r10, c10⟩
  have b10 := numberF_byt (e := 0) (w := 6) hcb
  have a10 := a9.chg c10 (by simpa using n8)
  have ab10 := ab9.chg c10 (by simpa using fun e => hne e.symm)
  have g10 := Chg.newGrow g9 c10 hw (by simpa using hrb)
  generalize numberF t 0 6 = q at *
  obtain ⟨q0, qs, qe⟩ := q
  simp only at r10 b10 hbd ⊢
  obtain ⟨h11, p1, p2, p3, p4⟩ := a10.set g10.wf (i := 0) (v := iv q0) (by exact (by decide : 0 < 2)) rfl
  have g11 := Chg.newGrow g10 p3 hw (by simpa using hs7)
  have a11 : Cl h11 b8 [iv q0, .slice none 0 0] := p2
  have r11 : RdAt h11 rb qs qe := Cl.chg r10 p3 (by simpa using fun e => n8 e.symm)
  have ab11 := ab10.chg p3 (by simpa using fun e => n82 e.symm)
  refine ofa rfl ?_
  refine WO.op (StepK.store rfl rfl rfl p1) (WO.nil (WC.seqO ?_))
  refine omv rfl ?_
  refine WO.call rfl rfl (rnumber_ans S.toStdM h11 g11.wf rb _ _ 1 r11 b10) ?_
  rintro v h12 ⟨rfl, r12, c12⟩
  have b12 := numberF_byt (e := qe) (w := 1) b10
  have hk12 := number1_lt (e := qe) b10
  have a12 := a11.chg c12 (by simpa using n8)
  have ab12 := ab11.chg c12 (by simpa using fun e => hne e.symm)
  have g12 := Chg.newGrow g11 c12 hw (by simpa using hrb)
  generalize numberF qs qe 1 = k at *
  obtain ⟨k0, ks⟩ := k
  simp only at r12 b12 hk12 hbd ⊢
  refine omv rfl (WO.nil (WC.seq (WC.seqO (omv rfl (WO.nil (WC.block ?_))))))
  refine WC.loop (σ := Nat × V) (fun p => [(0, .str s), (2, .ptr (some (b2, 0))), (5, .ptr (some (rb, 0))), (6, .ptr (some (b8, 0))), (7, iv k0), (8, iv p.1)])
    (fun p h' => Grow h h' ∧ p.1 ≤ k0 ∧ RdAt h' rb (rdEnts p.1 ks).2.1 (rdEnts p.1 ks).2.2 ∧ Cl h' b8 [iv q0, p.2] ∧ Cl h' b2 [iv 0, .slice none 0 0] ∧ Grown h' h.size 4 p.2 ((rdEnts p.1 ks).1.map Ent.v) ∧ Off p.2 rb ∧ Off p.2 b8 ∧ Off p.2 b2) (fun p => k0 - p.1) (0, .slice none 0 0)
    (Cov.cons rfl (Cov.cons rfl (Cov.cons rfl (Cov.cons rfl (Cov.cons rfl (Cov.cons rfl (Cov.nil _))))))) ⟨g12, by omega, r12, a12, ab12, Grown.nil _ _ _, Off.nil _, Off.nil _, Off.nil _⟩ ?_
  clear r12 a12 ab12 g12 c12 a11 ab11 r11 g11 a10 ab10 r10 g10 a9 ab9 r9 g9 a8 ab8 r8 g8 a5 r5 g5 a0 g4 g3 gp gq p3 c10
  rintro ⟨p, x⟩ h11 ⟨g11, hp, r11, a11, ab11, gx11, o1, o2, o3⟩
  simp only at hp r11 a11 gx11 o1 o2 o3 ⊢
  refine WC.seq (WC.seqO ?_)
  refine omv rfl <| omv rfl <| obn rfl rfl rfl ?_
  refine WO.nil (WC.cond rfl (fun hc => WC.skip ?_) (fun hc => WC.exit ?_))
  · have hc := of_decide_eq_true hc
    have hpk : p < k0 := by omega
    have hby := (rdEnts_byt p (st := ks) b12).2
    have hlen := rdEnts_len p ks
    have hstep : rdEnts (p + 1) ks = ((rdEnts p ks).1 ++ [(rdEnt (rdEnts p ks).2).1], (rdEnt (rdEnts p ks).2).2) := rfl
    generalize rdEnts p ks = r at *
    obtain ⟨es, st⟩ := r
    obtain ⟨st, se⟩ := st
    simp only at hby hlen hstep r11 gx11 ⊢
    have hre : rdEnt (st, se) = (let a := rtextF st se 1
      let b := bytesF a.2.1 a.2.2 32
      let c := numberF b.2.1 b.2.2 2
      let d := numberF c.2.1 c.2.2 2
      (⟨a.1, b.1, c.1, d.1⟩, d.2)) := rfl
    refine WC.seq (WC.block (WC.seqO ?_))
    refine obu rfl rfl <| WO.ops StepK.alloc ?_
    have au := Cl.new h11 [.str [], .str [], iv 0, iv 0] none
    have gp := (Grow.refl g11.wf).push (.cells [.str [], .str [], iv 0, iv 0] (.tip [] 0 none))
    have hus := g11.size
    have lrb := Cl.lt r11 g11.wf
    have lb8 := a11.lt g11.wf
    have lb2 := ab11.lt g11.wf
    have lx := grown_lt g11.wf gx11
    have ou : Off x h11.size := fun b o l k z e => by have := lx b o l k z e; omega
    have r12 : RdAt _ rb st se := Cl.grow r11 gp
    have K12 : Cl _ b8 [iv q0, x] ∧ Cl _ b2 [iv 0, .slice none 0 0] ∧ Grown _ h.size 4 x (es.map Ent.v) ∧ Grow h _ := ⟨a11.grow gp, ab11.grow gp, gx11.grow gp, g11.trans gp⟩
    change WO C _ _ (h11.push (.cells [.str [], .str [], iv 0, iv 0] (.tip [] 0 none))) _
    generalize h11.push (.cells [.str [], .str [], iv 0, iv 0] (.tip [] 0 none)) = h12 at *
    have u1 : h11.size ≠ rb := by omega
    have u2 : h11.size ≠ b8 := by omega
    have u3 : h11.size ≠ b2 := by omega
    generalize h11.size = u at *
    have kp : ∀ {h1 h2 : Heap} {F : List Nat}, Chg F h1 h2 → (∀ y ∈ F, y = rb ∨ y = u) → (Cl h1 b8 [iv q0, x] ∧ Cl h1 b2 [iv 0, .slice none 0 0] ∧ Grown h1 h.size 4 x (es.map Ent.v) ∧ Grow h h1) → (Cl h2 b8 [iv q0, x] ∧ Cl h2 b2 [iv 0, .slice none 0 0] ∧ Grown h2 h.size 4 x (es.map Ent.v) ∧ Grow h h2) := by
      rintro h1 h2 F c hF ⟨k1, k2, k3, k4⟩
      refine ⟨k1.chg c fun q => ?_, k2.chg c fun q => ?_, k3.chg c fun y hy => ?_, Chg.newGrow k4 c hw fun y hy => ?_⟩
      · rcases hF _ q with e | e
        · exact n8 e
        · exact u2 e.symm
      · rcases hF _ q with e | e
        · exact hne e.symm
        · exact u3 e.symm
      · rcases hF _ hy with e | e
        · subst e; exact o1
        · subst e; exact ou
      · rcases hF _ hy with e | e <;> omega
    have nu : u ∉ [rb] := by simpa using u1
    have nr : rb ∉ [u] := by simpa using fun e => u1 e.symm
    have f1 : ∀ y ∈ [rb], y = rb ∨ y = u := fun y hy => .inl (List.mem_singleton.1 hy)
    have f2 : ∀ y ∈ [u], y = rb ∨ y = u := fun y hy => .inr (List.mem_singleton.1 hy)
    obtain ⟨h13, p1, p2, p3, p4⟩ := au.sets K12.2.2.2.wf (i := 0) (us := [.str [], .str [], iv 0, iv 0]) (by simp) rfl
    have K13 := kp p3 f2 K12
    have r13 : RdAt h13 rb st se := Cl.chg r12 p3 nr
    have au : Cl h13 u [.str [], .str [], iv 0, iv 0] := p2
    refine WO.op (StepK.store rfl rfl rfl p1) (WO.nil (WC.seqO ?_))
    refine omv rfl ?_
    refine WO.call rfl rfl (rrtext_ans S.toStdM h13 K13.2.2.2.wf rb _ _ 1 r13 hby) ?_
    rintro v h14 ⟨rfl, r14, c14⟩
    have K14 := kp c14 f1 K13
    have au := au.chg c14 nu
    have b14 := (rtextF_byt (e := se) (w := 1) hby).2
    generalize rtextF st se 1 = a at *
    obtain ⟨a0', as', ae⟩ := a
    simp only at r14 b14 hre ⊢
    obtain ⟨h15, p1, p2, p3, p4⟩ := au.set K14.2.2.2.wf (i := 0) (v := .str a0') (by exact (by decide : 0 < 4)) rfl
    have K15 := kp p3 f2 K14
    have r15 : RdAt h15 rb as' ae := Cl.chg r14 p3 nr
    have au : Cl h15 u [.str a0', .str [], iv 0, iv 0] := p2
    refine ofa rfl ?_
    refine WO.op (StepK.store rfl rfl rfl p1) (WO.nil (WC.seqO ?_))
    refine omv rfl ?_
    refine WO.call rfl rfl (rbytes_ans S.toStdM h15 K15.2.2.2.wf rb _ _ 32 r15) ?_
    rintro v h16 ⟨rfl, r16, c16⟩
    have K16 := kp c16 f1 K15
    have au := au.chg c16 nu
    have b16 := (bytesF_byt (e := ae) (n := 32) b14).2
    generalize bytesF as' ae 32 = b at *
    obtain ⟨b0', bs, be⟩ := b
    simp only at r16 b16 hre ⊢
    obtain ⟨h17, p1, p2, p3, p4⟩ := au.set K16.2.2.2.wf (i := 1) (v := .str b0') (by exact (by decide : 1 < 4)) rfl
    have K17 := kp p3 f2 K16
    have r17 : RdAt h17 rb bs be := Cl.chg r16 p3 nr
    have au : Cl h17 u [.str a0', .str b0', iv 0, iv 0] := p2
    refine ofa rfl ?_
    refine WO.op (StepK.store rfl rfl rfl p1) (WO.nil (WC.seqO ?_))
    refine omv rfl ?_
    refine WO.call rfl rfl (rnumber_ans S.toStdM h17 K17.2.2.2.wf rb _ _ 2 r17 b16) ?_
    rintro v h18 ⟨rfl, r18, c18⟩
    have K18 := kp c18 f1 K17
    have au := au.chg c18 nu
    have b18 := numberF_byt (e := be) (w := 2) b16
    generalize numberF bs be 2 = c at *
    obtain ⟨c0', cs, ce⟩ := c
    simp only at r18 b18 hre ⊢
    obtain ⟨h19, p1, p2, p3, p4⟩ := au.set K18.2.2.2.wf (i := 2) (v := iv c0') (by exact (by decide : 2 < 4)) rfl
    have K19 := kp p3 f2 K18
    have r19 : RdAt h19 rb cs ce := Cl.chg r18 p3 nr
    have au : Cl h19 u [.str a0', .str b0', iv c0', iv 0] := p2
    refine ofa rfl ?_
    refine WO.op (StepK.store rfl rfl rfl p1) (WO.nil (WC.seqO ?_))
    refine omv rfl ?_
    refine WO.call rfl rfl (rnumber_ans S.toStdM h19 K19.2.2.2.wf rb _ _ 2 r19 b18) ?_
    rintro v h20 ⟨rfl, r20, c20⟩
    have K20 := kp c20 f1 K19
    have au := au.chg c20 nu
    have b20 := numberF_byt (e := ce) (w := 2) b18
    generalize numberF cs ce 2 = d at *
    obtain ⟨d0', ds⟩ := d
    simp only at r20 b20 hre ⊢
    obtain ⟨h21, p1, p2, p3, p4⟩ := au.set K20.2.2.2.wf (i := 3) (v := iv d0') (by exact (by decide : 3 < 4)) rfl
    have K21 := kp p3 f2 K20
    have r21 : RdAt h21 rb ds.1 ds.2 := Cl.chg r20 p3 nr
    have au : Cl h21 u (Ent.mk a0' b0' c0' d0').v := p2
    rw [hre] at hstep
    simp only at hstep
    refine ofa rfl ?_
    refine WO.op (StepK.store rfl rfl rfl p1) (WO.nil (WC.ops ?_))
    obtain ⟨a21, ab21, gx21, g21⟩ := K21
    have l21 : h21.rd b8 (0 + 1) = some x := a21.rd rfl
    refine ofa rfl <| old rfl l21 <| WO.ops (StepK.loadN rfl (au.rds (k := 4) rfl)) <| WO.ops (StepK.buildSl rfl rfl) ?_
    have gp := (Grow.refl g21.wf).push (.cells (Ent.mk a0' b0' c0' d0').v (.tip [] 0 none))
    have hnew : (h21.push (.cells (Ent.mk a0' b0' c0' d0').v (.tip [] 0 none))).get h21.size = some (.cells (Ent.mk a0' b0' c0' d0').v (.tip [] 0 none)) := get_push_self _ _
    have a22 := a21.grow gp
    have ab22 := ab21.grow gp
    have r22 : RdAt _ rb ds.1 ds.2 := Cl.grow r21 gp
    have gx22 := gx21.grow gp
    have g22 := g21.trans gp
    have lb8 := a22.lt gp.wf
    have lrb := Cl.lt r22 gp.wf
    have lb2 := ab22.lt gp.wf
    change WO C _ _ (h21.push (.cells (Ent.mk a0' b0' c0' d0').v (.tip [] 0 none))) _
    generalize h21.push (.cells (Ent.mk a0' b0' c0' d0').v (.tip [] 0 none)) = h22 at *
    obtain ⟨v, h23, q1, q2, q3, q4, q5⟩ := Grown.append2 (bytes := 48) (tyK := none) hw g22 gx22 (sl_one hnew (ent_len _)) (by decide) (by decide) (roomy48 (by simp; omega)) (by simpa using ent_one _)
    refine WO.ops (StepK.append rfl rfl q1) <| ofa rfl ?_
    have a23 := a22.frm q4 o2
    have ab23 := ab22.frm q4 o3
    have r23 : RdAt h23 rb ds.1 ds.2 := Cl.frm r22 q4 o1
    obtain ⟨h24, w1, w2, w3, w4⟩ := a23.set q3.wf (i := 1) (v := v) (by exact (by decide : 1 < 2)) q2.one
    have o1' := q5 rb lrb o1
    have o2' := q5 b8 lb8 o2
    have o3' := q5 b2 lb2 o3
    have hv1 : v.cellsOf = [v] := by have := q2.one; cases v <;> first | rfl | cases this
    refine WO.op (StepK.store (n := 1) rfl rfl (by rw [hv1]; rfl) (by rw [hv1]; exact w1)) (WO.nil (WC.ops ?_))
    refine omv rfl <| oad rfl rfl (by omega) <| omv rfl ?_
    refine WO.nil ⟨(p + 1, v), Cov.cons rfl (Cov.cons rfl (Cov.cons rfl (Cov.cons rfl (Cov.cons rfl (Cov.cons rfl (Cov.nil _)))))), ⟨Chg.newGrow q3 w3 hw (by simp only [List.mem_singleton]; rintro y rfl; omega), by simp only; omega, ?_, w2, ab23.chg w3 (by simpa using fun e => n82 e.symm), ?_, o1', o2', o3'⟩, by simp only; omega⟩
    · simp only [hstep]; exact Cl.chg r23 w3 (by simpa using fun e => n8 e.symm)
    · simp only [hstep, List.map_append]
      exact q2.chg w3 (by simpa using o2')
  have hc := of_decide_eq_false hc
  obtain rfl : p = k0 := by omega
  have hlenr := rdEnts_len p ks
  have hbyr := (rdEnts_byt p (st := ks) b12).1
  rw [← hdec] at hbd
  generalize rdEnts p ks = r at *
  obtain ⟨es, st, se⟩ := r
  simp only at r11 gx11 hbd hlenr hbyr
  have e3 : ¬ (endF st se = 0 ∧ codeF q0 es = 0 ∧ encF q0 es = s) → rdecF s = ⟨0, [], 3⟩ := fun q => by rw [hbd, if_neg q]
  have sx : Ents h11 x es := gx11.sl
  have ld : h11.rds b8 0 2 = some [iv q0, x] := a11.rds rfl
  refine WC.seqO (WO.ops (StepK.loadN rfl ld) ?_)
  refine WO.call rfl rfl (r13encode_ans S ho h11 g11.wf q0 x es sx (by omega) hbyr) ?_
  rintro v h12 ⟨rfl, g12⟩
  have ab12 := ab11.grow g12
  have ld := g12.rds ld
  have gx12 := gx11.grow g12
  have r12 : RdAt h12 rb st se := Cl.grow r11 g12
  have g12 := g11.trans g12
  refine omv rfl <| oex rfl rfl <| oex rfl rfl <| omv rfl <| omv rfl (WO.nil (WC.seq (WC.seqO ?_)))
  refine omv rfl ?_
  refine WO.call rfl rfl (rend_ans S.toStdM h12 g12.wf rb st se r12) ?_
  rintro v h13 ⟨rfl, g13⟩
  have ab13 := ab12.grow g13
  have ld := g13.rds ld
  have gx13 := gx12.grow g13
  have g13 := g12.trans g13
  refine obn rfl rfl rfl <| omv rfl ?_
  refine WO.splitG rfl (fun he => ?_) (fun he => ?_)
  · have he : endF st se ≠ 0 := by simpa using he
    refine WO.skip rfl rfl <| WO.skip rfl rfl <| opt rfl rfl <| omv rfl <| WO.skip rfl rfl <| WO.skip rfl rfl <| WO.skip rfl rfl <| opt rfl rfl ?_
    refine WO.nil (WC.condT rfl ?_)
    exact err 80 h13 _ b2 3 _ (by decide) (by decide) g13 hb2 ab13 rfl rfl (e3 (fun q => he q.1)) _ (fun _ _ q => q)
  have he : endF st se = 0 := by simpa using he
  refine WO.run rfl <| omv rfl <| WO.run rfl <| obn rfl rfl rfl <| opf rfl rfl <| omv rfl ?_
  refine WO.splitG rfl (fun hk => ?_) (fun hk => ?_)
  · have hk : codeF q0 es ≠ 0 := by simpa using hk
    refine WO.skip rfl rfl <| WO.skip rfl rfl <| WO.skip rfl rfl <| opt rfl rfl ?_
    refine WO.nil (WC.condT rfl ?_)
    exact err 80 h13 _ b2 3 _ (by decide) (by decide) g13 hb2 ab13 rfl rfl (e3 (fun q => hk q.2.1)) _ (fun _ _ q => q)
  have hk : codeF q0 es = 0 := by simpa using hk
  refine WO.run rfl <| omv rfl <| WO.run rfl <| omv rfl <| WO.run rfl <| obn rfl rfl (neq_str _ _) <| opf rfl rfl ?_
  refine WO.nil (WC.cond rfl (fun hq => ?_) (fun hq => WC.skip (WC.seqO ?_)))
  · refine err 80 h13 _ b2 3 _ (by decide) (by decide) g13 hb2 ab13 rfl rfl (e3 (fun q => ?_)) _ (fun _ _ q => q)
    rw [q.2.2, beqL_refl] at hq; cases hq
  have hq : encF q0 es = s := (beqL_iff _ _).1 (by simpa using hq)
  have hfin : rdecF s = ⟨q0, es, 0⟩ := by rw [hbd, if_pos ⟨he, hk, hq⟩]
  obtain ⟨h14, w1, w2, w3, w4⟩ := ab13.sets g13.wf (i := 0) (us := [iv q0, x]) (by simp) (by simp only [List.all_cons, List.all_nil, gx13.one, Bool.and_true]; rfl)
  have o3 : Off x b2 := o3
  refine WO.ops (StepK.loadN rfl ld) ?_
  refine WO.op (StepK.store rfl rfl rfl w1) ?_
  refine omv rfl ?_
  have w2 : Cl h14 b2 [iv q0, x] := w2
  refine WO.nil (WC.ret ⟨trivial, .tuple [.agg [iv q0, x], iv 0], ?_, fun n => ⟨x, by rw [hfin], (Chg.newGrow g13 w3 hw (by simpa using hb2)).low1 n, ?_⟩⟩)
  · have hl : loadA h14 (some 2) (.ptr (some (b2, 0))) = some (.agg [iv q0, x]) := by simp only [loadA, w2.rds (k := 2) rfl]
    exact (show retE _ h14 [.cell 2 (some 2), .tmp 3] = (match (match loadA h14 (some 2) (.ptr (some (b2, 0))), (some [iv 0] : Option (List V)) with | some v, some vs => some (v :: vs) | _, _ => none) with | some vs => some (oneOf vs) | none => none) from rfl).trans (by rw [hl]; rfl)
  · rw [hfin]
    exact (gx13.chg w3 (by simpa using o3)).same (fun _ => rfl)
end
end Abs
end Go.Proofs.YthdgjjggndfbhaaDoor
