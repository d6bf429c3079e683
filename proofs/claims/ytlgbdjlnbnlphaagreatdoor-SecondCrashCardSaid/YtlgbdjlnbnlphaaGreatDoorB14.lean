/- Blocks of a second cache as bytes: what clog.Check and clog.Encode answer. Blocks of a second cache as bytes: what clog.Decode answers. Blocks of a second cache as bytes: what is encoded is decoded as it was; with another digest it is refused. Plain: no program is in sight. -/
import Derived.Test.YtlgbdjlnbnlphaaGreatDoorB11
namespace Go.Proofs.YtlgbdjlnbnlphaaGreatDoor
namespace Abs
set_option linter.unusedVariables false
set_option linter.unusedSimpArgs false
open Go.RowKit
attribute [local irreducible] WO WC WD StepK Ans Does Runs DoesD

structure Ent where
  key : List Nat
  sum : List Nat
  len : Int
  loc : Int
def Ent.v (e : Ent) : List V := [.str e.key, .str e.sum, iv e.len, iv e.loc]
/-- A list of entries in memory. -/
def Ents (h : Heap) (x : V) (es : List Ent) : Prop := Sl h 4 x (es.map Ent.v)
def Ent.ok (e : Ent) : Prop := e.key ≠ [] ∧ e.key.length ≤ 60 ∧ e.sum.length = 32 ∧ (0 ≤ e.len ∧ e.len ≤ 960) ∧ (0 ≤ e.loc ∧ e.loc ≤ 511)
instance (e : Ent) : Decidable e.ok := inferInstanceAs (Decidable (_ ∧ _))
def blkOk (seq : Int) (es : List Ent) : Prop := (0 ≤ seq ∧ seq ≤ 1099511627776) ∧ es.length ≤ 7 ∧ ∀ e ∈ es, e.ok
instance (seq : Int) (es : List Ent) : Decidable (blkOk seq es) := inferInstanceAs (Decidable (_ ∧ _))
def Ent.byt (e : Ent) : Prop := Byt e.key ∧ Byt e.sum
def Ent.enc (e : Ent) : List Nat := textF e.key 1 ++ e.sum ++ putF e.len 2 ++ putF e.loc 2
def encH (seq : Int) (n : Nat) : List Nat := [80, 76] ++ putF seq 6 ++ putF n 1
def encT (seq : Int) (es : List Ent) : List Nat := encH seq es.length ++ (es.map Ent.enc).flatten
def encF (seq : Int) (es : List Ent) : List Nat := if blkOk seq es then encT seq es ++ ofF (encT seq es) else []
def codeF (seq : Int) (es : List Ent) : Int := if blkOk seq es then 0 else 1

theorem Ents.grow {h h' : Heap} {x : V} {es : List Ent} (s : Ents h x es) (g : Grow h h') : Ents h' x es := Sl.grow s g
theorem Ents.len {h : Heap} {x : V} {es : List Ent} (s : Ents h x es) : slLen x = some es.length := by
  have := Sl.len s
  rwa [List.length_map] at this
theorem Ents.at {h : Heap} {x : V} {es : List Ent} (s : Ents h x es) {i : Nat} (hi : i < es.length) : ∃ b o, idxSlA 4 x (iv i) = some (.ptr (some (b, o))) ∧ h.rds b o 4 = some es[i].v ∧ h.rd b (o + 0) = some (.str es[i].key) ∧ h.rd b (o + 1) = some (.str es[i].sum) ∧ h.rd b (o + 2) = some (iv es[i].len) ∧ h.rd b (o + 3) = some (iv es[i].loc) := by
  obtain ⟨b, o, q1, q2⟩ := Sl.at s (i := i) (by simpa using hi)
  rw [List.getElem_map] at q2
  exact ⟨b, o, q1, q2, rds_rd q2 (j := 0) rfl, rds_rd q2 (j := 1) rfl, rds_rd q2 (j := 2) rfl, rds_rd q2 (j := 3) rfl⟩
theorem ent_len (e : Ent) : e.v.length = 4 := rfl
theorem ent_one (e : Ent) : ∀ v ∈ e.v, V.one v = true := by
  intro v hv; simp only [Ent.v, List.mem_cons, List.not_mem_nil, or_false] at hv
  rcases hv with rfl | rfl | rfl | rfl <;> rfl
theorem putF_len {n w : Int} (h0 : 0 ≤ n) (h : n ≤ mostF w) : (putF n w).length = w.toNat := by
  unfold putF; rw [if_neg (by omega), leB_len]
theorem enc_len {e : Ent} (h : e.ok) : e.enc.length = 37 + e.key.length := by
  obtain ⟨h1, h2, h3, h4, h5⟩ := h
  have m1 : mostF 1 = 255 := rfl
  have m2 : mostF 2 = 65535 := rfl
  unfold Ent.enc textF
  rw [if_neg (by omega)]
  simp only [List.length_append]
  rw [putF_len (by omega) (by omega), putF_len h4.1 (by omega), putF_len h5.1 (by omega), h3]
  show 1 + e.key.length + 32 + 2 + 2 = _
  omega
theorem encH_len {seq : Int} {n : Nat} (h : 0 ≤ seq ∧ seq ≤ 1099511627776) (hn : n ≤ 7) : (encH seq n).length = 9 := by
  have m1 : mostF 1 = 255 := rfl
  have m6 : mostF 6 = 281474976710655 := rfl
  unfold encH
  simp only [List.length_append]
  rw [putF_len h.1 (by omega), putF_len (by omega) (by omega)]; rfl
theorem encs_len : ∀ (es : List Ent), (∀ e ∈ es, e.ok) → 38 * es.length ≤ ((es.map Ent.enc).flatten).length ∧ ((es.map Ent.enc).flatten).length ≤ 97 * es.length
  | [], _ => by simp
  | e :: es, h => by
    have h1 := enc_len (h e List.mem_cons_self)
    have h2 := encs_len es fun x hx => h x (List.mem_cons_of_mem _ hx)
    have h3 := h e List.mem_cons_self
    have h4 : 1 ≤ e.key.length := by
      rcases Nat.eq_zero_or_pos e.key.length with q | q
      · exact absurd (List.length_eq_zero_iff.1 q) h3.1
      · exact q
    have h5 := h3.2.1
    simp only [List.map_cons, List.flatten_cons, List.length_append, List.length_cons, h1]
    omega
theorem textF_byt {s : List Nat} {w : Int} (h : Byt s) : Byt (textF s w) := by
  unfold textF; split
  · exact Byt.nil
  · exact (putF_byt _ _).app h
theorem enc_byt {e : Ent} (h : e.byt) : Byt e.enc := (((textF_byt h.1).app h.2).app (putF_byt _ _)).app (putF_byt _ _)
theorem encs_byt : ∀ (es : List Ent), (∀ e ∈ es, e.byt) → Byt ((es.map Ent.enc).flatten)
  | [], _ => Byt.nil
  | e :: es, h => (enc_byt (h e List.mem_cons_self)).app (encs_byt es fun x hx => h x (List.mem_cons_of_mem _ hx))
theorem encH_byt (seq : Int) (n : Nat) : Byt (encH seq n) := by
  refine ((?_ : Byt [80, 76]).app (putF_byt _ _)).app (putF_byt _ _)
  intro b hb; simp at hb; omega

section
variable {C : Cfg} (S : StdO C)
include S

theorem cin_ans (h : Heap) (hw : Wf h) (n m : Int) : Ans C 69 [iv n, iv m] h fun v h' => v = .bool (decide (0 ≤ n ∧ n ≤ m)) ∧ Grow h h' := by
  have hF : C.F 69 = some a69 := S.f rfl
  unfold a69 at hF
  refine Ans.val (fun _ _ => S.s _ _ _ rfl) hF rfl rfl hw fun h2 g => ?_
  clear hF
  refine WC.seqO ?_
  refine omv rfl ?_
  refine WO.nil (WC.seqO ?_)
  refine omv rfl <| obn rfl rfl rfl <| omv rfl ?_
  refine WO.splitG rfl (fun hc => ?_) (fun hc => ?_)
  · have hc : n ≥ 0 := of_decide_eq_true hc
    refine WO.run rfl <| omv rfl <| WO.run rfl <| omv rfl <| WO.run rfl <| obn rfl rfl rfl <| opt rfl rfl <| omv rfl ?_
    refine WO.nil (WC.ret ⟨trivial, g, ?_⟩)
    show some (V.bool (decide (n ≤ m))) = some (.bool (decide (0 ≤ n ∧ n ≤ m)))
    congr 2
    exact decide_eq_decide.2 ⟨fun q => ⟨hc, q⟩, fun q => q.2⟩
  · have hc : ¬ n ≥ 0 := of_decide_eq_false hc
    refine WO.skip rfl rfl <| WO.skip rfl rfl <| WO.skip rfl rfl <| opf rfl rfl <| omv rfl ?_
    refine WO.nil (WC.ret ⟨trivial, g, ?_⟩)
    show some (V.bool false) = some (.bool (decide (0 ≤ n ∧ n ≤ m)))
    rw [decide_eq_false (by omega)]

theorem ccheck1_ans (h : Heap) (hw : Wf h) (e : Ent) : Ans C 68 [.agg e.v] h fun v h' => v = .bool (!decide e.ok) ∧ Grow h h' := by
  have hF : C.F 68 = some a68 := S.f rfl
  unfold a68 at hF
  refine Ans.val (fun _ _ => S.s _ _ _ rfl) hF rfl rfl hw fun h2 g => ?_
  clear hF
  have fin : ∀ (h3 : Heap) (e' : List (Nat × V)) (b : Bool), Grow h h3 → Env.get e' 2 = some (.bool b) → b = (!decide e.ok) → Fin .ret ∧ Grow h h3 ∧ retE e' h3 [.tmp 2] = some (.bool (!decide e.ok)) := by
    intro h3 e' b g3 he hb
    refine ⟨trivial, g3, ?_⟩
    simp only [retE, ressE, resE, he, oneOf, hb]
  refine WC.seqO ?_
  refine WO.ops (StepK.box rfl) <| omv rfl ?_
  have a := Cl.new h2 e.v none
  have g3 := g.push (.cells e.v (.tip [] 0 none))
  change WO C _ _ (h2.push (.cells e.v (.tip [] 0 none))) _
  generalize h2.push (.cells e.v (.tip [] 0 none)) = h3 at *
  generalize h2.size = b at *
  have l0 : h3.rd b (0 + 0) = some (.str e.key) := a.rd rfl
  have l1 : h3.rd b (0 + 1) = some (.str e.sum) := a.rd rfl
  have l2 : h3.rd b (0 + 2) = some (iv e.len) := a.rd rfl
  have l3 : h3.rd b (0 + 3) = some (iv e.loc) := a.rd rfl
  refine WO.nil (WC.seqO ?_)
  refine ofa rfl <| old rfl l0 <| obn rfl rfl rfl <| omv rfl ?_
  refine WO.splitG rfl (fun hc => ?_) (fun hc => ?_)
  · have hc : e.key = [] := (beqL_iff _ _).1 hc
    refine WO.skip rfl rfl <| WO.skip rfl rfl <| WO.skip rfl rfl <| WO.skip rfl rfl <| opt rfl rfl <| omv rfl <| WO.skip rfl rfl <| WO.skip rfl rfl <| WO.skip rfl rfl <| WO.skip rfl rfl <| opt rfl rfl <| omv rfl <| WO.skip rfl rfl <| WO.skip rfl rfl <| WO.skip rfl rfl <| WO.skip rfl rfl <| opt rfl rfl <| omv rfl <| WO.skip rfl rfl <| WO.skip rfl rfl <| WO.skip rfl rfl <| WO.skip rfl rfl <| opt rfl rfl <| omv rfl ?_
    exact WO.nil (WC.ret (fin _ _ true g3 rfl (by rw [decide_eq_false (fun q => q.1 hc)]; rfl)))
  have hc : e.key ≠ [] := fun q => by rw [q] at hc; cases hc
  refine WO.run rfl <| ofa rfl <| WO.run rfl <| old rfl l0 ?_
  refine WO.run rfl <| olt rfl <| WO.run rfl <| obn rfl rfl rfl <| opf rfl rfl <| omv rfl ?_
  refine WO.splitG rfl (fun hc2 => ?_) (fun hc2 => ?_)
  · have hc2 := of_decide_eq_true hc2
    refine WO.skip rfl rfl <| WO.skip rfl rfl <| WO.skip rfl rfl <| WO.skip rfl rfl <| opt rfl rfl <| omv rfl <| WO.skip rfl rfl <| WO.skip rfl rfl <| WO.skip rfl rfl <| WO.skip rfl rfl <| opt rfl rfl <| omv rfl <| WO.skip rfl rfl <| WO.skip rfl rfl <| WO.skip rfl rfl <| WO.skip rfl rfl <| opt rfl rfl <| omv rfl ?_
    exact WO.nil (WC.ret (fin _ _ true g3 rfl (by rw [decide_eq_false (fun q => by have := q.2.1; omega)]; rfl)))
  have hc2 := of_decide_eq_false hc2
  refine WO.run rfl <| ofa rfl <| WO.run rfl <| old rfl l1 ?_
  refine WO.run rfl <| olt rfl <| WO.run rfl <| obn rfl rfl rfl <| opf rfl rfl <| omv rfl ?_
  refine WO.splitG rfl (fun hc3 => ?_) (fun hc3 => ?_)
  · have hc3 : (e.sum.length : Int) ≠ 32 := by simpa using hc3
    refine WO.skip rfl rfl <| WO.skip rfl rfl <| WO.skip rfl rfl <| WO.skip rfl rfl <| opt rfl rfl <| omv rfl <| WO.skip rfl rfl <| WO.skip rfl rfl <| WO.skip rfl rfl <| WO.skip rfl rfl <| opt rfl rfl <| omv rfl ?_
    exact WO.nil (WC.ret (fin _ _ true g3 rfl (by rw [decide_eq_false (fun q => by have := q.2.2.1; omega)]; rfl)))
  have hc3 : (e.sum.length : Int) = 32 := by simpa using hc3
  refine WO.run rfl <| ofa rfl <| WO.run rfl <| old rfl l2 ?_
  refine WO.run rfl ?_
  refine WO.call rfl rfl (cin_ans S h3 g3.wf e.len 960) ?_
  rintro v h4 ⟨rfl, g4⟩
  refine WO.run rfl <| ont rfl <| opf rfl rfl <| omv rfl ?_
  refine WO.splitG rfl (fun hc4 => ?_) (fun hc4 => ?_)
  · have hc4 : ¬ (0 ≤ e.len ∧ e.len ≤ 960) := by intro q; rw [decide_eq_true q] at hc4; cases hc4
    refine WO.skip rfl rfl <| WO.skip rfl rfl <| WO.skip rfl rfl <| WO.skip rfl rfl <| opt rfl rfl <| omv rfl ?_
    exact WO.nil (WC.ret (fin _ _ true (g3.trans g4) rfl (by rw [decide_eq_false (fun q => hc4 q.2.2.2.1)]; rfl)))
  have hc4 : (0 ≤ e.len ∧ e.len ≤ 960) := by simpa using hc4
  have l3 : h4.rd b (0 + 3) = some (iv e.loc) := g4.rd l3
  refine WO.run rfl <| ofa rfl <| WO.run rfl <| old rfl l3 ?_
  refine WO.run rfl ?_
  refine WO.call rfl rfl (cin_ans S h4 g4.wf e.loc 511) ?_
  rintro v h5 ⟨rfl, g5⟩
  refine WO.run rfl <| ont rfl <| opf rfl rfl <| omv rfl ?_
  refine WO.nil (WC.ret (fin _ _ _ ((g3.trans g4).trans g5) rfl ?_))
  congr 1
  refine decide_eq_decide.2 ⟨fun q => ⟨hc, by omega, by omega, hc4, q⟩, fun q => q.2.2.2.2⟩

theorem cif_ans (h : Heap) (hw : Wf h) (x : V) (es : List Ent) (s : Ents h x es) (hn : es.length ≤ 1000000000) : Ans C 88 [x, .func (.func 68) [] []] h fun v h' => (∃ i : Int, v = iv i ∧ decide (i ≥ 0) = es.any (fun e => !decide e.ok)) ∧ Grow h h' := by
  have hF : C.F 88 = some a88 := S.f rfl
  unfold a88 at hF
  refine Ans.fn (fun _ _ => S.s _ _ _ rfl) hF rfl rfl hw fun h2 g => ?_
  clear hF
  have fin : ∀ (h3 : Heap) (x : Ex) (e' : List (Nat × V)) (i : Int), Fin x → Grow h h3 → Env.get e' 4 = some (iv i) → decide (i ≥ 0) = es.any (fun e => !decide e.ok) → Fin x ∧ Wf h3 ∧ ∃ v, retE e' h3 [.tmp 4] = some v ∧ (∀ h4, Grow h3 h4 → (∃ i : Int, v = iv i ∧ decide (i ≥ 0) = es.any (fun e => !decide e.ok)) ∧ Grow h h4) ∧ (v.scopd h.size = true → (∃ i : Int, v = iv i ∧ decide (i ≥ 0) = es.any (fun e => !decide e.ok)) ∧ Grow h h) := by
    intro h3 x e' i hx g3 he hi
    refine ⟨hx, g3.wf, iv i, ?_, fun h4 g4 => ⟨⟨i, rfl, hi⟩, g3.trans g4⟩, fun _ => ⟨⟨i, rfl, hi⟩, Grow.refl hw⟩⟩
    simp only [retE, ressE, resE, he, oneOf]
  have s2 := s.grow g
  refine WC.seqO ?_
  refine omv rfl ?_
  refine WO.nil (WC.seq (WC.seqO ?_))
  refine omv rfl <| ols rfl s2.len <| omv rfl ?_
  refine WO.nil (WC.block ?_)
  refine WC.loop (σ := Nat) (fun p => [(0, x), (1, .func (.func 68) [] []), (7, iv es.length), (8, iv p)]) (fun p h' => Grow h h' ∧ p ≤ es.length ∧ es.any (fun e => !decide e.ok) = (es.drop p).any (fun e => !decide e.ok)) (fun p => es.length - p) 0 (Cov.cons rfl (Cov.cons rfl (Cov.cons rfl (Cov.cons rfl (Cov.nil _))))) ⟨g, by omega, rfl⟩ ?_
  rintro p h3 ⟨g3, hp, hany⟩
  refine WC.seqO (obn rfl rfl rfl (WO.nil (WC.seq ?_)))
  refine WC.cond rfl (fun hc => WC.skip ?_) (fun hc => WC.exit ?_)
  · have hc := of_decide_eq_true hc
    have hp : p < es.length := by omega
    obtain ⟨b, o, q1, q2, _⟩ := (s.grow g3).at hp
    refine WC.seq (WC.block (WC.seqO ?_))
    refine omv rfl <| omv rfl ?_
    refine WO.nil (WC.seqO ?_)
    refine omv rfl <| omv rfl <| omv rfl <| WO.ops (StepK.idxSl rfl rfl q1) <| WO.ops (StepK.loadN rfl q2) ?_
    refine WO.call rfl rfl (ccheck1_ans S h3 g3.wf es[p]) ?_
    rintro v h4 ⟨rfl, g4⟩
    have g4 := g3.trans g4
    have hdrop : (es.drop p).any (fun e => !decide e.ok) = ((!decide es[p].ok) || (es.drop (p + 1)).any (fun e => !decide e.ok)) := by
      rw [List.drop_eq_getElem_cons hp, List.any_cons]
    refine WO.nil (WC.cond rfl (fun hc2 => WC.seqO ?_) (fun hc2 => WC.skip ?_))
    · refine omv rfl <| omv rfl ?_
      refine WO.nil (WC.ret (fin _ _ _ p trivial g4 rfl ?_))
      rw [hany, hdrop, hc2, decide_eq_true (by omega)]; rfl
    · refine WC.ops ?_
      refine oad rfl rfl (by omega) <| omv rfl ?_
      refine WO.nil ⟨p + 1, Cov.cons rfl (Cov.cons rfl (Cov.cons rfl (Cov.cons rfl (Cov.nil _)))), ⟨g4, by omega, ?_⟩, by omega⟩
      rw [hany, hdrop, hc2]; rfl
  · have hc := of_decide_eq_false hc
    obtain rfl : p = es.length := by omega
    refine WC.seqO ?_
    refine omv rfl ?_
    refine WO.nil (WC.ret (fin _ _ _ (-1) trivial g3 rfl ?_))
    rw [hany, List.drop_length]; rfl

theorem ccf_ans (h : Heap) (hw : Wf h) (x : V) (es : List Ent) (s : Ents h x es) (hn : es.length ≤ 1000000000) : Ans C 70 [x, .func (.func 68) [] []] h fun v h' => v = .bool (es.any (fun e => !decide e.ok)) ∧ Grow h h' := by
  have hF : C.F 70 = some a70 := S.f rfl
  unfold a70 at hF
  refine Ans.val (fun _ _ => S.s _ _ _ rfl) hF rfl rfl hw fun h2 g => ?_
  clear hF
  refine WC.seqO ?_
  refine omv rfl ?_
  refine WO.nil (WC.seqO ?_)
  refine omv rfl <| omv rfl ?_
  refine WO.call rfl rfl (cif_ans S h2 g.wf x es (s.grow g) hn) ?_
  rintro v h3 ⟨⟨i, rfl, hi⟩, g3⟩
  refine obn rfl rfl rfl <| omv rfl ?_
  refine WO.nil (WC.ret ⟨trivial, g.trans g3, ?_⟩)
  show some (V.bool (decide (i ≥ 0))) = _
  rw [hi]

theorem ccheck_ans (h : Heap) (hw : Wf h) (seq : Int) (x : V) (es : List Ent) (s : Ents h x es) (hn : es.length ≤ 1000000000) : Ans C 52 [.agg [iv seq, x]] h fun v h' => v = iv (codeF seq es) ∧ Grow h h' := by
  have hF : C.F 52 = some a52 := S.f rfl
  unfold a52 at hF
  refine Ans.val (fun _ _ => S.s _ _ _ rfl) hF rfl rfl hw fun h2 g => ?_
  clear hF
  have bad : ¬ blkOk seq es → codeF seq es = 1 := fun q => by unfold codeF; rw [if_neg q]
  refine WC.seqO ?_
  refine WO.ops (StepK.box rfl) <| omv rfl ?_
  have a := Cl.new h2 [iv seq, x] none
  have g3 := g.push (.cells [iv seq, x] (.tip [] 0 none))
  change WO C _ _ (h2.push (.cells [iv seq, x] (.tip [] 0 none))) _
  generalize h2.push (.cells [iv seq, x] (.tip [] 0 none)) = h3 at *
  generalize h2.size = b at *
  have l0 : h3.rd b (0 + 0) = some (iv seq) := a.rd rfl
  have l1 : h3.rd b (0 + 1) = some x := a.rd rfl
  refine WO.nil (WC.seqO ?_)
  refine omv rfl ?_
  refine WO.nil (WC.seq (WC.seqO ?_))
  refine ofa rfl <| old rfl l0 ?_
  refine WO.call rfl rfl (cin_ans S h3 g3.wf seq 1099511627776) ?_
  rintro v h4 ⟨rfl, g4⟩
  have l1 : h4.rd b (0 + 1) = some x := g4.rd l1
  have g4 := g3.trans g4
  have s4 := s.grow g4
  refine ont rfl <| omv rfl ?_
  refine WO.splitG rfl (fun hc => ?_) (fun hc => ?_)
  · have hc : ¬ (0 ≤ seq ∧ seq ≤ 1099511627776) := by intro q; rw [decide_eq_true q] at hc; cases hc
    refine WO.skip rfl rfl <| WO.skip rfl rfl <| WO.skip rfl rfl <| WO.skip rfl rfl <| opt rfl rfl <| omv rfl <| WO.skip rfl rfl <| WO.skip rfl rfl <| WO.skip rfl rfl <| WO.skip rfl rfl <| opt rfl rfl ?_
    refine WO.nil (WC.condT rfl (WC.seqO ?_))
    refine omv rfl ?_
    refine WO.nil (WC.ret ⟨trivial, g4, ?_⟩)
    show some (iv 1) = some (iv _); rw [bad (fun q => hc q.1)]
  have hc : (0 ≤ seq ∧ seq ≤ 1099511627776) := by simpa using hc
  refine WO.run rfl <| ofa rfl <| WO.run rfl <| old rfl l1 <| WO.run rfl <| ols rfl s4.len ?_
  refine WO.run rfl <| obn rfl rfl rfl <| opf rfl rfl <| omv rfl ?_
  refine WO.splitG rfl (fun hc2 => ?_) (fun hc2 => ?_)
  · have hc2 := of_decide_eq_true hc2
    refine WO.skip rfl rfl <| WO.skip rfl rfl <| WO.skip rfl rfl <| WO.skip rfl rfl <| opt rfl rfl ?_
    refine WO.nil (WC.condT rfl (WC.seqO ?_))
    refine omv rfl ?_
    refine WO.nil (WC.ret ⟨trivial, g4, ?_⟩)
    show some (iv 1) = some (iv _); rw [bad (fun q => by have := q.2.1; omega)]
  have hc2 := of_decide_eq_false hc2
  refine WO.run rfl <| ofa rfl <| WO.run rfl <| old rfl l1 <| WO.run rfl <| omv rfl <| WO.run rfl ?_
  refine WO.call rfl rfl (ccf_ans S h4 g4.wf x es s4 hn) ?_
  rintro v h5 ⟨rfl, g5⟩
  have g5 := g4.trans g5
  refine opf rfl rfl ?_
  refine WO.nil (WC.cond rfl (fun hc3 => WC.seqO ?_) (fun hc3 => WC.skip (WC.seqO ?_)))
  · refine omv rfl ?_
    refine WO.nil (WC.ret ⟨trivial, g5, ?_⟩)
    have hno : ¬ blkOk seq es := by
      intro q
      obtain ⟨e, he, hne⟩ := List.any_eq_true.1 hc3
      rw [decide_eq_true (q.2.2 e he)] at hne; cases hne
    show some (iv 1) = some (iv _); rw [bad hno]
  · refine omv rfl ?_
    refine WO.nil (WC.ret ⟨trivial, g5, ?_⟩)
    have hok : blkOk seq es := ⟨hc, by omega, fun e he => by
      have := List.any_eq_false.1 hc3 e he
      simpa using this⟩
    show some (iv 0) = some (iv _)
    unfold codeF; rw [if_pos hok]

theorem cencode_ans (h : Heap) (hw : Wf h) (hr : Ro h) (seq : Int) (x : V) (es : List Ent) (s : Ents h x es) (hn : es.length ≤ 1000000000) (hb : ∀ e ∈ es, e.byt) : Ans C 37 [.agg [iv seq, x]] h fun v h' => v = .tuple [.str (encF seq es), iv (codeF seq es)] ∧ Grow h h' := by
  have hF : C.F 37 = some a37 := S.f rfl
  unfold a37 at hF
  refine Ans.val (fun _ _ => S.s _ _ _ rfl) hF rfl rfl hw fun h2 g => ?_
  clear hF
  refine WC.seqO ?_
  refine WO.ops (StepK.box rfl) <| omv rfl <| omv rfl ?_
  have a := Cl.new h2 [iv seq, x] none
  have g3 := g.push (.cells [iv seq, x] (.tip [] 0 none))
  change WO C _ _ (h2.push (.cells [iv seq, x] (.tip [] 0 none))) _
  generalize h2.push (.cells [iv seq, x] (.tip [] 0 none)) = h3 at *
  generalize h2.size = b at *
  refine WO.nil (WC.seq (WC.seqO ?_))
  refine WO.ops (StepK.loadN rfl (a.rds rfl)) ?_
  refine WO.call rfl rfl (ccheck_ans S h3 g3.wf seq x es (s.grow g3) hn) ?_
  rintro v h4 ⟨rfl, g4⟩
  have a := a.grow g4
  have g4 := g3.trans g4
  refine omv rfl ?_
  refine WO.nil (WC.seqO ?_)
  refine omv rfl <| obn rfl rfl rfl ?_
  refine WO.nil (WC.cond rfl (fun hc => WC.seqO ?_) (fun hc => WC.skip (WC.seqO ?_)))
  · have hc : codeF seq es ≠ 0 := by simpa using hc
    refine omv rfl <| omv rfl <| omv rfl ?_
    refine WO.nil (WC.ret ⟨trivial, g4, ?_⟩)
    have hno : ¬ blkOk seq es := fun q => hc (by unfold codeF; rw [if_pos q])
    show some (V.tuple [.str [], iv (codeF seq es)]) = _
    unfold encF; rw [if_neg hno]
  have hcode : codeF seq es = 0 := by simpa using hc
  clear hc
  have hok : blkOk seq es := by
    have hc := hcode
    unfold codeF at hc; split at hc
    · assumption
    · cases hc
  have m1 : mostF 1 = 255 := rfl
  have m2 : mostF 2 = 65535 := rfl
  have m6 : mostF 6 = 281474976710655 := rfl
  obtain ⟨o1, o2, o3⟩ := hok
  refine WO.ops StepK.alloc (WO.nil (WC.seqD ?_))
  have d0 := Bld.new h4
  have g5 := g4.push (.cells [.ptr none, .slice none 0 0] (.tip [] 0 (some 106)))
  have a := a.grow ((Grow.refl g4.wf).push (.cells [.ptr none, .slice none 0 0] (.tip [] 0 (some 106))))
  change WD C _ _ _ _ (h4.push (.cells [.ptr none, .slice none 0 0] (.tip [] 0 (some 106)))) _
  have hs4 := g4.size
  generalize h4.push (.cells [.ptr none, .slice none 0 0] (.tip [] 0 (some 106))) = h5 at *
  generalize h4.size = d at *
  have l0 : h5.rd b (0 + 0) = some (iv seq) := a.rd rfl
  have l1 : h5.rd b (0 + 1) = some x := a.rd rfl
  have s5 := s.grow g5
  refine dfa rfl ?_
  refine WD.load1 rfl l0 ?_
  refine dfa rfl ?_
  refine WD.load1 rfl l1 ?_
  refine dls rfl s5.len ?_
  refine WD.call (by repeat (first | exact trivial | refine ⟨by with_reducible assumption, ?_⟩)) rfl rfl (put_ans S.toStdM h5 g5.wf seq 6) ?_
  rintro v h6 ⟨rfl, g6⟩
  have k0 : h6.rd b (0 + 0) = some (iv seq) := g6.rd l0
  have k1 : h6.rd b (0 + 1) = some x := g6.rd l1
  have e1 : (putF seq 6).length = 6 := putF_len o1.1 (by omega)
  have e2 : (putF es.length 1).length = 1 := putF_len (by omega) (by omega)
  refine dbn rfl rfl (add_str (by simp [e1])) ?_
  refine WD.call (by repeat (first | exact trivial | refine ⟨by with_reducible assumption, ?_⟩)) rfl rfl (put_ans S.toStdM h6 g6.wf es.length 1) ?_
  rintro v h7 ⟨rfl, g7⟩
  have j0 : h7.rd b (0 + 0) = some (iv seq) := g7.rd k0
  have j1 : h7.rd b (0 + 1) = some x := g7.rd k1
  refine dbn rfl rfl (add_str (by simp [e1, e2])) ?_
  have g67 := g6.trans g7
  have d7 := d0.grow g67
  refine WD.call (by repeat (first | exact trivial | refine ⟨by with_reducible assumption, ?_⟩)) rfl rfl (bwstr_ans S.toStdL h7 g7.wf [d] d [] _ d7 (by simp [e1, e2])) ?_
  rintro v h8 ⟨F, d8, c8, cm8⟩
  have g7' := g5.trans g67
  have g8 := Chg.newGrow g7' c8 hw (by simpa using hs4)
  have hF8 : ∀ y ∈ F, h.size ≤ y := fun y hy => by
    rcases cm8 y hy with q | q
    · obtain rfl := List.mem_singleton.1 q; exact hs4
    · have := g7'.size; omega
  have hbd : b ≠ d := by
    rintro rfl
    obtain ⟨ty, q⟩ := a
    obtain ⟨a', x', q1, q2, _⟩ := d0
    rw [q1] at q; cases q
  have a8 : Cl h8 b [iv seq, x] := (a.grow g67).chg c8 (by simpa using hbd)
  have i0 : h8.rd b (0 + 0) = some (iv seq) := a8.rd rfl
  have i1 : h8.rd b (0 + 1) = some x := a8.rd rfl
  refine WD.nil (by repeat (first | exact trivial | refine ⟨by with_reducible assumption, ?_⟩)) (WC.seq (WC.seqO ?_))
  refine ofa rfl <| old rfl i1 <| ols rfl s5.len <| omv rfl ?_
  refine WO.nil (WC.block ?_)
  have hdH : [] ++ ([80, 76] ++ putF seq 6 ++ putF (es.length : Int) 1) = encH seq es.length := rfl
  rw [hdH] at d8
  have hHl := encH_len (n := es.length) o1 o2
  refine WC.loop (σ := Nat) (fun p => [(5, .ptr (some (d, 0))), (24, x), (25, iv es.length), (26, iv p)]) (fun p h' => Grow h h' ∧ p ≤ es.length ∧ ∃ F, Bld h' F d (encH seq es.length ++ ((es.take p).map Ent.enc).flatten) ∧ ∀ y ∈ F, h.size ≤ y) (fun p => es.length - p) 0 (Cov.cons rfl (Cov.cons rfl (Cov.cons rfl (Cov.cons rfl (Cov.nil _))))) ⟨g8, by omega, F, by simpa using d8, hF8⟩ ?_
  clear d8 hF8 cm8 c8 a8
  rintro p h9 ⟨g9, hp, F9, d9, hF9⟩
  have hpl := encs_len (es.take p) (fun e he => o3 e (List.mem_of_mem_take he))
  have htl : (es.take p).length = p := by rw [List.length_take]; omega
  refine WC.seqO (obn rfl rfl rfl (WO.nil (WC.seq ?_)))
  refine WC.cond rfl (fun hc => WC.skip ?_) (fun hc => WC.exit ?_)
  · have hc := of_decide_eq_true hc
    have hp : p < es.length := by omega
    obtain ⟨c, o, q1, q2, _⟩ := (s.grow g9).at hp
    have hoke := o3 es[p] (List.getElem_mem hp)
    have hbe := hb es[p] (List.getElem_mem hp)
    have hencl := enc_len hoke
    have htake : es.take (p + 1) = es.take p ++ [es[p]] := by rw [List.take_succ_eq_append_getElem hp]
    obtain ⟨t1, t2, t3, t4, t5⟩ := hoke
    generalize es[p] = e at *
    refine WC.seq (WC.block (WC.seqO ?_))
    refine WO.ops (StepK.idxSl rfl rfl q1) <| WO.ops (StepK.loadN rfl q2) <| WO.ops StepK.alloc ?_
    have ae := Cl.new h9 [.str [], .str [], iv 0, iv 0] none
    have ge := (Grow.refl g9.wf).push (.cells [.str [], .str [], iv 0, iv 0] (.tip [] 0 none))
    have hs9 := g9.size
    have hlF := d9.lows g9.wf
    have d10 := d9.grow ge
    change WO C _ _ (h9.push (.cells [.str [], .str [], iv 0, iv 0] (.tip [] 0 none))) _
    generalize h9.push (.cells [.str [], .str [], iv 0, iv 0] (.tip [] 0 none)) = h10 at *
    obtain ⟨h11, w1, w2, w3, w4⟩ := ae.sets ge.wf (i := 0) (us := e.v) (by simp [Ent.v]) (by rw [List.all_eq_true]; exact ent_one e)
    have hnew : h9.size ∉ F9 := fun q => by have := hlF _ q; omega
    have d11 := d10.chg w3 (fun y hy hy2 => by obtain rfl := List.mem_singleton.1 hy2; exact hnew hy)
    have g10 := g9.trans ge
    have g11 := Chg.newGrow g10 w3 hw (by simpa using hs9)
    have w2 : Cl h11 h9.size e.v := w2
    generalize h9.size = u at *
    refine WO.op (StepK.store rfl rfl rfl w1) ?_
    refine WO.nil (WC.draw ?_)
    have u0 : h11.rd u (0 + 0) = some (.str e.key) := w2.rd rfl
    have u1 : h11.rd u (0 + 1) = some (.str e.sum) := w2.rd rfl
    have u2 : h11.rd u (0 + 2) = some (iv e.len) := w2.rd rfl
    have u3 : h11.rd u (0 + 3) = some (iv e.loc) := w2.rd rfl
    refine dfa rfl ?_
    refine WD.load1 rfl u0 ?_
    refine dfa rfl ?_
    refine WD.load1 rfl u1 ?_
    refine dfa rfl ?_
    refine WD.load1 rfl u2 ?_
    refine dfa rfl ?_
    refine WD.load1 rfl u3 ?_
    have lt : (textF e.key 1).length = 1 + e.key.length := by
      unfold textF; rw [if_neg (by omega), List.length_append, putF_len (by omega) (by omega)]; rfl
    have l2 : (putF e.len 2).length = 2 := putF_len t4.1 (by omega)
    have l3 : (putF e.loc 2).length = 2 := putF_len t5.1 (by omega)
    refine WD.call (by repeat (first | exact trivial | refine ⟨by with_reducible assumption, ?_⟩)) rfl rfl (text_ans S.toStdM h11 g11.wf e.key 1 (by omega)) ?_
    rintro v h12 ⟨rfl, g12⟩
    have v0 := g12.rd u0
    have v1 := g12.rd u1
    have v2 := g12.rd u2
    have v3 := g12.rd u3
    refine dbn rfl rfl (add_str (by omega)) ?_
    refine WD.call (by repeat (first | exact trivial | refine ⟨by with_reducible assumption, ?_⟩)) rfl rfl (put_ans S.toStdM h12 g12.wf e.len 2) ?_
    rintro v h13 ⟨rfl, g13⟩
    have x0 := g13.rd v0
    have x1 := g13.rd v1
    have x2 := g13.rd v2
    have x3 := g13.rd v3
    refine dbn rfl rfl (add_str (by simp only [List.length_append]; omega)) ?_
    refine WD.call (by repeat (first | exact trivial | refine ⟨by with_reducible assumption, ?_⟩)) rfl rfl (put_ans S.toStdM h13 g13.wf e.loc 2) ?_
    rintro v h14 ⟨rfl, g14⟩
    have y0 := g14.rd x0
    have y1 := g14.rd x1
    have y2 := g14.rd x2
    have y3 := g14.rd x3
    refine dbn rfl rfl (add_str (by simp only [List.length_append]; omega)) ?_
    have g1234 := (g12.trans g13).trans g14
    have d14 := d11.grow g1234
    have g14' := g11.trans g1234
    have hfold : textF e.key 1 ++ e.sum ++ putF e.len 2 ++ putF e.loc 2 = e.enc := rfl
    rw [hfold]
    refine WD.call (by repeat (first | exact trivial | refine ⟨by with_reducible assumption, ?_⟩)) rfl rfl (bwstr_ans S.toStdL h14 g14'.wf F9 d _ e.enc d14 (by rw [List.length_append]; omega)) ?_
    rintro v h15 ⟨F15, d15, c15, cm15⟩
    have g15 := Chg.newGrow g14' c15 hw hF9
    have w15 := (w2.grow g1234).chg c15 hnew
    have z0 : h15.rd u (0 + 0) = some (.str e.key) := w15.rd rfl
    have z1 : h15.rd u (0 + 1) = some (.str e.sum) := w15.rd rfl
    have z2 : h15.rd u (0 + 2) = some (iv e.len) := w15.rd rfl
    have z3 : h15.rd u (0 + 3) = some (iv e.loc) := w15.rd rfl
    refine WD.nil (by repeat (first | exact trivial | refine ⟨by with_reducible assumption, ?_⟩)) (WC.ops ?_)
    refine oad rfl rfl (by omega) <| omv rfl ?_
    refine WO.nil ⟨p + 1, Cov.cons rfl (Cov.cons rfl (Cov.cons rfl (Cov.cons rfl (Cov.nil _)))), ⟨g15, by omega, F15, ?_, fun y hy => ?_⟩, by omega⟩
    · rw [htake, List.map_append, List.flatten_append, ← List.append_assoc]
      simpa using d15
    · rcases cm15 y hy with q | q
      · exact hF9 y q
      · have := g14'.size; omega
  have hc := of_decide_eq_false hc
  obtain rfl : p = es.length := by omega
  rw [List.take_length] at d9 hpl
  have hT : encH seq es.length ++ (es.map Ent.enc).flatten = encT seq es := rfl
  rw [hT] at d9
  have hTb : Byt (encT seq es) := (encH_byt _ _).app (encs_byt es hb)
  have hTl : (encT seq es).length ≤ 700 := by unfold encT; rw [List.length_append]; omega
  refine WC.seqO ?_
  refine WO.call rfl rfl (bstr_ans S.toStdL h9 g9.wf F9 d _ d9 hTb (by omega)) ?_
  rintro v h10 ⟨rfl, d10, c10⟩
  have g10 := Chg.newGrow g9 c10 hw hF9
  refine WO.call rfl rfl (bstr_ans S.toStdL h10 g10.wf F9 d _ d10 hTb (by omega)) ?_
  rintro v h11 ⟨rfl, d11, c11⟩
  have g11 := Chg.newGrow g10 c11 hw hF9
  refine WO.call rfl rfl (Ans.sum (R := fun v h' => v = .str (ofF (encT seq es)) ∧ h' = h11) (S.of h11 _ (by omega) (hr.grow g11)) ⟨rfl, rfl⟩) ?_
  rintro v h12 ⟨rfl, rfl⟩
  refine obn rfl rfl (add_str (by rw [ofF_len]; omega)) <| omv rfl <| omv rfl ?_
  refine WO.nil (WC.ret ⟨trivial, g11, ?_⟩)
  show some (V.tuple [.str (encT seq es ++ ofF (encT seq es)), iv 0]) = _
  unfold encF; rw [if_pos ⟨o1, o2, o3⟩, hcode]
end
end Abs
end Go.Proofs.YtlgbdjlnbnlphaaGreatDoor
namespace Go.Proofs.YtlgbdjlnbnlphaaGreatDoor
namespace Abs
set_option linter.unusedVariables false
set_option linter.unusedSimpArgs false
open Go.RowKit
attribute [local irreducible] WO WC WD StepK Ans Does Runs DoesD

def rdEnt (st : List Nat × Int) : Ent × (List Nat × Int) :=
  let a := rtextF st.1 st.2 1
  let b := bytesF a.2.1 a.2.2 32
  let c := numberF b.2.1 b.2.2 2
  let d := numberF c.2.1 c.2.2 2
  (⟨a.1, b.1, c.1, d.1⟩, d.2)
def rdEnts : Nat → List Nat × Int → List Ent × (List Nat × Int)
  | 0, st => ([], st)
  | k + 1, st => let r := rdEnts k st; let e := rdEnt r.2; (r.1 ++ [e.1], e.2)
/-- The digest's place. -/
def cutF (s : List Nat) : List Nat := s.take (s.length - 32)
def digF (s : List Nat) : List Nat := s.drop (s.length - 32)
structure Dec where
  seq : Int
  es : List Ent
  code : Int
def dbodyF (t : List Nat) : Dec :=
  let m := bytesF t 0 2
  let q := numberF m.2.1 m.2.2 6
  let k := numberF q.2.1 q.2.2 1
  let r := rdEnts k.1 k.2
  if m.1 = [80, 76] ∧ endF r.2.1 r.2.2 = 0 ∧ blkOk q.1 r.1 then ⟨q.1, r.1, 0⟩ else ⟨0, [], 3⟩
def decF (s : List Nat) : Dec :=
  if s.length < 41 then ⟨0, [], 2⟩ else if ofF (cutF s) ≠ digF s then ⟨0, [], 4⟩ else dbodyF (cutF s)

theorem rdEnt_byt {st : List Nat × Int} (h : Byt st.1) : (rdEnt st).1.byt ∧ Byt (rdEnt st).2.1 := by
  have h1 := rtextF_byt (e := st.2) (w := 1) h
  have h2 := bytesF_byt (e := (rtextF st.1 st.2 1).2.2) (n := 32) h1.2
  exact ⟨⟨h1.1, h2.1⟩, numberF_byt (numberF_byt h2.2)⟩
theorem rdEnts_byt : ∀ (k : Nat) {st : List Nat × Int}, Byt st.1 → (∀ e ∈ (rdEnts k st).1, e.byt) ∧ Byt (rdEnts k st).2.1
  | 0, st, h => ⟨fun e he => (by cases he), h⟩
  | k + 1, st, h => by
    obtain ⟨h1, h2⟩ := rdEnts_byt k h
    obtain ⟨h3, h4⟩ := rdEnt_byt h2
    refine ⟨fun e he => ?_, h4⟩
    rcases List.mem_append.1 he with q | q
    · exact h1 e q
    · obtain rfl := List.mem_singleton.1 q; exact h3
theorem rdEnts_len : ∀ (k : Nat) (st : List Nat × Int), (rdEnts k st).1.length = k
  | 0, _ => rfl
  | k + 1, st => by simp [rdEnts, rdEnts_len k]
theorem takeF_len {s : List Nat} {e n e2 : Int} : (takeF s e n e2).1.length ≤ n.toNat := by
  unfold takeF
  split
  · simp
  split
  · simp
  split
  · simp
  · simp only [List.length_take]; omega
theorem number1_lt {s : List Nat} {e : Int} (h : Byt s) : (numberF s e 1).1 < 256 := by
  have h1 := takeF_len (s := s) (e := e) (n := 1) (e2 := if mostF 1 < 0 then 1 else 0)
  have h2 := leV_lt (takeF_byt (e := e) (n := 1) (e2 := if mostF 1 < 0 then 1 else 0) h).1
  show leV (takeF s e 1 (if mostF 1 < 0 then 1 else 0)).1 < 256
  refine Nat.lt_of_lt_of_le h2 ?_
  calc 256 ^ (takeF s e 1 (if mostF 1 < 0 then 1 else 0)).1.length ≤ 256 ^ 1 := Nat.pow_le_pow_right (by decide) h1
    _ = 256 := rfl
theorem decF_byt {s : List Nat} (h : Byt s) : ∀ e ∈ (decF s).es, e.byt := by
  unfold decF
  split
  · intro e he; cases he
  split
  · intro e he; cases he
  · unfold dbodyF
    simp only
    split
    · exact (rdEnts_byt _ (numberF_byt (numberF_byt (bytesF_byt (h.take _)).2))).1
    · intro e he; cases he

section
variable {C : Cfg} (S : StdO C)
include S
theorem cdecode_ans (h : Heap) (hw : Wf h) (hr : Ro h) (s : List Nat) (hs : s.length ≤ 1000000) (hb : Byt s) :
    Ans C 35 [.str s] h fun v h' => ∃ x, v = .tuple [.agg [iv (decF s).seq, x], iv (decF s).code] ∧ Grow h h' ∧ Grown h' h.size 4 x ((decF s).es.map Ent.v) := by
  have hF : C.F 35 = some a35 := S.f rfl
  unfold a35 at hF
  refine Ans.loc S.hm (S.s _ _ _ rfl) hF rfl rfl hw (fun h2 g hsz hge => ?_) ?_
  rotate_left
  · rintro v h1 hg ⟨x, rfl, g1, gr⟩ hv
    refine ⟨x, rfl, Grow.refl hw, gr.scopd ?_ h⟩
    simpa [V.scopd, V.scopeds] using hv
  clear hF
  -- an error's end
  have err : ∀ (t : Nat) (h3 : Heap) (e' : List (Nat × V)) (b : Nat) (code : Int) (cs : List V), t ≠ 2 → t ≠ 3 → Grow h h3 → h.size ≤ b → Cl h3 b cs → cs.length = 2 → Env.get e' 2 = some (.ptr (some (b, 0))) → decF s = ⟨0, [], code⟩ →
      ∀ Q : Ex → List (Nat × V) → Heap → Prop, (∀ e' h1, (Fin .ret ∧ ∃ v, retE e' h1 [.cell 2 (some 2), .tmp 3] = some v ∧ ∀ n, ∃ x, v = .tuple [.agg [iv (decF s).seq, x], iv (decF s).code] ∧ Grow h { h1 with low := n } ∧ Grown { h1 with low := n } h.size 4 x ((decF s).es.map Ent.v)) → Q .ret e' h1) →
      WC C (.seq (.ops [⟨(some t), none, .build [(.int .i64 (0)), (.slice none 0 0)] []⟩,
        ⟨none, none, .store 2 (.t 2) (.t t)⟩, ⟨(some 3), none, .mv (.c (.int .i64 code))⟩]) .ret) e' h3 Q := by
    intro t h3 e' b code cs t2 t3 g3 hb3 a3 hcs he hd Q hQ
    obtain ⟨h4, q1, q2, q3, q4⟩ := a3.sets g3.wf (i := 0) (us := [iv 0, .slice none 0 0]) (by simp [hcs]) rfl
    refine WC.seqO ?_
    refine obu rfl rfl ?_
    have he2 : Env.get ((t, V.agg [iv 0, .slice none 0 0]) :: e') 2 = some (.ptr (some (b, 0))) := by simp only [Env.get]; rw [if_neg (fun q => t2 q.symm)]; exact he
    have he3 : Env.get ((t, V.agg [iv 0, .slice none 0 0]) :: e') t = some (.agg [iv 0, .slice none 0 0]) := by simp only [Env.get, if_true]
    refine WO.op (StepK.store (v := .agg [iv 0, .slice none 0 0]) he2 he3 rfl q1) ?_
    refine omv rfl ?_
    have q2 : Cl h4 b [iv 0, .slice none 0 0] := by
      have := splice_head (us := [iv 0, .slice none 0 0]) (cs := cs) (ds := []) (by simp [hcs])
      rw [List.append_nil, List.append_nil] at this; rw [this] at q2; exact q2
    refine WO.nil (WC.ret (hQ _ _ ⟨trivial, .tuple [.agg [iv 0, .slice none 0 0], iv code], ?_, fun n => ⟨.slice none 0 0, by rw [hd], (Chg.newGrow g3 q3 hw (by simpa using hb3)).low1 n, by rw [hd]; exact Grown.nil _ _ _⟩⟩))
    have hl : loadA h4 (some 2) (.ptr (some (b, 0))) = some (.agg [iv 0, .slice none 0 0]) := by simp only [loadA, q2.rds (k := 2) rfl]
    simp only [retE, ressE, resE, Env.put, Env.get, if_true, show ((2 : Nat) = 3) = False by simp, show ((2 : Nat) = t) = False from eq_false (fun q => t2 q.symm), if_false, he, hl]
    rfl
  refine WC.seqO ?_
  refine WO.ops StepK.alloc <| omv rfl ?_
  have a0 := Cl.new h2 [iv 0, .slice none 0 0] none
  have g3 := g.push (.cells [iv 0, .slice none 0 0] (.tip [] 0 none))
  have hb2 : h.size ≤ h2.size := g.size
  change WO C _ _ (h2.push (.cells [iv 0, .slice none 0 0] (.tip [] 0 none))) _
  generalize h2.push (.cells [iv 0, .slice none 0 0] (.tip [] 0 none)) = h3 at *
  generalize h2.size = b2 at *
  refine WO.nil (WC.seq (WC.seqO ?_))
  refine omv rfl <| olt rfl <| obn rfl rfl rfl ?_
  refine WO.nil (WC.cond rfl (fun hc => ?_) (fun hc => WC.skip (WC.seqD ?_)))
  · have hc := of_decide_eq_true hc
    refine err 12 h3 _ b2 2 _ (by decide) (by decide) g3 hb2 a0 rfl rfl ?_ _ (fun _ _ q => q)
    unfold decF; rw [if_pos (by omega)]
  have hc := of_decide_eq_false hc
  have h41 : 41 ≤ s.length := by omega
  refine dmv rfl <| dmv rfl <| dlt rfl <| dsb rfl rfl (by omega) <| WD.pure (StepK.sliceStr rfl rfl rfl (str_lo (by omega) (by omega))) rfl ?_
  refine dmv rfl <| dmv rfl <| dlt rfl <| dsb rfl rfl (by omega) <| WD.pure (StepK.sliceStr rfl rfl rfl (str_hi (by omega) (by omega))) rfl ?_
  have hcut : s.take ((s.length : Int) - 32).toNat = cutF s := by unfold cutF; congr 1; omega
  have hdig : s.drop ((s.length : Int) - 32).toNat = digF s := by unfold digF; congr 1; omega
  rw [hcut, hdig]
  refine dmv rfl <| dmv rfl ?_
  refine WD.nil trivial (WC.seq (WC.seqO ?_))
  have hcl : (cutF s).length ≤ 1000000 := by unfold cutF; rw [List.length_take]; omega
  have hcb : Byt (cutF s) := hb.take _
  refine omv rfl ?_
  refine WO.call rfl rfl (Ans.sum (R := fun v h' => v = .str (ofF (cutF s)) ∧ h' = h3) (S.of h3 _ hcl (hr.grow g3)) ⟨rfl, rfl⟩) ?_
  rintro v h4 ⟨rfl, rfl⟩
  refine omv rfl <| obn rfl rfl rfl ?_
  refine WO.nil (WC.cond rfl (fun hc2 => ?_) (fun hc2 => WC.skip (WC.seqO ?_)))
  · refine err 27 h4 _ b2 4 _ (by decide) (by decide) g3 hb2 a0 rfl rfl ?_ _ (fun _ _ q => q)
    unfold decF; rw [if_neg (by omega), if_pos]
    intro q; rw [q, beqL_refl] at hc2; cases hc2
  have hdg : ofF (cutF s) = digF s := (beqL_iff _ _).1 (by simpa using hc2)
  have hdec : decF s = dbodyF (cutF s) := by
    unfold decF; rw [if_neg (by omega), if_neg (by simpa using hdg)]
  clear hc2 hdg
  refine omv rfl ?_
  refine WO.call rfl rfl (read_ans S.toStdM h4 g3.wf (cutF s)) ?_
  rintro v h5 ⟨rb, rfl, hrb, r5, g5⟩
  have hb2l := a0.lt g3.wf
  have a5 := a0.grow g5
  have hne : rb ≠ b2 := by omega
  have hrbs : h.size ≤ rb := by omega
  have g5 := g3.trans g5
  refine omv rfl ?_
  refine WO.nil (WC.seqO ?_)
  refine omv rfl ?_
  refine WO.call rfl rfl (bytes_ans S.toStdM h5 g5.wf rb _ 0 2 r5) ?_
  rintro v h6 ⟨rfl, r6, c6⟩
  have a6 := a5.chg c6 (by simpa using fun e => hne e.symm)
  have g6 := Chg.newGrow g5 c6 hw (by simpa using hrbs)
  have b6 := (bytesF_byt (e := 0) (n := 2) hcb).2
  have hbd : dbodyF (cutF s) = (let m := bytesF (cutF s) 0 2
      let q := numberF m.2.1 m.2.2 6
      let k := numberF q.2.1 q.2.2 1
      let r := rdEnts k.1 k.2
      if m.1 = [80, 76] ∧ endF r.2.1 r.2.2 = 0 ∧ blkOk q.1 r.1 then ⟨q.1, r.1, 0⟩ else ⟨0, [], 3⟩) := rfl
  generalize bytesF (cutF s) 0 2 = m at *
  obtain ⟨m0, ms, me⟩ := m
  simp only at r6 b6 hbd ⊢
  refine obn rfl rfl rfl <| omv rfl ?_
  refine WO.nil (WC.seqO ?_)
  refine omv rfl ?_
  refine WO.call rfl rfl (number_ans S.toStdM h6 g6.wf rb _ _ 6 r6 b6) ?_
  rintro v h7 ⟨rfl, r7, c7⟩
  have a7 := a6.chg c7 (by simpa using fun e => hne e.symm)
  have g7 := Chg.newGrow g6 c7 hw (by simpa using hrbs)
  have b7 := numberF_byt (e := me) (w := 6) b6
  generalize numberF ms me 6 = q at *
  obtain ⟨q0, qs, qe⟩ := q
  simp only at r7 b7 hbd ⊢
  refine obu rfl rfl <| WO.ops StepK.alloc ?_
  have a8 := Cl.new h7 [iv 0, .slice none 0 0] none
  have gp := (Grow.refl g7.wf).push (.cells [iv 0, .slice none 0 0] (.tip [] 0 none))
  have r8 : RdAt (h7.push (.cells [iv 0, .slice none 0 0] (.tip [] 0 none))) rb qs qe := Cl.grow r7 gp
  have ab8 := a7.grow gp
  have hrbl := Cl.lt r7 g7.wf
  have hb2l := a7.lt g7.wf
  change WO C _ _ (h7.push (.cells [iv 0, .slice none 0 0] (.tip [] 0 none))) _
  generalize h7.push (.cells [iv 0, .slice none 0 0] (.tip [] 0 none)) = h8 at *
  have hs7 := g7.size
  obtain ⟨h9, p1, p2, p3, p4⟩ := a8.sets gp.wf (i := 0) (us := [iv q0, .slice none 0 0]) (by simp) rfl
  have n8 : h7.size ≠ rb := by omega
  have n82 : h7.size ≠ b2 := by omega
  generalize h7.size = b8 at *
  have g8 := g7.trans gp
  have g9 := Chg.newGrow g8 p3 hw (by simpa using hs7)
  have a9 : Cl h9 b8 [iv q0, .slice none 0 0] := p2
  have r9 : RdAt h9 rb qs qe := Cl.chg r8 p3 (by simpa using fun e => n8 e.symm)
  have ab9 := ab8.chg p3 (by simpa using fun e => n82 e.symm)
  refine WO.op (StepK.store rfl rfl rfl p1) ?_
  refine WO.nil (WC.seq (WC.seqO ?_))
  refine omv rfl ?_
  refine WO.call rfl rfl (number_ans S.toStdM h9 g9.wf rb _ _ 1 r9 b7) ?_
  rintro v h10 ⟨rfl, r10, c10⟩
  have b10 := numberF_byt (e := qe) (w := 1) b7
  have hk10 := number1_lt (e := qe) b7
  have a10 := a9.chg c10 (by simpa using n8)
  have ab10 := ab9.chg c10 (by simpa using fun e => hne e.symm)
  have g10 := Chg.newGrow g9 c10 hw (by simpa using hrbs)
  generalize numberF qs qe 1 = k at *
  obtain ⟨k0, ks⟩ := k
  simp only at r10 b10 hk10 hbd ⊢
  refine omv rfl ?_
  refine WO.nil (WC.block ?_)
  refine WC.loop (σ := Nat × V) (fun p => [(2, .ptr (some (b2, 0))), (6, .ptr (some (rb, 0))), (7, .bool (beqL m0 [80, 76])), (8, .ptr (some (b8, 0))), (37, iv k0), (38, iv p.1)])
    (fun p h' => Grow h h' ∧ p.1 ≤ k0 ∧ RdAt h' rb (rdEnts p.1 ks).2.1 (rdEnts p.1 ks).2.2 ∧ Cl h' b8 [iv q0, p.2] ∧ Cl h' b2 [iv 0, .slice none 0 0] ∧ Grown h' h.size 4 p.2 ((rdEnts p.1 ks).1.map Ent.v) ∧ Off p.2 rb ∧ Off p.2 b8 ∧ Off p.2 b2) (fun p => k0 - p.1) (0, .slice none 0 0)
    (Cov.cons rfl (Cov.cons rfl (Cov.cons rfl (Cov.cons rfl (Cov.cons rfl (Cov.cons rfl (Cov.nil _))))))) ⟨g10, by omega, r10, a10, ab10, Grown.nil _ _ _, Off.nil _, Off.nil _, Off.nil _⟩ ?_
  rintro ⟨p, x⟩ h11 ⟨g11, hp, r11, a11, ab11, gx11, o1, o2, o3⟩
  simp only at hp r11 a11 gx11 o1 o2 o3 ⊢
  refine WC.seqO (obn rfl rfl rfl (WO.nil (WC.seq ?_)))
  refine WC.cond rfl (fun hc => WC.skip ?_) (fun hc => WC.exit ?_)
  · have hc := of_decide_eq_true hc
    have hpk : p < k0 := by omega
    have hby := (rdEnts_byt p (st := ks) b10).2
    have hlen := rdEnts_len p ks
    have hstep : rdEnts (p + 1) ks = ((rdEnts p ks).1 ++ [(rdEnt (rdEnts p ks).2).1], (rdEnt (rdEnts p ks).2).2) := rfl
    generalize rdEnts p ks = r at *
    obtain ⟨es, st⟩ := r
    obtain ⟨st, se⟩ := st
    simp only at hby hlen hstep r11 gx11 ⊢
    have hre : rdEnt (st, se) = (let a := rtextF st se 1
      let b := bytesF a.2.1 a.2.2 32
      let c := numberF b.2.1 b.2.2 2
      let d := numberF c.2.1 c.2.2 2
      (⟨a.1, b.1, c.1, d.1⟩, d.2)) := rfl
    refine WC.seq (WC.block (WC.draw ?_))
    have n1 : b8 ∉ [rb] := by simpa using n8
    have n2 : b2 ∉ [rb] := by simpa using fun e => hne e.symm
    have l11 : h11.rd b8 (0 + 1) = some x := a11.rd rfl
    refine dfa rfl ?_
    refine WD.load1 rfl l11 ?_
    refine dmv rfl <| dmv rfl <| dmv rfl <| dmv rfl ?_
    refine WD.call (by repeat (first | exact trivial | refine ⟨by with_reducible assumption, ?_⟩)) rfl rfl (rtext_ans S.toStdM h11 g11.wf rb _ _ 1 r11 hby) ?_
    rintro v h12 ⟨rfl, r12, c12⟩
    have l12 : h12.rd b8 (0 + 1) = some x := (a11.chg c12 n1).rd rfl
    have b12 := (rtextF_byt (e := se) (w := 1) hby).2
    generalize rtextF st se 1 = a at *
    obtain ⟨a0', as', ae⟩ := a
    simp only at r12 b12 hre ⊢
    refine WD.call (by repeat (first | exact trivial | refine ⟨by with_reducible assumption, ?_⟩)) rfl rfl (bytes_ans S.toStdM h12 c12.wf rb _ _ 32 r12) ?_
    rintro v h13 ⟨rfl, r13, c13⟩
    have c13 := c12.trans c13 g11.wf (Comes.refl _ _)
    have l13 : h13.rd b8 (0 + 1) = some x := (a11.chg c13 n1).rd rfl
    have b13 := (bytesF_byt (e := ae) (n := 32) b12).2
    generalize bytesF as' ae 32 = b at *
    obtain ⟨b0', bs, be⟩ := b
    simp only at r13 b13 hre ⊢
    refine WD.call (by repeat (first | exact trivial | refine ⟨by with_reducible assumption, ?_⟩)) rfl rfl (number_ans S.toStdM h13 c13.wf rb _ _ 2 r13 b13) ?_
    rintro v h14 ⟨rfl, r14, c14⟩
    have c14 := c13.trans c14 g11.wf (Comes.refl _ _)
    have l14 : h14.rd b8 (0 + 1) = some x := (a11.chg c14 n1).rd rfl
    have b14 := numberF_byt (e := be) (w := 2) b13
    generalize numberF bs be 2 = c at *
    obtain ⟨c0', cs, ce⟩ := c
    simp only at r14 b14 hre ⊢
    refine WD.call (by repeat (first | exact trivial | refine ⟨by with_reducible assumption, ?_⟩)) rfl rfl (number_ans S.toStdM h14 c14.wf rb _ _ 2 r14 b14) ?_
    rintro v h15 ⟨rfl, r15, c15⟩
    have c15 := c14.trans c15 g11.wf (Comes.refl _ _)
    have a15 := a11.chg c15 n1
    have ab15 := ab11.chg c15 n2
    have gx15 := gx11.chg c15 (by simpa using o1)
    have l15 : h15.rd b8 (0 + 1) = some x := a15.rd rfl
    have b15 := numberF_byt (e := ce) (w := 2) b14
    generalize numberF cs ce 2 = d at *
    obtain ⟨d0', ds⟩ := d
    simp only at r15 b15 hre ⊢
    have g15 := Chg.newGrow g11 c15 hw (by simpa using hrbs)
    rw [hre] at hstep
    simp only at hstep
    refine dbu rfl rfl ?_
    refine WD.alloc (cs := (Ent.mk a0' b0' c0' d0').v) (ty := none) rfl (StepK.buildSl rfl rfl) ?_
    have gp := (Grow.refl g15.wf).push (.cells (Ent.mk a0' b0' c0' d0').v (.tip [] 0 none))
    have hnew : (h15.push (.cells (Ent.mk a0' b0' c0' d0').v (.tip [] 0 none))).get h15.size = some (.cells (Ent.mk a0' b0' c0' d0').v (.tip [] 0 none)) := get_push_self _ _
    have l16 := gp.rd l15
    have a16 := a15.grow gp
    have ab16 := ab15.grow gp
    have r16 : RdAt _ rb ds.1 ds.2 := Cl.grow r15 gp
    have gx16 := gx15.grow gp
    have g16 := g15.trans gp
    have lb8 := a16.lt gp.wf
    have lrb := Cl.lt r16 gp.wf
    have lb2 := ab16.lt gp.wf
    generalize h15.push (.cells (Ent.mk a0' b0' c0' d0').v (.tip [] 0 none)) = h16 at *
    obtain ⟨v, h17, q1, q2, q3, q4, q5⟩ := Grown.append2 (bytes := 48) (tyK := none) hw g16 gx16 (sl_one hnew (ent_len _)) (by decide) (by decide) (roomy48 (by simp; omega)) (by simpa using ent_one _)
    refine WD.opC (dd := some 52) ⟨hnew, l16, trivial⟩ rfl (StepK.append rfl rfl q1) ?_
    have a17 := a16.frm q4 o2
    have ab17 := ab16.frm q4 o3
    have r17 : RdAt h17 rb ds.1 ds.2 := Cl.frm r16 q4 o1
    obtain ⟨h18, w1, w2, w3, w4⟩ := a17.set q3.wf (i := 1) (v := v) (by exact (by decide : 1 < 2)) q2.one
    have o1' := q5 rb lrb o1
    have o2' := q5 b8 lb8 o2
    have o3' := q5 b2 lb2 o3
    refine dfa rfl ?_
    have hv1 : v.cellsOf = [v] := by have := q2.one; cases v <;> first | rfl | cases this
    refine WD.opC (by repeat (first | exact trivial | refine ⟨by with_reducible assumption, ?_⟩)) rfl (StepK.store (n := 1) rfl rfl (by rw [hv1]; rfl) (by rw [hv1]; exact w1)) ?_
    refine WD.nil trivial (WC.ops ?_)
    refine oad rfl rfl (by omega) <| omv rfl ?_
    refine WO.nil ⟨(p + 1, v), Cov.cons rfl (Cov.cons rfl (Cov.cons rfl (Cov.cons rfl (Cov.cons rfl (Cov.cons rfl (Cov.nil _)))))), ⟨Chg.newGrow q3 w3 hw (by simp only [List.mem_singleton]; rintro y rfl; omega), by simp only; omega, ?_, w2, ab17.chg w3 (by simpa using fun e => n82 e.symm), ?_, o1', o2', o3'⟩, by simp only; omega⟩
    · simp only [hstep]; exact Cl.chg r17 w3 (by simpa using fun e => n8 e.symm)
    · simp only [hstep, List.map_append]
      exact q2.chg w3 (by simpa using o2')
  have hc := of_decide_eq_false hc
  obtain rfl : p = k0 := by omega
  have hlenr := rdEnts_len p ks
  rw [← hdec] at hbd
  generalize rdEnts p ks = r at *
  obtain ⟨es, st, se⟩ := r
  simp only at r11 gx11 hbd hlenr
  have e3 : ¬ (m0 = [80, 76] ∧ endF st se = 0 ∧ blkOk q0 es) → decF s = ⟨0, [], 3⟩ := fun q => by rw [hbd, if_neg q]
  have sx : Ents h11 x es := gx11.sl
  have ld : h11.rds b8 0 2 = some [iv q0, x] := a11.rds rfl
  refine WC.seq (WC.seqO ?_)
  refine omv rfl <| ont rfl <| omv rfl ?_
  refine WO.splitG rfl (fun hm => ?_) (fun hm => ?_)
  · have hm : m0 ≠ [80, 76] := fun q => by rw [q, beqL_refl] at hm; cases hm
    refine WO.skip rfl rfl <| WO.skip rfl rfl <| WO.skip rfl rfl <| opt rfl rfl <| omv rfl <| WO.skip rfl rfl <| WO.skip rfl rfl <| WO.skip rfl rfl <| opt rfl rfl ?_
    refine WO.nil (WC.condT rfl ?_)
    exact err 67 h11 _ b2 3 _ (by decide) (by decide) g11 hb2 ab11 rfl rfl (e3 (fun q => hm q.1)) _ (fun _ _ q => q)
  have hm : m0 = [80, 76] := (beqL_iff _ _).1 (by simpa using hm)
  refine WO.run rfl <| omv rfl <| WO.run rfl ?_
  refine WO.call rfl rfl (end_ans S.toStdM h11 g11.wf rb st se r11) ?_
  rintro v h12 ⟨rfl, g12⟩
  have ab12 := ab11.grow g12
  have ld := g12.rds ld
  have sx := sx.grow g12
  have gx12 := gx11.grow g12
  have g12 := g11.trans g12
  refine WO.run rfl <| obn rfl rfl rfl <| opf rfl rfl <| omv rfl ?_
  refine WO.splitG rfl (fun he => ?_) (fun he => ?_)
  · have he : endF st se ≠ 0 := by simpa using he
    refine WO.skip rfl rfl <| WO.skip rfl rfl <| WO.skip rfl rfl <| opt rfl rfl ?_
    refine WO.nil (WC.condT rfl ?_)
    exact err 67 h12 _ b2 3 _ (by decide) (by decide) g12 hb2 ab12 rfl rfl (e3 (fun q => he q.2.1)) _ (fun _ _ q => q)
  have he : endF st se = 0 := by simpa using he
  refine WO.run rfl <| WO.ops (StepK.loadN rfl ld) <| WO.run rfl ?_
  refine WO.call rfl rfl (ccheck_ans S h12 g12.wf q0 x es sx (by omega)) ?_
  rintro v h13 ⟨rfl, g13⟩
  have ab13 := ab12.grow g13
  have ld := g13.rds ld
  have gx13 := gx12.grow g13
  have g13 := g12.trans g13
  refine WO.run rfl <| obn rfl rfl rfl <| opf rfl rfl ?_
  refine WO.nil (WC.cond rfl (fun hk => ?_) (fun hk => WC.skip (WC.seqO ?_)))
  · refine err 67 h13 _ b2 3 _ (by decide) (by decide) g13 hb2 ab13 rfl rfl (e3 (fun q => ?_)) _ (fun _ _ q => q)
    have : codeF q0 es ≠ 0 := by simpa using hk
    exact this (by unfold codeF; rw [if_pos q.2.2])
  have hk : codeF q0 es = 0 := by simpa using hk
  have hok : blkOk q0 es := by
    unfold codeF at hk; split at hk
    · assumption
    · cases hk
  have hfin : decF s = ⟨q0, es, 0⟩ := by rw [hbd, if_pos ⟨hm, he, hok⟩]
  obtain ⟨h14, w1, w2, w3, w4⟩ := ab13.sets g13.wf (i := 0) (us := [iv q0, x]) (by simp) (by simp only [List.all_cons, List.all_nil, gx13.one, Bool.and_true]; rfl)
  have o3 : Off x b2 := o3
  refine WO.ops (StepK.loadN rfl ld) ?_
  refine WO.op (StepK.store rfl rfl rfl w1) ?_
  refine omv rfl ?_
  have w2 : Cl h14 b2 [iv q0, x] := w2
  refine WO.nil (WC.ret ⟨trivial, .tuple [.agg [iv q0, x], iv 0], ?_, fun n => ⟨x, by rw [hfin], (Chg.newGrow g13 w3 hw (by simpa using hb2)).low1 n, ?_⟩⟩)
  · have hl : loadA h14 (some 2) (.ptr (some (b2, 0))) = some (.agg [iv q0, x]) := by simp only [loadA, w2.rds (k := 2) rfl]
    exact (show retE _ h14 [.cell 2 (some 2), .tmp 3] = (match (match loadA h14 (some 2) (.ptr (some (b2, 0))), (some [iv 0] : Option (List V)) with | some v, some vs => some (v :: vs) | _, _ => none) with | some vs => some (oneOf vs) | none => none) from rfl).trans (by rw [hl]; rfl)
  · rw [hfin]
    exact (gx13.chg w3 (by simpa using o3)).same (fun _ => rfl)
end
end Abs
end Go.Proofs.YtlgbdjlnbnlphaaGreatDoor
namespace Go.Proofs.YtlgbdjlnbnlphaaGreatDoor
namespace Abs
set_option linter.unusedVariables false
set_option linter.unusedSimpArgs false

theorem takeF_app (a r : List Nat) {n : Int} (hn : n = a.length) : takeF (a ++ r) 0 n 0 = (a, r, 0) := by
  subst hn
  unfold takeF
  simp only [ne_eq, not_true_eq_false, if_false]
  rw [if_neg (by simp; omega)]
  simp
theorem bytesF_app (a r : List Nat) {n : Int} (hn : n = a.length) : bytesF (a ++ r) 0 n = (a, r, 0) := by
  unfold bytesF
  rw [if_neg (by omega)]
  exact takeF_app a r hn
theorem leV_app (a b : List Nat) : leV (a ++ b) = leV a + 256 ^ a.length * leV b := by
  induction a with
  | nil => simp [leV]
  | cons x a ih =>
    simp only [List.cons_append, leV, ih, List.length_cons, Nat.pow_succ, Nat.mul_add]
    rw [Nat.mul_comm (256 ^ a.length) 256, Nat.mul_assoc]; omega
theorem leV_leB : ∀ (w n : Nat), leV (leB w n) = n % 256 ^ w
  | 0, n => by simp [leB, leV, Nat.mod_one]
  | w + 1, n => by
    rw [leB, leV_app, leV_leB w n, leB_len]
    simp only [leV, Nat.mul_zero, Nat.add_zero]
    rw [Nat.pow_succ, Nat.mod_mul]
theorem numberF_app {n w : Int} (h0 : 0 ≤ n) (h1 : n ≤ mostF w) (r : List Nat) : numberF (putF n w ++ r) 0 w = (n.toNat, r, 0) := by
  have hp := most_pos (n := n) (w := w) (by omega) (by omega)
  have hm : ¬ mostF w < 0 := by omega
  have hput : putF n w = leB w.toNat n.toNat := by unfold putF; rw [if_neg (by omega)]
  unfold numberF
  rw [if_neg hm, takeF_app _ _ (by rw [hput, leB_len]; omega), hput]
  simp only [leV_leB]
  congr 1
  refine Nat.mod_eq_of_lt ?_
  rw [← pow256]
  have : (n.toNat : Int) < (2 ^ (8 * w.toNat) : Int) := by omega
  exact_mod_cast this
theorem rtextF_app {s : List Nat} (hs : (s.length : Int) ≤ mostF 1) (r : List Nat) : rtextF (textF s 1 ++ r) 0 1 = (s, r, 0) := by
  unfold rtextF textF
  rw [if_neg (by omega), List.append_assoc, numberF_app (by omega) hs]
  exact bytesF_app s r (by simp)
theorem rdEnt_app {e : Ent} (h : e.ok) (r : List Nat) : rdEnt (e.enc ++ r, 0) = (e, (r, 0)) := by
  obtain ⟨h1, h2, h3, h4, h5⟩ := h
  have m1 : mostF 1 = 255 := rfl
  have m2 : mostF 2 = 65535 := rfl
  unfold rdEnt Ent.enc
  simp only [List.append_assoc]
  rw [rtextF_app (by omega)]
  simp only
  rw [bytesF_app _ _ (by omega)]
  simp only
  rw [numberF_app h4.1 (by omega)]
  simp only
  rw [numberF_app h5.1 (by omega)]
  simp only [Int.toNat_of_nonneg h4.1, Int.toNat_of_nonneg h5.1]
theorem rdEnts_app : ∀ (k : Nat) (es : List Ent) (r : List Nat), k ≤ es.length → (∀ e ∈ es, e.ok) → rdEnts k ((es.map Ent.enc).flatten ++ r, 0) = (es.take k, (((es.drop k).map Ent.enc).flatten ++ r, 0))
  | 0, es, r, _, _ => rfl
  | k + 1, es, r, hk, ho => by
    unfold rdEnts
    rw [rdEnts_app k es r (by omega) ho]
    simp only
    have hlt : k < es.length := by omega
    rw [List.drop_eq_getElem_cons hlt]
    simp only [List.map_cons, List.flatten_cons, List.append_assoc]
    rw [rdEnt_app (ho _ (List.getElem_mem hlt)), List.take_succ_eq_append_getElem hlt]
theorem dbody_enc {seq : Int} {es : List Ent} (h : blkOk seq es) : dbodyF (encT seq es) = ⟨seq, es, 0⟩ := by
  obtain ⟨o1, o2, o3⟩ := h
  have m1 : mostF 1 = 255 := rfl
  have m6 : mostF 6 = 281474976710655 := rfl
  unfold dbodyF encT encH
  simp only [List.append_assoc]
  rw [bytesF_app [80, 76] _ (n := 2) rfl]
  simp only
  rw [numberF_app o1.1 (by omega)]
  simp only
  rw [numberF_app (by omega) (by omega)]
  simp only [Int.toNat_natCast]
  have := rdEnts_app es.length es [] (Nat.le_refl _) o3
  rw [List.append_nil, List.drop_length, List.take_length] at this
  rw [this]
  simp only [List.map_nil, List.flatten_nil, List.append_nil]
  rw [Int.toNat_of_nonneg o1.1, if_pos ⟨trivial, rfl, o1, o2, o3⟩]
theorem encT_len {seq : Int} {es : List Ent} (h : blkOk seq es) : 9 + 38 * es.length ≤ (encT seq es).length ∧ (encT seq es).length ≤ 700 := by
  have h1 := encH_len (n := es.length) h.1 h.2.1
  have h2 := encs_len es h.2.2
  have h3 := h.2.1
  unfold encT
  rw [List.length_append]; omega
theorem cut_app (a b : List Nat) (hb : b.length = 32) : cutF (a ++ b) = a ∧ digF (a ++ b) = b := by
  have : (a ++ b).length - 32 = a.length := by rw [List.length_append]; omega
  unfold cutF digF
  rw [this]
  simp
theorem dec_enc {seq : Int} {es : List Ent} (h : blkOk seq es) : decF (encF seq es) = ⟨seq, es, 0⟩ := by
  unfold encF
  rw [if_pos h]
  obtain ⟨q1, q2⟩ := cut_app (encT seq es) (ofF (encT seq es)) (ofF_len _)
  have hl := encT_len h
  unfold decF
  rw [if_neg (by rw [List.length_append, ofF_len]; omega), q1, q2, if_neg (by simp), dbody_enc h]
theorem dec_bad (t d : List Nat) (ht : 9 ≤ t.length) (hd : d.length = 32) (hne : ofF t ≠ d) : decF (t ++ d) = ⟨0, [], 4⟩ := by
  obtain ⟨q1, q2⟩ := cut_app t d hd
  unfold decF
  rw [if_neg (by rw [List.length_append]; omega), q1, q2, if_pos hne]
end Abs
end Go.Proofs.YtlgbdjlnbnlphaaGreatDoor
