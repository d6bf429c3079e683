/- Layer 13: what clog.Merge answers; that it is what the document's answers. -/
import Derived.Test.YthdgjjggndfbhaaDoorK6
namespace Go.Proofs.YthdgjjggndfbhaaDoor
namespace Abs
set_option linter.unusedVariables false
set_option linter.unusedSimpArgs false
open Go.RowKit
attribute [local irreducible] WO WC WD StepK Ans Does Runs DoesD

/-! ### Plain -/
def mgStep (seq : Int) (A : List (Int × (Ent × Int))) (e : Ent) : List (Int × (Ent × Int)) :=
  match findI e.loc A with
  | some w => if w.2 ≤ seq then updI e.loc (e, seq) A else A
  | none => updI e.loc (e, seq) A
def mgBlk (A : List (Int × (Ent × Int))) (b : Blk) : List (Int × (Ent × Int)) := if b.ok then b.es.foldl (mgStep b.seq) A else A
theorem mgBlk_ok {A : List (Int × (Ent × Int))} {seq : Int} {es : List Ent} (h : blkOk seq es) : mgBlk A ⟨seq, es⟩ = es.foldl (mgStep seq) A := if_pos h
theorem mgBlk_bad {A : List (Int × (Ent × Int))} {seq : Int} {es : List Ent} (h : ¬ blkOk seq es) : mgBlk A ⟨seq, es⟩ = A := if_neg h
def mgF (bs : List Blk) : List (Int × (Ent × Int)) := bs.foldl mgBlk []
def valI (A : List (Int × (Ent × Int))) (k : Int) : Ent := match findI k A with
  | some p => p.1
  | none => Ent.zero
def cmF (bs : List Blk) : List Ent := (srtI ((mgF bs).map (·.1))).map (valI (mgF bs))

theorem mgStep_keys {seq : Int} {A : List (Int × (Ent × Int))} {e : Ent} {k : Int} (h : k ∈ (mgStep seq A e).map (·.1)) : k ∈ A.map (·.1) ∨ k = e.loc := by
  have upd : ∀ v, k ∈ (updI e.loc v A).map (·.1) → k ∈ A.map (·.1) ∨ k = e.loc := by
    intro v hv
    rw [updI_keys] at hv
    split at hv
    · exact .inl hv
    · simpa using hv
  unfold mgStep at h
  split at h
  · split at h
    · exact upd _ h
    · exact .inl h
  · exact upd _ h
theorem mgStep_len (seq : Int) (A : List (Int × (Ent × Int))) (e : Ent) : (mgStep seq A e).length ≤ A.length + 1 := by
  have upd : ∀ v, (updI e.loc v A).length ≤ A.length + 1 := by
    intro v; rw [updI_len]; split <;> omega
  unfold mgStep
  split
  · split
    · exact upd _
    · omega
  · exact upd _
theorem mgStep_keys1 {seq : Int} {A : List (Int × (Ent × Int))} (e : Ent) (h : Keys1 A) : Keys1 (mgStep seq A e) := by
  unfold mgStep
  split
  · split
    · exact h.upd _ _
    · exact h
  · exact h.upd _ _
/-- Places are those of a device's sectors. -/
def InR (A : List (Int × (Ent × Int))) : Prop := Keys1 A ∧ (∀ k ∈ A.map (·.1), 0 ≤ k ∧ k ≤ 511)
theorem mgFold_in {seq : Int} : ∀ (es : List Ent) {A : List (Int × (Ent × Int))}, InR A → (∀ e ∈ es, e.ok) → InR (es.foldl (mgStep seq) A) ∧ (es.foldl (mgStep seq) A).length ≤ A.length + es.length
  | [], A, h, _ => ⟨h, by simp⟩
  | e :: es, A, h, ho => by
    have h1 : InR (mgStep seq A e) := ⟨mgStep_keys1 e h.1, fun k hk => by
      rcases mgStep_keys hk with q | q
      · exact h.2 k q
      · rw [q]; exact (ho e List.mem_cons_self).2.2.2.2⟩
    obtain ⟨q1, q2⟩ := mgFold_in es h1 fun x hx => ho x (List.mem_cons_of_mem _ hx)
    have := mgStep_len seq A e
    exact ⟨q1, by simp only [List.foldl_cons, List.length_cons]; omega⟩
theorem mgBlks_in : ∀ (bs : List Blk) {A : List (Int × (Ent × Int))}, InR A → InR (bs.foldl mgBlk A) ∧ (bs.foldl mgBlk A).length ≤ A.length + 7 * bs.length
  | [], A, h => ⟨h, by simp⟩
  | b :: bs, A, h => by
    have hb : InR (mgBlk A b) ∧ (mgBlk A b).length ≤ A.length + 7 := by
      obtain ⟨seq, es⟩ := b
      by_cases q : blkOk seq es
      · rw [mgBlk_ok q]
        obtain ⟨q1, q2⟩ := mgFold_in (seq := seq) es h q.2.2
        have := q.2.1
        exact ⟨q1, by omega⟩
      · rw [mgBlk_bad q]; exact ⟨h, by omega⟩
    obtain ⟨q1, q2⟩ := mgBlks_in bs hb.1
    exact ⟨q1, by simp only [List.foldl_cons, List.length_cons]; omega⟩
theorem mgF_in (bs : List Blk) : InR (mgF bs) ∧ (mgF bs).length ≤ 7 * bs.length := by
  have := mgBlks_in bs (A := []) ⟨List.nodup_nil, by simp⟩
  simpa [mgF] using this
/-- The two run side by side. -/
def Side (at_ : Int) (A : List (Int × (Ent × Int))) (st : Int × Ent) : Prop := -1 ≤ st.1 ∧ findI at_ A = if 0 ≤ st.1 then some (st.2, st.1) else none
theorem side_step {at_ seq : Int} (hs : 0 ≤ seq) {A : List (Int × (Ent × Int))} {st : Int × Ent} (h : Side at_ A st) (e : Ent) : Side at_ (mgStep seq A e) (nwStep seq at_ st e) := by
  obtain ⟨h1, h2⟩ := h
  unfold mgStep nwStep
  by_cases hl : e.loc = at_
  · subst hl
    rw [h2]
    by_cases h0 : 0 ≤ st.1
    · rw [if_pos h0]
      simp only
      by_cases hq : st.1 ≤ seq
      · rw [if_pos hq, if_pos ⟨by first | rfl | trivial, hq⟩]
        exact ⟨by simp only; omega, by simp only; rw [findI_upd, if_pos rfl, if_pos hs]⟩
      · rw [if_neg hq, if_neg (fun q => hq q.2)]
        exact ⟨h1, by rw [h2, if_pos h0]⟩
    · rw [if_neg h0, if_pos ⟨by first | rfl | trivial, by omega⟩]
      exact ⟨by simp only; omega, by simp only; rw [findI_upd, if_pos rfl, if_pos hs]⟩
  · rw [if_neg (fun q => hl q.1)]
    have upd : ∀ v, findI at_ (updI e.loc v A) = findI at_ A := fun v => by rw [findI_upd, if_neg (fun q => hl q.symm)]
    refine ⟨h1, ?_⟩
    rw [← h2]
    split
    · split
      · exact upd _
      · rfl
    · exact upd _
theorem side_fold {at_ seq : Int} (hs : 0 ≤ seq) : ∀ (es : List Ent) {A : List (Int × (Ent × Int))} {st : Int × Ent}, Side at_ A st → Side at_ (es.foldl (mgStep seq) A) (es.foldl (nwStep seq at_) st)
  | [], _, _, h => h
  | e :: es, _, _, h => side_fold hs es (side_step hs h e)
theorem side_blks {at_ : Int} : ∀ (bs : List Blk) {A : List (Int × (Ent × Int))} {st : Int × Ent}, Side at_ A st → Side at_ (bs.foldl mgBlk A) (bs.foldl (nwBlk at_) st)
  | [], _, _, h => h
  | ⟨seq, es⟩ :: bs, A, st, h => by
    refine side_blks bs ?_
    by_cases q : blkOk seq es
    · rw [mgBlk_ok q, nwBlk_ok q]; exact side_fold q.1.1 es h
    · rw [mgBlk_bad q, nwBlk_bad q]; exact h
theorem find_mg (at_ : Int) (bs : List Blk) : findI at_ (mgF bs) = if 0 ≤ (nwF at_ bs).1 then some ((nwF at_ bs).2, (nwF at_ bs).1) else none := (side_blks bs (A := []) (st := (-1, Ent.zero)) ⟨by simp, by simp [findI]⟩).2
/-- A list that rises, up to a number more. -/
theorem filter_up {l : List Int} (h : l.Pairwise (· < ·)) (k : Int) : l.filter (fun x => decide (x < k + 1)) = l.filter (fun x => decide (x < k)) ++ (if k ∈ l then [k] else []) := by
  induction l with
  | nil => simp
  | cons a r ih =>
    have hp := List.pairwise_cons.1 h
    have ih := ih hp.2
    by_cases h1 : a < k
    · rw [List.filter_cons_of_pos (by simp; omega), List.filter_cons_of_pos (by simpa using h1), ih, List.cons_append]
      have : (k ∈ a :: r) = (k ∈ r) := by simp only [List.mem_cons, eq_iff_iff]; constructor
                                          · rintro (q | q)
                                            · omega
                                            · exact q
                                          · exact .inr
      simp only [this]
    · have hr : ∀ x ∈ r, ¬ x < k + 1 ∧ ¬ x < k := fun x hx => by have := hp.1 x hx; omega
      have e1 : r.filter (fun x => decide (x < k + 1)) = [] := by rw [List.filter_eq_nil_iff]; intro x hx; simpa using (hr x hx).1
      have e2 : r.filter (fun x => decide (x < k)) = [] := by rw [List.filter_eq_nil_iff]; intro x hx; simpa using (hr x hx).2
      have hk : k ∉ r := fun q => by have := hp.1 k q; omega
      by_cases h2 : a = k
      · subst h2
        rw [List.filter_cons_of_pos (by simp; omega), List.filter_cons_of_neg (by simp), e1, e2, if_pos (by simp)]; rfl
      · rw [List.filter_cons_of_neg (by simp; omega), List.filter_cons_of_neg (by simpa using h1), e1, e2, if_neg (by simp [hk]; omega)]; rfl
theorem merge_same (bs : List Blk) : cmF bs = rmF bs 512 := by
  have hin := (mgF_in bs).1
  have hs := srtI_lt hin.1
  have hmem : ∀ k, k ∈ srtI ((mgF bs).map (·.1)) ↔ k ∈ (mgF bs).map (·.1) := fun k => (srtI_perm _).mem_iff
  have key : ∀ n : Nat, rmF bs n = ((srtI ((mgF bs).map (·.1))).filter (fun x => decide (x < (n : Int)))).map (valI (mgF bs)) := by
    intro n
    induction n with
    | zero =>
      have : (srtI ((mgF bs).map (·.1))).filter (fun x => decide (x < ((0 : Nat) : Int))) = [] := by
        rw [List.filter_eq_nil_iff]; intro x hx
        have := (hin.2 x ((hmem x).1 hx)).1
        simp; omega
      rw [this]; rfl
    | succ n ih =>
      have : ((n + 1 : Nat) : Int) = (n : Int) + 1 := rfl
      rw [this, filter_up hs, List.map_append, ← ih]
      show rmF bs n ++ _ = _
      congr 1
      have hf := find_mg n bs
      by_cases h0 : 0 ≤ (nwF n bs).1
      · rw [if_pos h0] at hf ⊢
        have : (n : Int) ∈ srtI ((mgF bs).map (·.1)) := by
          rw [hmem]
          refine Decidable.byContradiction fun q => ?_
          rw [findI_none.2 q] at hf; cases hf
        rw [if_pos this]
        simp only [List.map_cons, List.map_nil, valI, hf]
      · rw [if_neg h0] at hf ⊢
        rw [if_neg (fun q => findI_none.1 hf ((hmem _).1 q))]; rfl
  rw [key 512]
  unfold cmF
  rw [List.filter_eq_self.2]
  intro x hx
  have := (hin.2 x ((hmem x).1 hx)).2
  simp; omega

/-! ### The walk -/
/-- .. and what maps.Keys and slices.Sorted answer. -/
structure StdK (C : Cfg) : Prop extends StdO C where
  keys : ∀ args h, C.S 46 args h = some (keysSum 63 81 args h)
  sorted : ∀ args h, C.S 45 args h = some (sortedISum 63 81 args h)
theorem Sl.one {h : Heap} {sz : Nat} {x : V} {es : List (List V)} (s : Sl h sz x es) : V.one x = true := by
  have := s.2
  split at this <;> first | rfl | exact this.elim
/-- An entry, and its block's number, as the map has them. -/
def nwV (p : Ent × Int) : V := .agg (p.1.v ++ [iv p.2])
theorem nwV_ok (e : Ent) (seq : Int) : nwV (e, seq) = .agg [.str e.key, .str e.sum, iv e.len, iv e.loc, iv seq] := rfl

section
variable {C : Cfg} (S : StdK C)
include S

theorem cmerge_ans (h : Heap) (hw : Wf h) (x : V) (L : List (Blk × V)) (s : Blks h x L) (hn : L.length ≤ 100000) (hne : ∀ p ∈ L, p.1.es.length ≤ 1000000) :
    Ans C 20 [x] h fun v h' => Grown h' h.size 4 v ((cmF (L.map (·.1))).map Ent.v) ∧ Grow h h' := by
  have hF : C.F 20 = some a20 := S.f rfl
  unfold a20 at hF
  refine Ans.loc S.hm (S.s _ _ _ rfl) hF rfl rfl hw (fun h2 g hsz hge => ?_) ?_
  rotate_left
  · exact fun v h1 hg q hv => ⟨q.1.scopd hv h, Grow.refl hw⟩
  clear hF
  refine WC.seqO (WO.ops (StepK.mv rfl) (WO.nil (WC.seqO ?_)))
  refine WO.ops StepK.makeMap ?_
  have m0 := MapI.new nwV h2
  have g3 := g.push (.map [] [] 0)
  have hmb := g.size
  change WO C _ _ (h2.push (.map [] [] 0)) _
  generalize h2.push (.map [] [] 0) = h3 at *
  generalize h2.size = mb at *
  refine WO.ops (StepK.mv rfl) (WO.nil (WC.seq (WC.seqO ?_)))
  refine WO.ops (StepK.mv rfl) <| WO.ops (StepK.lenSl rfl s.len) <| WO.ops (StepK.mv rfl) (WO.nil (WC.block ?_))
  refine WC.loop (σ := Nat) (fun p => [(3, .map (some mb)), (14, x), (15, iv L.length), (16, iv p)]) (fun p h' => Grow h h' ∧ p ≤ L.length ∧ MapI nwV h' mb (mgF ((L.take p).map (·.1)))) (fun p => L.length - p) 0 (Cov.cons rfl (Cov.cons rfl (Cov.cons rfl (Cov.cons rfl (Cov.nil _))))) ⟨g3, by omega, m0⟩ ?_
  rintro p h4 ⟨g4, hp, m4⟩
  refine WC.seqO (WO.ops (StepK.bin rfl rfl rfl) (WO.nil (WC.seq ?_)))
  refine WC.cond rfl (fun hc => WC.skip ?_) (fun hc => WC.exit ?_)
  · have hc := of_decide_eq_true hc
    have hp : p < L.length := by omega
    have hnp := hne _ (List.getElem_mem hp)
    have htake : (L.take (p + 1)).map (·.1) = (L.take p).map (·.1) ++ [L[p].1] := by rw [List.take_succ_eq_append_getElem hp, List.map_append]; rfl
    obtain ⟨c, o, q1, q2, q3, q4, sy⟩ := (s.grow g4).at hp
    have hey : Ents h L[p].2 L[p].1.es := s.2 _ (List.getElem_mem hp)
    generalize L[p] = q at *
    obtain ⟨⟨seq, es⟩, y⟩ := q
    simp only at hnp htake q2 q3 q4 sy hey
    have hfold : mgF ((L.take (p + 1)).map (·.1)) = mgBlk (mgF ((L.take p).map (·.1))) ⟨seq, es⟩ := by
      rw [htake]; unfold mgF; rw [List.foldl_append]; rfl
    generalize mgF ((L.take p).map (·.1)) = A at *
    have next : ∀ (e' : List (Nat × V)) (h9 : Heap), Grow h h9 → MapI nwV h9 mb (mgBlk A ⟨seq, es⟩) → Cov [(3, .map (some mb)), (14, x), (15, iv L.length), (16, iv p)] e' → ∀ Q : Ex → List (Nat × V) → Heap → Prop,
        (∀ e' (p' : Nat), Cov [(3, .map (some mb)), (14, x), (15, iv L.length), (16, iv p')] e' → (Grow h h9 ∧ p' ≤ L.length ∧ MapI nwV h9 mb (mgF ((L.take p').map (·.1)))) → L.length - p' < L.length - p → Q .normal e' h9) →
        WC C (.ops [⟨(some 54), none, .bin .add (.t 16) (.c (.int .i64 (1)))⟩, ⟨(some 16), none, .mv (.t 54)⟩]) e' h9 Q := by
      intro e' h9 g9 m9 cv Q hQ
      refine WC.cov cv (WC.ops ?_)
      refine WO.ops (StepK.add rfl rfl (by omega)) <| WO.ops (StepK.mv rfl) ?_
      exact WO.nil (hQ _ (p + 1) (Cov.cons rfl (Cov.cons rfl (Cov.cons rfl (Cov.cons rfl (Cov.nil _))))) ⟨g9, by omega, by rw [hfold]; exact m9⟩ (by omega))
    refine WC.seq (WC.block (WC.seqO ?_))
    refine WO.ops (StepK.idxSl rfl rfl q1) <| WO.ops (StepK.loadN rfl q2) <| WO.ops StepK.alloc ?_
    have a5 := Cl.new h4 [iv 0, .slice none 0 0] none
    have gp := (Grow.refl g4.wf).push (.cells [iv 0, .slice none 0 0] (.tip [] 0 none))
    have hs4 := g4.size
    have hmb5 : h4.size ≠ mb := by have := m4.lt g4.wf; omega
    have m5 := m4.grow gp
    have g5 := g4.trans gp
    change WO C _ _ (h4.push (.cells [iv 0, .slice none 0 0] (.tip [] 0 none))) _
    generalize h4.push (.cells [iv 0, .slice none 0 0] (.tip [] 0 none)) = h5 at *
    generalize h4.size = b5 at *
    obtain ⟨h6, w1, w2, w3, w4⟩ := a5.sets g5.wf (i := 0) (us := [iv seq, y]) (by simp) (by simp only [List.all_cons, List.all_nil, Sl.one hey, Bool.and_true]; rfl)
    have a6 : Cl h6 b5 [iv seq, y] := w2
    have m6 := m5.chg w3 (by simpa using fun e => hmb5 e.symm)
    have g6 := Chg.newGrow g5 w3 hw (by simpa using hs4)
    refine WO.op (StepK.store rfl rfl rfl w1) ?_
    refine WO.nil (WC.seq (WC.seqO ?_))
    refine WO.ops (StepK.loadN rfl (a6.rds rfl)) ?_
    refine WO.call rfl rfl (ccheck_ans S.toStdO h6 g6.wf seq y es (hey.grow g6) (by omega)) ?_
    rintro v h7 ⟨rfl, g7⟩
    have a7 := a6.grow g7
    have m7 := m6.grow g7
    have g7 := g6.trans g7
    refine WO.ops (StepK.bin rfl rfl rfl) ?_
    refine WO.nil (WC.cond rfl (fun hk => WC.exit ?_) (fun hk => WC.skip (WC.seqO ?_)))
    · have hno : ¬ blkOk seq es := by
        intro q
        have : codeF seq es = 0 := by unfold codeF; rw [if_pos q]
        rw [this] at hk; cases hk
      refine next _ h7 g7 (by rw [mgBlk_bad hno]; exact m7) (Cov.cons rfl (Cov.cons rfl (Cov.cons rfl (Cov.cons rfl (Cov.nil _))))) _ (fun e' s' cv hI hm => ⟨s', cv, hI, hm⟩)
    have hb : blkOk seq es := by
      have hk : codeF seq es = 0 := by simpa using hk
      unfold codeF at hk; split at hk
      · assumption
      · cases hk
    refine WO.ops (StepK.fieldAddr rfl) <| WO.ops (StepK.load1 rfl (a7.rd rfl)) <| WO.ops (StepK.lenSl rfl hey.len) <| WO.ops (StepK.mv rfl) (WO.nil (WC.block ?_))
    refine WC.loop (σ := Nat) (fun k => [(3, .map (some mb)), (5, .ptr (some (b5, 0))), (14, x), (15, iv L.length), (16, iv p), (24, y), (25, iv es.length), (26, iv k)])
      (fun k h' => Grow h h' ∧ k ≤ es.length ∧ Cl h' b5 [iv seq, y] ∧ MapI nwV h' mb ((es.take k).foldl (mgStep seq) A)) (fun k => es.length - k) 0 (Cov.cons rfl (Cov.cons rfl (Cov.cons rfl (Cov.cons rfl (Cov.cons rfl (Cov.cons rfl (Cov.cons rfl (Cov.cons rfl (Cov.nil _))))))))) ⟨g7, by omega, a7, m7⟩ ?_
    clear a7 m7 g7 a6 m6 g6 w3 w2 w1 m5 a5
    rintro k h8 ⟨g8, hk, a8, m8⟩
    refine WC.seqO (WO.ops (StepK.bin rfl rfl rfl) (WO.nil (WC.seq ?_)))
    refine WC.cond rfl (fun hc => WC.skip ?_) (fun hc => WC.exit ?_)
    rotate_left
    · have hc := of_decide_eq_false hc
      obtain rfl : k = es.length := by omega
      rw [List.take_length] at m8
      refine next _ h8 g8 (by rw [mgBlk_ok hb]; exact m8) (Cov.cons rfl (Cov.cons rfl (Cov.cons rfl (Cov.cons rfl (Cov.nil _))))) _ (fun e' s' cv hI hm => ⟨s', cv, hI, hm⟩)
    have hc := of_decide_eq_true hc
    have hk : k < es.length := by omega
    obtain ⟨d, i, r1, r2, _⟩ := (hey.grow g8).at hk
    have hef : (es.take (k + 1)).foldl (mgStep seq) A = mgStep seq ((es.take k).foldl (mgStep seq) A) es[k] := by rw [List.take_succ_eq_append_getElem hk, List.foldl_append]; rfl
    generalize es[k] = e at *
    generalize (es.take k).foldl (mgStep seq) A = B at *
    refine WC.seq (WC.block (WC.seqO ?_))
    refine WO.ops (StepK.idxSl rfl rfl r1) <| WO.ops (StepK.loadN rfl r2) <| WO.ops StepK.alloc ?_
    have a9 := Cl.new h8 Ent.zero.v none
    have gp := (Grow.refl g8.wf).push (.cells Ent.zero.v (.tip [] 0 none))
    have hs8 := g8.size
    have n1 : h8.size ≠ mb := by have := m8.lt g8.wf; omega
    have n2 : h8.size ≠ b5 := by have := a8.lt g8.wf; omega
    have m8 := m8.grow gp
    have a8 := a8.grow gp
    have g9 := g8.trans gp
    change WO C _ _ (h8.push (.cells Ent.zero.v (.tip [] 0 none))) _
    generalize h8.push (.cells Ent.zero.v (.tip [] 0 none)) = h9 at *
    generalize h8.size = b7 at *
    obtain ⟨h10, w1, w2, w3, w4⟩ := a9.sets g9.wf (i := 0) (us := e.v) (by simp [Ent.v, Ent.zero]) (by rw [List.all_eq_true]; exact ent_one _)
    have a10 : Cl h10 b7 e.v := w2
    have m8 := m8.chg w3 (by simpa using fun e => n1 e.symm)
    have a8 := a8.chg w3 (by simpa using fun e => n2 e.symm)
    have g10 := Chg.newGrow g9 w3 hw (by simpa using hs8)
    refine WO.op (StepK.store rfl rfl rfl w1) ?_
    refine WO.nil (WC.seqO ?_)
    have hlk := m8.look e.loc (.agg [.str [], .str [], iv 0, iv 0, iv 0])
    refine WO.ops (StepK.mv rfl) <| WO.ops (StepK.fieldAddr rfl) <| WO.ops (StepK.load1 rfl (a10.rd (i := 3) rfl)) <| WO.ops (StepK.lookup rfl rfl hlk) ?_
    -- the round's end
    have rnd : ∀ (e' : List (Nat × V)) (h11 : Heap), Grow h h11 → Cl h11 b5 [iv seq, y] → MapI nwV h11 mb (mgStep seq B e) → Cov [(3, .map (some mb)), (5, .ptr (some (b5, 0))), (14, x), (15, iv L.length), (16, iv p), (24, y), (25, iv es.length), (26, iv k)] e' → ∀ Q : Ex → List (Nat × V) → Heap → Prop,
        (∀ e' (k' : Nat), Cov [(3, .map (some mb)), (5, .ptr (some (b5, 0))), (14, x), (15, iv L.length), (16, iv p), (24, y), (25, iv es.length), (26, iv k')] e' → (Grow h h11 ∧ k' ≤ es.length ∧ Cl h11 b5 [iv seq, y] ∧ MapI nwV h11 mb ((es.take k').foldl (mgStep seq) A)) → es.length - k' < es.length - k → Q .normal e' h11) →
        WC C (.ops [⟨(some 53), none, .bin .add (.t 26) (.c (.int .i64 (1)))⟩, ⟨(some 26), none, .mv (.t 53)⟩]) e' h11 Q := by
      intro e' h11 g11 a11 m11 cv Q hQ
      refine WC.cov cv (WC.ops ?_)
      refine WO.ops (StepK.add rfl rfl (by omega)) <| WO.ops (StepK.mv rfl) ?_
      exact WO.nil (hQ _ (k + 1) (Cov.cons rfl (Cov.cons rfl (Cov.cons rfl (Cov.cons rfl (Cov.cons rfl (Cov.cons rfl (Cov.cons rfl (Cov.cons rfl (Cov.nil _))))))))) ⟨g11, by omega, a11, by rw [hef]; exact m11⟩ (by omega))
    -- the entry is put
    have putIt : ∀ (e' : List (Nat × V)) (h11 : Heap), Grow h h11 → Cl h11 b5 [iv seq, y] → Cl h11 b7 e.v → MapI nwV h11 mb B → mgStep seq B e = updI e.loc (e, seq) B → Cov [(3, .map (some mb)), (5, .ptr (some (b5, 0))), (7, .ptr (some (b7, 0))), (14, x), (15, iv L.length), (16, iv p), (24, y), (25, iv es.length), (26, iv k)] e' → ∀ Q : Ex → List (Nat × V) → Heap → Prop,
        (∀ e' h12, Grow h h12 → Cl h12 b5 [iv seq, y] → MapI nwV h12 mb (mgStep seq B e) → Cov [(3, .map (some mb)), (5, .ptr (some (b5, 0))), (14, x), (15, iv L.length), (16, iv p), (24, y), (25, iv es.length), (26, iv k)] e' → Q .normal e' h12) →
        WC C (.ops [⟨(some 46), none, .mv (.t 3)⟩, ⟨(some 47), none, .fieldAddr 3 (.t 7)⟩, ⟨(some 48), none, .load none (.t 47)⟩, ⟨(some 49), none, .load (some 4) (.t 7)⟩, ⟨(some 50), none, .fieldAddr 0 (.t 5)⟩, ⟨(some 51), none, .load none (.t 50)⟩,
           ⟨(some 52), none, .build [(.str []), (.str []), (.int .i64 (0)), (.int .i64 (0)), (.int .i64 (0))] [(0, 4, (.t 49)), (4, 1, (.t 51))]⟩, ⟨none, none, .mapUpd .int (.t 46) (.t 48) (.t 52)⟩]) e' h11 Q := by
      intro e' h11 g11 a11 b11 m11 hup cv Q hQ
      obtain ⟨h12, u1, u2, u3, u4⟩ := m11.upd g11.wf e.loc (e, seq)
      refine WC.cov cv (WC.ops ?_)
      refine WO.ops (StepK.mv rfl) <| WO.ops (StepK.fieldAddr rfl) <| WO.ops (StepK.load1 rfl (b11.rd (i := 3) rfl)) <| WO.ops (StepK.loadN rfl (b11.rds rfl)) <| WO.ops (StepK.fieldAddr rfl) <| WO.ops (StepK.load1 rfl (a11.rd (i := 0) rfl)) <| WO.ops (StepK.build rfl rfl) ?_
      refine WO.op (StepK.mapUpd rfl rfl rfl u1) ?_
      refine WO.nil (hQ _ h12 (Chg.newGrow g11 u3 hw (by simpa using hmb)) (a11.chg u3 (by simpa using hmb5)) (by rw [hup]; exact u2) (Cov.cons rfl (Cov.cons rfl (Cov.cons rfl (Cov.cons rfl (Cov.cons rfl (Cov.cons rfl (Cov.cons rfl (Cov.cons rfl (Cov.nil _))))))))))
    have hms : mgStep seq B e = match findI e.loc B with
      | some w => if w.2 ≤ seq then updI e.loc (e, seq) B else B
      | none => updI e.loc (e, seq) B := rfl
    cases hfi : findI e.loc B with
    | none =>
      simp only [hfi] at hms
      refine WO.ops (StepK.mv rfl) <| WO.ops (StepK.extract rfl rfl) <| WO.ops (StepK.extract rfl rfl) <| WO.ops StepK.alloc ?_
      have a11 := Cl.new h10 [.str [], .str [], iv 0, iv 0, iv 0] none
      have gp := (Grow.refl g10.wf).push (.cells [.str [], .str [], iv 0, iv 0, iv 0] (.tip [] 0 none))
      have hs10 := g10.size
      have n3 : h10.size ≠ mb := by have := m8.lt g10.wf; omega
      have n4 : h10.size ≠ b5 := by have := a8.lt g10.wf; omega
      have n5 : h10.size ≠ b7 := by have := a10.lt g10.wf; omega
      have m8 := m8.grow gp
      have a8 := a8.grow gp
      have a10 := a10.grow gp
      have g11 := g10.trans gp
      change WO C _ _ (h10.push (.cells [.str [], .str [], iv 0, iv 0, iv 0] (.tip [] 0 none))) _
      generalize h10.push (.cells [.str [], .str [], iv 0, iv 0, iv 0] (.tip [] 0 none)) = h11 at *
      generalize h10.size = b8 at *
      obtain ⟨h12, w1, w2, w3, w4⟩ := a11.sets g11.wf (i := 0) (us := [.str [], .str [], iv 0, iv 0, iv 0]) (by simp) rfl
      have m8 := m8.chg w3 (by simpa using fun e => n3 e.symm)
      have a8 := a8.chg w3 (by simpa using fun e => n4 e.symm)
      have a10 := a10.chg w3 (by simpa using fun e => n5 e.symm)
      have g12 := Chg.newGrow g11 w3 hw (by simpa using hs10)
      refine WO.op (StepK.store rfl rfl rfl w1) ?_
      refine WO.ops (StepK.mv rfl) (WO.nil (WC.seqO ?_))
      refine WO.ops (StepK.mv rfl) <| WO.ops (StepK.not rfl) <| WO.ops (StepK.mv rfl) ?_
      (repeat (first | refine omv rfl ?_ | refine ols rfl (by first | with_reducible assumption | rfl) ?_ | refine ofa rfl ?_ | refine oad rfl rfl (by omega) ?_ | refine osb rfl rfl (by omega) ?_ | refine obn rfl rfl rfl ?_ | refine opt rfl rfl ?_ | refine opf rfl rfl ?_ | refine ont rfl ?_ | refine oeq rfl rfl rfl ?_ | refine oex rfl rfl ?_ | refine obu rfl rfl ?_ | refine ofd rfl rfl ?_ | refine olt rfl ?_ | refine onk rfl ?_ | refine old rfl (by first | with_reducible assumption | rfl) ?_ | refine WO.run rfl ?_ | refine WO.skip rfl rfl ?_ | refine WO.skipu rfl ?_))
      refine WO.nil (WC.condT rfl ?_)
      refine putIt _ h12 g12 a8 a10 m8 hms (Cov.cons rfl (Cov.cons rfl (Cov.cons rfl (Cov.cons rfl (Cov.cons rfl (Cov.cons rfl (Cov.cons rfl (Cov.cons rfl (Cov.cons rfl (Cov.nil _)))))))))) _ (fun e' h13 g13 a13 m13 cv => ?_)
      exact rnd e' h13 g13 a13 m13 cv _ (fun e' s' cv hI hm => ⟨s', cv, hI, hm⟩)
    | some w =>
      simp only [hfi] at hms
      refine WO.ops (StepK.mv rfl) <| WO.ops (StepK.extract rfl rfl) <| WO.ops (StepK.extract rfl rfl) <| WO.ops StepK.alloc ?_
      have a11 := Cl.new h10 [.str [], .str [], iv 0, iv 0, iv 0] none
      have gp := (Grow.refl g10.wf).push (.cells [.str [], .str [], iv 0, iv 0, iv 0] (.tip [] 0 none))
      have hs10 := g10.size
      have n3 : h10.size ≠ mb := by have := m8.lt g10.wf; omega
      have n4 : h10.size ≠ b5 := by have := a8.lt g10.wf; omega
      have n5 : h10.size ≠ b7 := by have := a10.lt g10.wf; omega
      have m8 := m8.grow gp
      have a8 := a8.grow gp
      have a10 := a10.grow gp
      have g11 := g10.trans gp
      change WO C _ _ (h10.push (.cells [.str [], .str [], iv 0, iv 0, iv 0] (.tip [] 0 none))) _
      generalize h10.push (.cells [.str [], .str [], iv 0, iv 0, iv 0] (.tip [] 0 none)) = h11 at *
      generalize h10.size = b8 at *
      obtain ⟨w0, ws⟩ := w
      obtain ⟨h12, w1, w2, w3, w4⟩ := a11.sets g11.wf (i := 0) (us := w0.v ++ [iv ws]) (by simp [Ent.v]) (by rw [List.all_append]; rfl)
      have a12 : Cl h12 b8 [.str w0.key, .str w0.sum, iv w0.len, iv w0.loc, iv ws] := w2
      have m8 := m8.chg w3 (by simpa using fun e => n3 e.symm)
      have a8 := a8.chg w3 (by simpa using fun e => n4 e.symm)
      have a10 := a10.chg w3 (by simpa using fun e => n5 e.symm)
      have g12 := Chg.newGrow g11 w3 hw (by simpa using hs10)
      refine WO.op (StepK.store (v := nwV (w0, ws)) rfl rfl rfl w1) ?_
      refine WO.ops (StepK.mv rfl) (WO.nil (WC.seqO ?_))
      refine WO.ops (StepK.mv rfl) <| WO.ops (StepK.not rfl) <| WO.ops (StepK.mv rfl) ?_
      refine WO.run rfl <| WO.ops (StepK.fieldAddr rfl) <| WO.run rfl <| WO.ops (StepK.load1 rfl (a8.rd (i := 0) rfl)) <| WO.run rfl <| WO.ops (StepK.fieldAddr rfl) <| WO.run rfl <| WO.ops (StepK.load1 rfl (a12.rd (i := 4) rfl)) <| WO.run rfl <| WO.ops (StepK.bin rfl rfl rfl) <| WO.ops (StepK.pickF rfl rfl) ?_
      refine WO.nil (WC.cond rfl (fun hq => ?_) (fun hq => WC.skip ?_))
      · have hq : seq ≥ ws := of_decide_eq_true hq
        rw [if_pos hq] at hms
        refine putIt _ h12 g12 a8 a10 m8 hms (Cov.cons rfl (Cov.cons rfl (Cov.cons rfl (Cov.cons rfl (Cov.cons rfl (Cov.cons rfl (Cov.cons rfl (Cov.cons rfl (Cov.cons rfl (Cov.nil _)))))))))) _ (fun e' h13 g13 a13 m13 cv => ?_)
        exact rnd e' h13 g13 a13 m13 cv _ (fun e' s' cv hI hm => ⟨s', cv, hI, hm⟩)
      · have hq : ¬ seq ≥ ws := of_decide_eq_false hq
        rw [if_neg hq] at hms
        exact rnd _ h12 g12 a8 (by rw [hms]; exact m8) (Cov.cons rfl (Cov.cons rfl (Cov.cons rfl (Cov.cons rfl (Cov.cons rfl (Cov.cons rfl (Cov.cons rfl (Cov.cons rfl (Cov.nil _))))))))) _ (fun e' s' cv hI hm => ⟨s', cv, hI, hm⟩)
  have hc := of_decide_eq_false hc
  obtain rfl : p = L.length := by omega
  rw [List.take_length] at m4
  have hcm : cmF (L.map (·.1)) = (srtI ((mgF (L.map (·.1))).map (·.1))).map (valI (mgF (L.map (·.1)))) := rfl
  rw [hcm]
  obtain ⟨hin, hlen⟩ := mgF_in (L.map (·.1))
  rw [List.length_map] at hlen
  generalize mgF (L.map (·.1)) = A at *
  refine WC.seqO (WO.ops (StepK.mv rfl) (WO.nil (WC.seq (WC.seqO ?_))))
  obtain ⟨f, h5, k1, k2, x5, h6, k3, k4, k5⟩ := keys_sorted (fI := 63) (mt := 81) g4.wf m4 (fun k hk => by have := hin.2 k hk; omega) (by omega)
  refine WO.ops (StepK.mv rfl) ?_
  refine WO.call rfl rfl (Ans.sum (R := fun v h' => v = f ∧ h' = h5) (by rw [← k1]; exact S.keys _ _) ⟨rfl, rfl⟩) ?_
  rintro v h5' ⟨rfl, rfl⟩
  refine WO.call rfl rfl (Ans.sum (R := fun v h' => v = x5 ∧ h' = h6) (by rw [← k3]; exact S.sorted _ _) ⟨rfl, rfl⟩) ?_
  rintro v h6' ⟨rfl, rfl⟩
  have m6 := m4.grow k4
  have lmb := m6.lt k4.wf
  have g6 := g4.trans k4
  have hkl : (srtI (A.map (·.1))).length = A.length := by rw [(srtI_perm _).length_eq, List.length_map]
  have hkm : ∀ k ∈ srtI (A.map (·.1)), k ∈ A.map (·.1) := fun k hk => (srtI_perm _).mem_iff.1 hk
  generalize srtI (A.map (·.1)) = ks at *
  have hl5 := k5.sl.len
  rw [List.length_map] at hl5
  refine WO.ops (StepK.lenSl rfl hl5) <| WO.ops (StepK.mv rfl) (WO.nil (WC.block ?_))
  have s4 := g4.size
  refine WC.loop (σ := Nat × V) (fun p => [(3, .map (some mb)), (10, p.2), (57, v), (58, iv ks.length), (59, iv p.1)])
    (fun p h' => Grow h h' ∧ p.1 ≤ ks.length ∧ MapI nwV h' mb A ∧ IntsL h' h4.size v ks ∧ Grown h' h.size 4 p.2 (((ks.take p.1).map (valI A)).map Ent.v) ∧ Off p.2 mb ∧ (∀ b o l k z, v = .oslice b o l k z → Off p.2 b)) (fun p => ks.length - p.1) (0, .slice none 0 0)
    (Cov.cons rfl (Cov.cons rfl (Cov.cons rfl (Cov.cons rfl (Cov.cons rfl (Cov.nil _)))))) ⟨g6, by omega, m6, k5, Grown.nil _ _ _, Off.nil _, fun b _ _ _ _ _ => Off.nil b⟩ ?_
  clear k5 m6 g6 k4 k3 k1 k2 m4 hl5 lmb
  rintro ⟨p, y⟩ h7 ⟨g7, hp, m7, i7, gy, o1, o2⟩
  simp only at hp gy o1 o2 ⊢
  refine WC.seqO (WO.ops (StepK.bin rfl rfl rfl) (WO.nil (WC.seq ?_)))
  refine WC.cond rfl (fun hc => WC.skip ?_) (fun hc => WC.exit ?_)
  · have hc := of_decide_eq_true hc
    have hp : p < ks.length := by omega
    obtain ⟨b, o, q1, q2⟩ := Sl.at i7.sl (i := p) (by simpa using hp)
    rw [List.getElem_map] at q2
    have q3 : h7.rd b o = some (iv ks[p]) := rds_rd q2 (j := 0) rfl
    have htake : ks.take (p + 1) = ks.take p ++ [ks[p]] := by rw [List.take_succ_eq_append_getElem hp]
    obtain ⟨w, hw1⟩ := findI_mem (hkm _ (List.getElem_mem hp))
    have hlk := m7.look1 ks[p] (.agg [.str [], .str [], iv 0, iv 0, iv 0])
    rw [hw1] at hlk
    have hval : valI A ks[p] = w.1 := by unfold valI; rw [hw1]
    generalize ks[p] = kk at *
    refine WC.seq (WC.block (WC.seqO ?_))
    refine WO.ops (StepK.idxSl rfl rfl q1) <| WO.ops (StepK.load1 rfl q3) <| WO.ops (StepK.mv rfl) (WO.nil (WC.ops ?_))
    have hfd : aggOf (some 4) (w.1.v ++ [iv w.2]) 0 = some (.agg w.1.v) := rfl
    refine WO.ops (StepK.mv rfl) <| WO.ops (StepK.mv rfl) <| WO.ops (StepK.mv rfl) <| WO.ops (StepK.lookup rfl rfl hlk) <| WO.ops (StepK.field rfl hfd) <| WO.ops (StepK.buildSl rfl rfl) ?_
    have gp := (Grow.refl g7.wf).push (.cells w.1.v (.tip [] 0 none))
    have hnew : (h7.push (.cells w.1.v (.tip [] 0 none))).get h7.size = some (.cells w.1.v (.tip [] 0 none)) := get_push_self _ _
    have g8 := g7.trans gp
    have lmb := m7.lt g7.wf
    have hlv : ∀ b o l k z, v = .oslice b o l k z → b < h7.size := by
      intro b o l k z e
      obtain ⟨_, ⟨q, _⟩ | ⟨b', S', ty, q, _, _, q4⟩⟩ := i7
      · rw [q] at e; cases e
      · rw [q] at e; cases e; exact Wf.lt g7.wf q4
    have m7 := m7.grow gp
    have i7 : IntsL _ h4.size v ks := i7.grow gp
    have gy := gy.grow gp
    have hsz8 := gp.size
    change WO C _ _ (h7.push (.cells w.1.v (.tip [] 0 none))) _
    generalize h7.push (.cells w.1.v (.tip [] 0 none)) = h8 at *
    obtain ⟨z, h9, u1, u2, u3, u4, u5⟩ := Grown.append2 (bytes := 48) (tyK := none) hw g8 gy (sl_one hnew (ent_len _)) (by decide) (by decide) (roomy48 (by simp; omega)) (by simpa using ent_one _)
    refine WO.ops (StepK.append rfl rfl u1) <| WO.ops (StepK.mv rfl) (WO.nil (WC.ops ?_))
    refine WO.ops (StepK.add rfl rfl (by omega)) <| WO.ops (StepK.mv rfl) ?_
    refine WO.nil ⟨(p + 1, z), Cov.cons rfl (Cov.cons rfl (Cov.cons rfl (Cov.cons rfl (Cov.cons rfl (Cov.nil _))))), ⟨u3, by simp only; omega, m7.frm u4 o1, i7.frame (fun b o hg o2' l k z' e => u4 b o hg (o2 b o2' l k z' e)), ?_, u5 mb (by omega) o1, fun b o l k z' e => u5 b (by have := hlv b o l k z' e; omega) (o2 b o l k z' e)⟩, by simp only; omega⟩
    simp only [htake, List.map_append, List.map_cons, List.map_nil, hval]
    exact u2
  · have hc := of_decide_eq_false hc
    obtain rfl : p = ks.length := by omega
    rw [List.take_length] at gy
    refine WC.seqO (WO.ops (StepK.mv rfl) <| WO.ops (StepK.mv rfl) ?_)
    exact WO.nil (WC.ret ⟨trivial, _, rfl, fun n => ⟨gy.same (fun _ => rfl), g7.low1 n⟩⟩)
end
end Abs
end Go.Proofs.YthdgjjggndfbhaaDoor
