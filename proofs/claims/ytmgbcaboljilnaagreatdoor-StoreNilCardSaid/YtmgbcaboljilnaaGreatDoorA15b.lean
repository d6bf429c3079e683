/- The abstract machine's code is the model's: regions whose order is drawn. -/
import Derived.Test.YtmgbcaboljilnaaGreatDoorA15
import Derived.OrdersIn
namespace Go.Proofs.YtmgbcaboljilnaaGreatDoor
namespace Abs
set_option linter.unusedVariables false
set_option linter.unusedSimpArgs false
open Go.RowKit

/-! ### What an operation reads -/
theorem ev_congr {tm tm' : TM} {x : Opd} (h : ∀ t ∈ x.reads, tm.get t = tm'.get t) : ev tm x = ev tm' x := by
  cases x with
  | t i => exact h i (by simp [Opd.reads])
  | c v => rfl
theorem evo_congr {tm tm' : TM} {x : Option Opd} (h : ∀ t ∈ oreads x, tm.get t = tm'.get t) : evo tm x = evo tm' x := by
  cases x with
  | none => rfl
  | some x => simp only [evo]; rw [ev_congr (x := x) h]
theorem evs_congr {tm tm' : TM} : ∀ {x : List Opd}, (∀ t ∈ lreads x, tm.get t = tm'.get t) → evs tm x = evs tm' x
  | [], _ => rfl
  | x :: r, h => by
    unfold evs
    rw [ev_congr (x := x) fun t ht => h t (by simp [lreads, ht]), evs_congr (x := r) fun t ht => h t (by simp [lreads, ht])]
theorem evParts_congr {tm tm' : TM} : ∀ {x : List (Nat × Nat × Opd)}, (∀ t ∈ preads x, tm.get t = tm'.get t) → evParts tm x = evParts tm' x
  | [], _ => rfl
  | (a, b, x) :: r, h => by
    unfold evParts
    rw [ev_congr (x := x) fun t ht => h t (by simp [preads, ht]), evParts_congr (x := r) fun t ht => h t (by simp [preads, ht])]

theorem opK_congr {k : K} {tm tm' : TM} {h : Heap} (hr : ∀ t ∈ k.reads, tm.get t = tm'.get t) : opK k tm h = opK k tm' h := by
  cases k <;> simp only [K.reads, List.mem_append] at hr <;> simp only [opK]
  case pick c a b =>
    rw [ev_congr (x := c) fun t ht => hr t (.inl (.inl ht))]
    split
    · rename_i t ht
      cases t
      · simp only [Bool.false_eq_true, if_false]; rw [ev_congr (x := b) fun t ht => hr t (.inr ht)]
      · simp only [if_true]; rw [ev_congr (x := a) fun t ht => hr t (.inl (.inr ht))]
    · rfl
  case build z ps => rw [evParts_congr hr]
  case buildSl z n ps => rw [evParts_congr hr]
  case sliceStr x lo hi => rw [ev_congr (x := x) fun t ht => hr t (.inl (.inl ht)), evo_congr (x := lo) fun t ht => hr t (.inl (.inr ht)), evo_congr (x := hi) fun t ht => hr t (.inr ht)]
  case sliceArr n sz x lo hi => rw [ev_congr (x := x) fun t ht => hr t (.inl (.inl ht)), evo_congr (x := lo) fun t ht => hr t (.inl (.inr ht)), evo_congr (x := hi) fun t ht => hr t (.inr ht)]
  case sliceSl sz x lo hi mx => rw [ev_congr (x := x) fun t ht => hr t (.inl (.inl (.inl ht))), evo_congr (x := lo) fun t ht => hr t (.inl (.inl (.inr ht))), evo_congr (x := hi) fun t ht => hr t (.inl (.inr ht)), evo_congr (x := mx) fun t ht => hr t (.inr ht)]
  case mapUpd kk m k v => rw [ev_congr (x := m) fun t ht => hr t (.inl (.inl ht)), ev_congr (x := k) fun t ht => hr t (.inl (.inr ht)), ev_congr (x := v) fun t ht => hr t (.inr ht)]
  case minN mx xs => rw [evs_congr (x := xs) hr]
  case entSt m s x => rw [ev_congr (x := m) fun t ht => hr t (.inl (.inl ht)), ev_congr (x := s) fun t ht => hr t (.inl (.inr ht)), ev_congr (x := x) fun t ht => hr t (.inr ht)]
  case mkFn fn a b => rw [evs_congr (x := a) fun t ht => hr t (.inl ht), evs_congr (x := b) fun t ht => hr t (.inr ht)]
  all_goals first
    | rfl
    | (rename_i x; rw [ev_congr (x := x) hr]; done)
    | (rename_i x y; rw [ev_congr (x := x) fun t ht => hr t (.inl ht), ev_congr (x := y) fun t ht => hr t (.inr ht)]; done)

theorem opA_congr {call : CallF} {k : K} {tm tm' : TM} {h : Heap} (hr : ∀ t ∈ k.reads, tm.get t = tm'.get t) : opA call k tm h = opA call k tm' h := by
  cases hcall : k.calls with
  | true =>
    cases k <;> first | (cases hcall; done) | skip
    all_goals
      simp only [K.reads, List.mem_append] at hr
      simp only [opA]
      rename_i f args
      rw [ev_congr (x := f) fun t ht => hr t (.inl ht), evs_congr (x := args) fun t ht => hr t (.inr ht)]
  | false => rw [opA_nc hcall, opA_nc hcall, opK_congr hr]

theorem wantedA_congr {o : AOp} {tm tm' : TM} (hr : ∀ t ∈ o.reads, tm.get t = tm'.get t) : wantedA tm o.guard = wantedA tm' o.guard := by
  cases hg : o.guard with
  | none => rfl
  | some p =>
    obtain ⟨t, b⟩ := p
    simp only [wantedA]
    rw [hr t (by simp [AOp.reads, hg])]

/-! ### The trace -/
def stH (tr : List (DOp × Log)) (h' : Heap) (q : Nat) : Heap := match tr[q]? with
  | some x => x.2.h
  | none => h'
def stTm (tr : List (DOp × Log)) (tm' : TM) (q : Nat) : TM := match tr[q]? with
  | some x => x.2.tm
  | none => tm'

structure StepAt (call : CallF) (d : DOp) (L : Log) (tm2 : TM) (h2 : Heap) : Prop where
  o : L.o = d.o
  put : tm2 = TM.put L.tm d.o.dst L.v
  is : (L.ran = false ∧ wantedA L.tm d.o.guard = some false ∧ h2 = L.h ∧ L.v = undefV) ∨ (L.ran = true ∧ wantedA L.tm d.o.guard = some true ∧ opA call d.o.k L.tm L.h = some (L.v, h2))

theorem trace_ok {call : CallF} : ∀ (l : List DOp) {tm tm' : TM} {h h' : Heap} {tr : List (DOp × Log)}, traceDraw call l tm h = some (tr, tm', h') →
    stTm tr tm' 0 = tm ∧ stH tr h' 0 = h ∧ tr.map (·.1) = l ∧ ∀ q d L, tr[q]? = some (d, L) → StepAt call d L (stTm tr tm' (q + 1)) (stH tr h' (q + 1))
  | [], tm, tm', h, h', tr, hx => by
    cases hx
    exact ⟨rfl, rfl, rfl, fun q d L hq => by simp at hq⟩
  | d :: r, tm, tm', h, h', tr, hx => by
    unfold traceDraw at hx
    split at hx
    · rename_i hw
      split at hx
      · rename_i tr2 tm2 h2 hh
        cases hx
        obtain ⟨q1, q2, q3, q4⟩ := trace_ok r hh
        refine ⟨rfl, rfl, by simp [q3], fun q d' L hq => ?_⟩
        cases q with
        | zero =>
          simp at hq
          obtain ⟨rfl, rfl⟩ := hq
          have e1 : stTm ((d, ({ o := d.o, ran := false, tm := tm, h := h, v := undefV } : Log)) :: tr2) tm' (0 + 1) = stTm tr2 tm' 0 := by simp [stTm]
          have e2 : stH ((d, ({ o := d.o, ran := false, tm := tm, h := h, v := undefV } : Log)) :: tr2) h' (0 + 1) = stH tr2 h' 0 := by simp [stH]
          rw [e1, e2, q1, q2]
          exact ⟨rfl, rfl, .inl ⟨rfl, hw, rfl, rfl⟩⟩
        | succ q =>
          have := q4 q d' L (by simpa using hq)
          simpa [stTm, stH] using this
      · cases hx
    · rename_i hw
      split at hx
      · rename_i v h3 hop
        split at hx
        · rename_i tr2 tm2 h2 hh
          cases hx
          obtain ⟨q1, q2, q3, q4⟩ := trace_ok r hh
          refine ⟨rfl, rfl, by simp [q3], fun q d' L hq => ?_⟩
          cases q with
          | zero =>
            simp at hq
            obtain ⟨rfl, rfl⟩ := hq
            have e1 : stTm ((d, ({ o := d.o, ran := true, tm := tm, h := h, v := v } : Log)) :: tr2) tm' (0 + 1) = stTm tr2 tm' 0 := by simp [stTm]
            have e2 : stH ((d, ({ o := d.o, ran := true, tm := tm, h := h, v := v } : Log)) :: tr2) h' (0 + 1) = stH tr2 h' 0 := by simp [stH]
            rw [e1, e2, q1, q2]
            exact ⟨rfl, rfl, .inr ⟨rfl, hw, hop⟩⟩
          | succ q =>
            have := q4 q d' L (by simpa using hq)
            simpa [stTm, stH] using this
        · cases hx
      · cases hx
    · cases hx

/-- Where it may come later, it has been tried. -/
theorem tail_ok (l : Log) (p : Nat) : ∀ (r : List (DOp × Log)) (hN : Heap), okTail l p r hN = true → ∀ c, (c = r.length ∨ ∃ d L, r[c]? = some (d, L) ∧ d.o.k.isC = true) →
    (∀ c' d L, c' < c → r[c']? = some (d, L) → d.o.k.isC = true → d.anc.contains p = false) → okLater l (stH r hN c) = true
  | [], hN, hok, c, hc, hn => by
    rcases hc with rfl | ⟨d, L, hd, _⟩
    · exact hok
    · simp at hd
  | (d, L) :: r, hN, hok, c, hc, hn => by
    unfold okTail at hok
    cases c with
    | zero =>
      rcases hc with hc | ⟨d', L', hd, hC⟩
      · simp at hc
      · simp at hd
        obtain ⟨rfl, rfl⟩ := hd
        rw [if_pos hC] at hok
        simp only [Bool.and_eq_true] at hok
        simpa [stH] using hok.1
    | succ c =>
      have hrec : okTail l p r hN = true := by
        by_cases hC : d.o.k.isC = true
        · rw [if_pos hC] at hok
          simp only [Bool.and_eq_true, Bool.or_eq_true] at hok
          have := hn 0 d L (by omega) (by simp) hC
          rcases hok.2 with h1 | h1
          · rw [this] at h1; cases h1
          · exact h1
        · rw [if_neg hC] at hok; exact hok
      have := tail_ok l p r hN hrec c (by
        rcases hc with hc | ⟨d', L', hd, hC⟩
        · left; simp at hc; omega
        · right; exact ⟨d', L', by simpa using hd, hC⟩) (fun c' d' L' h1 h2 h3 => hn (c' + 1) d' L' (by omega) (by simpa using h2) h3)
      simpa [stH] using this

theorem all_ok : ∀ (q0 : Nat) (tr : List (DOp × Log)) (hN : Heap), okAll q0 tr hN = true → ∀ p d L, tr[p]? = some (d, L) → d.o.k.isC = false → okTail L (q0 + p) (tr.drop (p + 1)) hN = true
  | q0, [], hN, _, p, d, L, hp, _ => by simp at hp
  | q0, (d0, L0) :: r, hN, hok, p, d, L, hp, hC => by
    unfold okAll at hok
    simp only [Bool.and_eq_true, Bool.or_eq_true] at hok
    cases p with
    | zero =>
      simp at hp
      obtain ⟨rfl, rfl⟩ := hp
      rcases hok.1 with h1 | h1
      · rw [hC] at h1; cases h1
      · simpa using h1
    | succ p =>
      have := all_ok (q0 + 1) r hN hok.2 p d L (by simpa using hp) hC
      rwa [show q0 + 1 + p = q0 + (p + 1) by omega] at this

theorem later_at {tr : List (DOp × Log)} {hN : Heap} (hok : okAll 0 tr hN = true) {p c : Nat} {d : DOp} {L : Log} (hp : tr[p]? = some (d, L)) (hC : d.o.k.isC = false) (hpc : p < c) (hcN : c ≤ tr.length)
    (hc : c = tr.length ∨ ∃ d L, tr[c]? = some (d, L) ∧ d.o.k.isC = true) (hn : ∀ c' d L, p < c' → c' < c → tr[c']? = some (d, L) → d.o.k.isC = true → d.anc.contains p = false) : okLater L (stH tr hN c) = true := by
  have h1 := all_ok 0 tr hN hok p d L hp hC
  rw [Nat.zero_add] at h1
  have h2 := tail_ok L p (tr.drop (p + 1)) hN h1 (c - (p + 1)) (by
    rcases hc with hc | ⟨d', L', hd, hC'⟩
    · left; rw [List.length_drop]; omega
    · right; exact ⟨d', L', by rw [List.getElem?_drop, show p + 1 + (c - (p + 1)) = c by omega]; exact hd, hC'⟩)
    (fun c' d' L' q1 q2 q3 => hn (p + 1 + c') d' L' (by omega) (by omega) (by rwa [List.getElem?_drop] at q2) q3)
  have e : stH (tr.drop (p + 1)) hN (c - (p + 1)) = stH tr hN c := by
    unfold stH
    rw [List.getElem?_drop, show p + 1 + (c - (p + 1)) = c by omega]
  rwa [e] at h2

theorem sameObj_eq {x y : Option Obj} (h : sameObj x y = true) : x = y ∧ ∃ o, x = some o := by
  unfold sameObj at h
  split at h
  · simp only [Bool.and_eq_true, beq_iff_eq, decide_eq_true_eq] at h
    rw [V.beqs_eq _ _ h.1.1, h.1.2, h.2]
    exact ⟨rfl, _, rfl⟩
  · exact ⟨rfl, _, rfl⟩
  · cases h

/-! ### The checks on a drawn region's list -/
structure Chk (ops : Array Oper) (l : List DOp) : Prop where
  len : l.length = ops.size
  all : ∀ i, i < ops.size → ∃ (q : Nat) (d : DOp), l[q]? = some d ∧ d.idx = i
  lt : ∀ (q : Nat) (d : DOp), l[q]? = some d → d.idx < ops.size
  anc : ∀ (q : Nat) (d : DOp), l[q]? = some d → ∀ p ∈ d.anc, p < q
  edge : ∀ (q : Nat) (d : DOp) (o : Oper), l[q]? = some d → ops[d.idx]? = some o → ∀ e ∈ o.after.toList, Region.binds .any e = true → ∃ (p : Nat) (d' : DOp), p ∈ d.anc ∧ l[p]? = some d' ∧ d'.idx = e.on
  from_ : ∀ (q : Nat) (d : DOp) (o : Oper), l[q]? = some d → ops[d.idx]? = some o → ∀ p ∈ d.anc, ∃ (e : Edge) (r : Nat) (d' : DOp), e ∈ o.after.toList ∧ Region.binds .any e = true ∧ l[r]? = some d' ∧ d'.idx = e.on ∧ (p = r ∨ p ∈ d'.anc)
  pair : ∀ (q : Nat) (d : DOp) (p : Nat) (d' : DOp), l[q]? = some d → l[p]? = some d' → p < q → d'.idx ≠ d.idx ∧ (p ∈ d.anc ∨ (clash d'.o d.o = false ∧ d'.o.k.isC = false))

theorem drawPos_of {l : List DOp} {i r : Nat} (h : drawPos l i = some r) : ∃ d, l[r]? = some d ∧ d.idx = i := by
  unfold drawPos at h
  rw [List.findIdx?_eq_some_iff_getElem] at h
  obtain ⟨h1, h2, _⟩ := h
  exact ⟨l[r], List.getElem?_eq_getElem h1, by simpa using h2⟩

theorem chk_of {ops : Array Oper} {l : List DOp} (h : chkAll ops l = true) : Chk ops l := by
  unfold chkAll at h
  simp only [Bool.and_eq_true, beq_iff_eq, List.all_eq_true] at h
  obtain ⟨⟨hlen, hsur⟩, hall⟩ := h
  have one : ∀ q d, l[q]? = some d → chkOne ops l q d = true := by
    intro q d hq
    have hlt : q < l.length := (List.getElem?_eq_some_iff.1 hq).1
    have := hall q (by simpa using hlt)
    rw [hq] at this
    exact this
  have parts : ∀ q d, l[q]? = some d → _ := fun q d hq => by
    have h1 := one q d hq
    unfold chkOne at h1
    simp only [Bool.and_eq_true, decide_eq_true_eq, List.all_eq_true] at h1
    exact h1
  refine ⟨hlen, fun i hi => ?_, fun q d hq => (parts q d hq).1.1.1.1, fun q d hq p hp => (parts q d hq).1.1.1.2 p hp, fun q d o hq ho e he hb => ?_, fun q d o hq ho p hp => ?_, fun q d p d' hq hp hlt => ?_⟩
  · have h1 := hsur i (by simpa using hi)
    obtain ⟨r, hr⟩ := Option.isSome_iff_exists.1 h1
    obtain ⟨d, hd, he⟩ := drawPos_of hr
    exact ⟨r, d, hd, he⟩
  · have h1 := (parts q d hq).1.1.2
    rw [ho] at h1
    simp only [Option.map_some, Option.getD_some, List.all_eq_true, Bool.or_eq_true, Bool.not_eq_true', List.any_eq_true] at h1
    rcases h1 e he with h2 | ⟨p, h2, h3⟩
    · rw [hb] at h2; cases h2
    · split at h3
      · rename_i d' hd'
        exact ⟨p, d', h2, hd', by simpa using h3⟩
      · cases h3
  · have h1 := (parts q d hq).1.2 p hp
    rw [ho] at h1
    simp only [Option.map_some, Option.getD_some, List.any_eq_true, Bool.and_eq_true] at h1
    obtain ⟨e, he, hb, h2⟩ := h1
    split at h2
    · rename_i r hr
      obtain ⟨d', hd', hi⟩ := drawPos_of hr
      refine ⟨e, r, d', he, hb, hd', hi, ?_⟩
      simp only [Bool.or_eq_true, beq_iff_eq] at h2
      rcases h2 with h2 | h2
      · exact .inl h2
      · rw [hd'] at h2
        exact .inr (by simpa using h2)
    · cases h2
  · have h1 := (parts q d hq).2 p (by simpa using hlt)
    rw [hp] at h1
    simp only [Bool.and_eq_true, Bool.not_eq_true', beq_eq_false_iff_ne, Bool.or_eq_true] at h1
    refine ⟨h1.1, ?_⟩
    rcases h1.2 with h2 | h2
    · exact .inl (by simpa using h2)
    · exact .inr h2

theorem drawList_ok {P : Program} {ops : Array Oper} {nt : Nat} {b : Array Nat} {perm : List Nat} : ∀ (q : Nat) (r : List Nat) {l : List DOp}, drawList P ops nt b perm q r = some l → ∀ (j : Nat) (d : DOp), l[j]? = some d → ∃ o, ops[d.idx]? = some o ∧ opC P ops nt o = some d.o
  | q, [], l, h, j, d, hj => by cases h; simp at hj
  | q, i :: r, l, h, j, d, hj => by
    unfold drawList at h
    split at h
    · rename_i d0 l0 h0 h1
      cases h
      cases j with
      | zero =>
        simp at hj
        subst hj
        unfold drawOne at h0
        split at h0
        · rename_i o ho
          split at h0
          · rename_i a ha
            cases h0
            exact ⟨o, ho, ha⟩
          · cases h0
        · cases h0
      | succ j => exact drawList_ok (q + 1) r h1 j d (by simpa using hj)
    · cases h
end Abs
end Go.Proofs.YtmgbcaboljilnaaGreatDoor
