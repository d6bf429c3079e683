/- The abstract machine's code is the model's: a drawn region, in whatever order its edges allow. -/
import Derived.Test.YtmgbcaboljilnaaGreatDoorA15b
namespace Go.Proofs.YtmgbcaboljilnaaGreatDoor
namespace Abs
set_option linter.unusedVariables false
set_option linter.unusedSimpArgs false
open Go.RowKit

section
variable {P : Program} {B : Nat} {w0 : World}

/-- Which places are done. -/
def DoneAt (l : List DOp) (listed : Array Bool) (q : Nat) : Bool := match l[q]? with
  | some d => listed.getD d.idx false
  | none => false

/-- The temporaries behind the places that are done. -/
noncomputable def tmD (tr : List (DOp × Log)) (D : Nat → Bool) (tm : TM) : Nat → TM
  | 0 => tm
  | q + 1 => match tr[q]? with
    | some (d, L) => if D q then TM.put (tmD tr D tm q) d.o.dst L.v else tmD tr D tm q
    | none => tmD tr D tm q

theorem calls_of_isC {k : K} (h : k.isC = false) : k.calls = false := by cases k <;> first | rfl | (cases h; done)
theorem calls_of_alloc {k : K} (h : k.isAlloc = true) : k.calls = false := by cases k <;> first | rfl | (cases h; done)
theorem put_get (tm : TM) (dst : Option Nat) (v : V) (t : Nat) : (TM.put tm dst v).get t = if dst = some t then some v else tm.get t := by
  cases dst with
  | none => simp [TM.put]
  | some d =>
    simp only [TM.put, TM.get_set, Option.some.injEq]
    by_cases h : t = d
    · rw [if_pos h, if_pos h.symm]
    · rw [if_neg h, if_neg (Ne.symm h)]

theorem clash_reads {x y : AOp} (h : clash x y = false) : (∀ d, x.dst = some d → d ∉ y.reads ∧ y.dst ≠ some d) ∧ (∀ d, y.dst = some d → d ∉ x.reads) := by
  unfold clash at h
  simp only [Bool.or_eq_false_iff] at h
  refine ⟨fun d hd => ?_, fun d hd => ?_⟩
  · have := h.1
    rw [hd] at this
    simp only [Bool.or_eq_false_iff] at this
    refine ⟨by simpa using this.1, ?_⟩
    intro e
    rw [e] at this
    simp at this
  · have := h.2
    rw [hd] at this
    simpa using this

structure Inv (P : Program) (B : Nat) (w0 : World) (l : List DOp) (tr : List (DOp × Log)) (tm : TM) (h0 h' : Heap) (ρ0 : Rho) (nt : Nat) (ds : List Deferred) (D : Nat → Bool) (a : Act) (w : World) (ρ : Rho) (qs : Nat) : Prop where
  closed : ∀ q d, l[q]? = some d → D q = true → ∀ p ∈ d.anc, D p = true
  le : qs ≤ l.length
  edge : qs = l.length ∨ ∃ d, l[qs]? = some d ∧ d.o.k.isC = true ∧ D qs = false
  before : ∀ c d, c < qs → l[c]? = some d → d.o.k.isC = true → D c = true
  rel : Rel P B w0 ρ (stH tr h' qs) w
  tms : TMR ρ nt (tmD tr D tm l.length) a.tmps
  pend : ∀ p d L, p < qs → tr[p]? = some (d, L) → L.ran = true → d.o.k.isAlloc = true → D p = false → ρ L.h.size = none
  defers : a.defers = ds
  new : New ρ0 ρ h0.size

variable {call : CallF} {l : List DOp} {tr : List (DOp × Log)} {tm tm' : TM} {h0 h' : Heap}

/-- What is known of a trace. -/
structure TrOk (call : CallF) (l : List DOp) (tr : List (DOp × Log)) (tm tm' : TM) (h0 h' : Heap) : Prop where
  tm0 : stTm tr tm' 0 = tm
  h0 : stH tr h' 0 = h0
  map : tr.map (·.1) = l
  step : ∀ q d L, tr[q]? = some (d, L) → StepAt call d L (stTm tr tm' (q + 1)) (stH tr h' (q + 1))

theorem TrOk.len (t : TrOk call l tr tm tm' h0 h') : tr.length = l.length := by rw [← t.map, List.length_map]
theorem TrOk.get (t : TrOk call l tr tm tm' h0 h') {q : Nat} {d : DOp} (h : l[q]? = some d) : ∃ L, tr[q]? = some (d, L) := by
  rw [← t.map, List.getElem?_map, Option.map_eq_some_iff] at h
  obtain ⟨⟨d', L⟩, h1, h2⟩ := h
  exact ⟨L, by rw [h1]; simp at h2; rw [h2]⟩
theorem TrOk.back (t : TrOk call l tr tm tm' h0 h') {q : Nat} {d : DOp} {L : Log} (h : tr[q]? = some (d, L)) : l[q]? = some d := by
  rw [← t.map, List.getElem?_map, h]; rfl
theorem TrOk.at_ (t : TrOk call l tr tm tm' h0 h') {q : Nat} {d : DOp} {L : Log} (h : tr[q]? = some (d, L)) : stTm tr tm' q = L.tm ∧ stH tr h' q = L.h := by
  unfold stTm stH; rw [h]; exact ⟨rfl, rfl⟩

/-- An operation that is ready reads what it read in the text's order. -/
theorem reads_same {ops : Array Oper} (t : TrOk call l tr tm tm' h0 h') (hk : Chk ops l) {D : Nat → Bool} {p : Nat} {d : DOp} {L : Log} (hp : tr[p]? = some (d, L)) (hD : D p = false)
    (hanc : ∀ x ∈ d.anc, D x = true) (hcl : ∀ q d, l[q]? = some d → D q = true → ∀ p ∈ d.anc, D p = true) : ∀ x ∈ d.o.reads, (tmD tr D tm l.length).get x = TM.get L.tm x := by
  intro x hx
  have hlp := t.back hp
  have hplt : p < l.length := (List.getElem?_eq_some_iff.1 hlp).1
  have up : ∀ q, q ≤ p → (tmD tr D tm q).get x = (stTm tr tm' q).get x := by
    intro q
    induction q with
    | zero => intro _; rw [t.tm0]; rfl
    | succ q ih =>
      intro hq
      have ihq := ih (by omega)
      obtain ⟨dq, hdq⟩ : ∃ dq, l[q]? = some dq := ⟨l[q]'(by omega), List.getElem?_eq_getElem (by omega)⟩
      obtain ⟨Lq, hLq⟩ := t.get hdq
      have hst := t.step q dq Lq hLq
      rw [hst.put, ← (t.at_ hLq).1]
      simp only [tmD, hLq]
      cases hDq : D q with
      | true => rw [if_pos rfl, put_get, put_get, ihq]
      | false =>
        simp only [Bool.false_eq_true, if_false]
        rw [put_get, ihq]
        have hnc : clash dq.o d.o = false := by
          rcases (hk.pair p d q dq hlp hdq (by omega)).2 with h1 | h1
          · have := hanc q h1
            rw [hDq] at this; cases this
          · exact h1.1
        rw [if_neg]
        intro e
        exact ((clash_reads hnc).1 x e).1 hx
  have down : ∀ m, (tmD tr D tm (p + m)).get x = (tmD tr D tm p).get x := by
    intro m
    induction m with
    | zero => rfl
    | succ m ih =>
      rw [show p + (m + 1) = (p + m) + 1 by omega]
      simp only [tmD]
      cases hq : tr[p + m]? with
      | none => exact ih
      | some dl =>
        obtain ⟨dq, Lq⟩ := dl
        simp only
        cases hDq : D (p + m) with
        | false => simp only [Bool.false_eq_true, if_false]; exact ih
        | true =>
          rw [if_pos rfl, put_get, ih]
          have hne : m ≠ 0 := by
            intro e
            subst e
            rw [Nat.add_zero, hD] at hDq; cases hDq
          have hlq := t.back hq
          have hnc : clash d.o dq.o = false := by
            rcases (hk.pair (p + m) dq p d hlq hlp (by omega)).2 with h1 | h1
            · have := hcl (p + m) dq hlq hDq p h1
              rw [hD] at this; cases this
            · exact h1.1
          rw [if_neg]
          intro e
          exact (clash_reads hnc).2 x e hx
  have := down (l.length - p)
  rw [show p + (l.length - p) = l.length by omega] at this
  rw [this, up p (Nat.le_refl _), (t.at_ hp).1]

/-- The temporaries behind one place more. -/
theorem tmD_more {ops : Array Oper} (t : TrOk call l tr tm tm' h0 h') (hk : Chk ops l) {D D' : Nat → Bool} {p : Nat} {d : DOp} {L : Log} (hp : tr[p]? = some (d, L)) (hD : D p = false) (hD' : ∀ q, D' q = (D q || q == p))
    (hcl : ∀ q d, l[q]? = some d → D q = true → ∀ p ∈ d.anc, D p = true) (x : Nat) : (tmD tr D' tm l.length).get x = if d.o.dst = some x then some L.v else (tmD tr D tm l.length).get x := by
  have hlp := t.back hp
  have hplt : p < l.length := (List.getElem?_eq_some_iff.1 hlp).1
  have lo : ∀ q, q ≤ p → tmD tr D' tm q = tmD tr D tm q := by
    intro q
    induction q with
    | zero => intro _; rfl
    | succ q ih =>
      intro hq
      have e : D' q = D q := by rw [hD' q]; simp; omega
      simp only [tmD, e, ih (by omega)]
  have hi : ∀ m, (tmD tr D' tm (p + 1 + m)).get x = if d.o.dst = some x then some L.v else (tmD tr D tm (p + 1 + m)).get x := by
    intro m
    induction m with
    | zero =>
      rw [Nat.add_zero]
      have e : D' p = true := by rw [hD' p]; simp
      simp only [tmD, hp, e, hD, if_true, Bool.false_eq_true, if_false, lo p (Nat.le_refl _)]
      exact put_get _ _ _ _
    | succ m ih =>
      rw [show p + 1 + (m + 1) = (p + 1 + m) + 1 by omega]
      simp only [tmD]
      cases hq : tr[p + 1 + m]? with
      | none => exact ih
      | some dl =>
        obtain ⟨dq, Lq⟩ := dl
        simp only
        have e : D' (p + 1 + m) = D (p + 1 + m) := by
          rw [hD']
          have : (p + 1 + m == p) = false := by simp; omega
          rw [this, Bool.or_false]
        rw [e]
        cases hDq : D (p + 1 + m) with
        | false => simp only [Bool.false_eq_true, if_false]; exact ih
        | true =>
          rw [if_pos rfl, if_pos rfl, put_get, put_get, ih]
          have hlq := t.back hq
          have hnc : clash d.o dq.o = false := by
            rcases (hk.pair (p + 1 + m) dq p d hlq hlp (by omega)).2 with h1 | h1
            · have := hcl _ dq hlq hDq p h1
              rw [hD] at this; cases this
            · exact h1.1
          by_cases h1 : dq.o.dst = some x
          · rw [if_pos h1, if_pos h1, if_neg]
            intro e2
            exact ((clash_reads hnc).1 x e2).2 h1
          · rw [if_neg h1, if_neg h1]
  have := hi (l.length - (p + 1))
  rwa [show p + 1 + (l.length - (p + 1)) = l.length by omega] at this

/-- Behind a call or a write, up to the next: new blocks that have no place yet. -/
theorem rel_up (hm : CallHM call) (t : TrOk call l tr tm tm' h0 h') {ρ : Rho} {w : World} {q : Nat} (hr : Rel P B w0 ρ (stH tr h' q) w) : ∀ m, q + m ≤ l.length → (∀ c d, q ≤ c → c < q + m → l[c]? = some d → d.o.k.isC = false) →
    Rel P B w0 ρ (stH tr h' (q + m)) w ∧ (stH tr h' q).size ≤ (stH tr h' (q + m)).size := by
  intro m
  induction m with
  | zero => intro _ _; exact ⟨hr, Nat.le_refl _⟩
  | succ m ih =>
    intro hle hnc
    obtain ⟨ih1, ih2⟩ := ih (by omega) (fun c d h1 h2 h3 => hnc c d h1 (by omega) h3)
    have hlt : q + m < l.length := by omega
    obtain ⟨L, hL⟩ := t.get (List.getElem?_eq_getElem hlt)
    have hst := t.step _ _ _ hL
    have hc := hnc (q + m) _ (by omega) (by omega) (List.getElem?_eq_getElem hlt)
    rw [show q + (m + 1) = q + m + 1 by omega]
    rcases hst.is with ⟨_, _, h1, _⟩ | ⟨_, _, h1⟩
    · rw [h1, ← (t.at_ hL).2]; exact ⟨ih1, ih2⟩
    · rw [← (t.at_ hL).2] at h1
      have hnc' := calls_of_isC hc
      rw [opA_nc hnc'] at h1
      refine ⟨?_, Nat.le_trans ih2 (HM.op h1).size⟩
      generalize hkk : (l[q + m]'hlt).o.k = kk at hc h1
      have hpush : stH tr h' (q + m + 1) = stH tr h' (q + m) ∨ ∃ ob, stH tr h' (q + m + 1) = (stH tr h' (q + m)).push ob := by
        generalize stH tr h' (q + m + 1) = h2 at h1
        generalize stH tr h' (q + m) = h1' at h1
        generalize L.tm = tmx at h1
        generalize L.v = vv at h1
        clear ih1 ih2 hst hL hkk hnc' 
        cases kk <;> simp only [opK] at h1 <;> first
          | (cases hc; done)
          | (cases h1; exact .inr ⟨_, rfl⟩)
          | (cases h1; done)
          | skip
        case makeSl sz bt z a b =>
          split at h1
          · unfold makeSlA at h1
            split at h1
            · split at h1
              · cases h1; exact .inr ⟨_, rfl⟩
              · cases h1
            · cases h1
          · cases h1
        all_goals ((repeat' split at h1) <;> first | (cases h1; done) | (cases h1; exact .inl rfl) | (cases h1; exact .inr ⟨_, rfl⟩))
      rcases hpush with e | ⟨ob, e⟩
      · rw [e]; exact ih1
      · rw [e]; exact ih1.push ob

theorem pure_heap {k : K} (h1 : k.isC = false) (h2 : k.isAlloc = false) {tm : TM} {h h' : Heap} {v : V} (hx : opK k tm h = some (v, h')) : h' = h := by
  cases k <;> simp only [opK] at hx <;> first
    | (cases h1; done)
    | (cases h2; done)
    | ((repeat' split at hx) <;> first | (cases hx; done) | (cases hx; rfl))
    | (cases hx; done)

theorem sizes (hm : CallHM call) (t : TrOk call l tr tm tm' h0 h') {p : Nat} : ∀ m, p + m ≤ l.length → (stH tr h' p).size ≤ (stH tr h' (p + m)).size := by
  intro m
  induction m with
  | zero => intro _; exact Nat.le_refl _
  | succ m ih =>
    intro hle
    have hlt : p + m < l.length := by omega
    obtain ⟨L, hL⟩ := t.get (List.getElem?_eq_getElem hlt)
    have hst := t.step _ _ _ hL
    rw [show p + (m + 1) = p + m + 1 by omega]
    refine Nat.le_trans (ih (by omega)) ?_
    rcases hst.is with ⟨_, _, h1, _⟩ | ⟨_, _, h1⟩
    · rw [h1, (t.at_ hL).2]; exact Nat.le_refl _
    · rw [(t.at_ hL).2]; exact (HM.opA hm h1).size
theorem sizes' (hm : CallHM call) (t : TrOk call l tr tm tm' h0 h') {p q : Nat} (h1 : p ≤ q) (h2 : q ≤ l.length) : (stH tr h' p).size ≤ (stH tr h' q).size := by
  have := sizes hm t (p := p) (q - p) (by omega)
  rwa [show p + (q - p) = q by omega] at this

theorem alloc_size {k : K} (ha : k.isAlloc = true) {tm : TM} {h h' : Heap} {v : V} (hx : opK k tm h = some (v, h')) : h'.size = h.size + 1 := by
  cases k <;> simp only [opK] at hx <;> first
    | (cases ha; done)
    | (cases hx; rfl)
    | skip
  case makeSl sz bt z a b =>
    split at hx
    · unfold makeSlA at hx
      split at hx
      · split at hx
        · cases hx; rfl
        · cases hx
      · cases hx
    · cases hx
  all_goals ((repeat' split at hx) <;> first | (cases hx; done) | (cases hx; rfl))

theorem alloc_nc {k : K} (ha : k.isAlloc = true) : k.isC = false := by cases k <;> first | (cases ha; done) | rfl

theorem id_lt (hm : CallHM call) (t : TrOk call l tr tm tm' h0 h') {p q : Nat} {d : DOp} {L : Log} (hp : tr[p]? = some (d, L)) (hr : L.ran = true) (ha : d.o.k.isAlloc = true) (h1 : p < q) (h2 : q ≤ l.length) : L.h.size < (stH tr h' q).size := by
  have hst := t.step _ _ _ hp
  rcases hst.is with ⟨h, _⟩ | ⟨_, _, hop⟩
  · rw [hr] at h; cases h
  · have hnc := calls_of_alloc ha
    rw [opA_nc hnc] at hop
    have := alloc_size ha hop
    have := sizes' hm t (p := p + 1) (q := q) (by omega) h2
    omega

theorem next_C (l : List DOp) : ∀ (m q : Nat), q + m = l.length → ∃ qs, q ≤ qs ∧ qs ≤ l.length ∧ (qs = l.length ∨ ∃ d, l[qs]? = some d ∧ d.o.k.isC = true) ∧ ∀ c d, q ≤ c → c < qs → l[c]? = some d → d.o.k.isC = false
  | 0, q, h => ⟨q, Nat.le_refl _, by omega, .inl (by omega), fun c d h1 h2 => by omega⟩
  | m + 1, q, h => by
    have hlt : q < l.length := by omega
    cases hC : (l[q]'hlt).o.k.isC with
    | true => exact ⟨q, Nat.le_refl _, by omega, .inr ⟨_, List.getElem?_eq_getElem hlt, hC⟩, fun c d h1 h2 => by omega⟩
    | false =>
      obtain ⟨qs, h1, h2, h3, h4⟩ := next_C l m (q + 1) (by omega)
      refine ⟨qs, by omega, h2, h3, fun c d g1 g2 g3 => ?_⟩
      by_cases e : c = q
      · subst e
        rw [List.getElem?_eq_getElem hlt] at g3
        cases g3
        exact hC
      · exact h4 c d (by omega) g2 g3

/-- One operation of a drawn region, where it is ready. -/
theorem inv_step {ops : Array Oper} (hc : CallOk P B w0 call) (hm : CallHM call) (t : TrOk call l tr tm tm' h0 h') (hk : Chk ops l) (hok : okAll 0 tr h' = true) {nt : Nat} (hops : ∀ (q : Nat) (d : DOp), l[q]? = some d → ∃ o, ops[d.idx]? = some o ∧ opC P ops nt o = some d.o)
    {ro : Option Nat} {n : Nat} {ρ0 : Rho} {ds : List Deferred} {D D' : Nat → Bool} {a : Act} {w : World} {ρ : Rho} {qs : Nat} (inv : Inv P B w0 l tr tm h0 h' ρ0 nt ds D a w ρ qs)
    {p : Nat} {d : DOp} (hp : l[p]? = some d) (hD : D p = false) (hanc : ∀ x ∈ d.anc, D x = true) (hD' : ∀ q, D' q = (D q || q == p)) {Q : Exit → Act → World → Prop} {K : Act → World → Prop}
    (hK : ∀ a' w' ρ' qs', Inv P B w0 l tr tm h0 h' ρ0 nt ds D' a' w' ρ' qs' → K a' w') : wpOpIn (Fw ro) n P ops Q d.idx K a w := by
  obtain ⟨L, hL⟩ := t.get hp
  obtain ⟨o, ho, hoc⟩ := hops p d hp
  obtain ⟨hkc, hgc, hdst, hdo⟩ := opC_parts hoc
  have hst := t.step _ _ _ hL
  have hplt : p < l.length := (List.getElem?_eq_some_iff.1 hp).1
  have hrd := reads_same t hk hL hD hanc inv.closed
  have hrdk : ∀ x ∈ d.o.k.reads, (tmD tr D tm l.length).get x = TM.get L.tm x := fun x hx => hrd x (by simp [AOp.reads, hx])
  have hwant : wantedA (tmD tr D tm l.length) d.o.guard = wantedA L.tm d.o.guard := wantedA_congr (o := d.o) hrd
  -- where it stands
  have hple : p ≤ qs := by
    rcases Nat.lt_or_ge qs p with hlt | hge
    · rcases inv.edge with e | ⟨dq, hq1, hq2, hq3⟩
      · omega
      · rcases (hk.pair p d qs dq hp hq1 hlt).2 with h1 | h1
        · have := hanc qs h1; rw [hq3] at this; cases this
        · rw [hq2] at h1; cases h1.2
    · exact hge
  have hclosed' : ∀ q dq, l[q]? = some dq → D' q = true → ∀ x ∈ dq.anc, D' x = true := by
    intro q dq hq hDq x hx
    rw [hD'] at hDq ⊢
    by_cases e : q = p
    · subst e
      rw [hp] at hq; cases hq
      rw [hanc x hx]; rfl
    · have : D q = true := by simpa [e] using hDq
      rw [inv.closed q dq hq this x hx]; rfl
  have hmore := tmD_more t hk hL hD hD' inv.closed
  have tmr' : ∀ {ρ' : Rho} {a2 : Act} {u : Value}, RLe ρ ρ' → VR ρ' L.v u → a2.tmps = (a.put o.dst u).tmps → TMR ρ' nt (tmD tr D' tm l.length) a2.tmps := by
    intro ρ' a2 u hle hv ha2
    have h1 := TMR.put (a := a) (inv.tms.mono hle) hdo hv
    rw [ha2]
    refine ⟨h1.1, fun x v hxne hx => ?_⟩
    refine h1.2 x v hxne ?_
    rw [put_get]
    have hx2 : (tmD tr D' tm l.length).get x = some v := hx
    rw [hmore x, hdst] at hx2
    exact hx2
  -- the next place, behind one that calls or writes
  have movedOn : ∀ {a2 : Act} {w2 : World} {ρ2 : Rho}, p = qs → Rel P B w0 ρ2 (stH tr h' (p + 1)) w2 → TMR ρ2 nt (tmD tr D' tm l.length) a2.tmps → a2.defers = ds → New ρ ρ2 L.h.size → K a2 w2 := by
    intro a2 w2 ρ2 epq hr2 ht2 hd2 hn2
    have hCp : d.o.k.isC = true := by
      rcases inv.edge with e | ⟨dq, hq1, hq2, hq3⟩
      · omega
      · rw [← epq, hp] at hq1; cases hq1; exact hq2
    obtain ⟨qs', g1, g2, g3, g4⟩ := next_C l (l.length - (p + 1)) (p + 1) (by omega)
    have hup := (rel_up hm t hr2 (qs' - (p + 1)) (by omega) (fun c dc h1 h2 h3 => g4 c dc h1 (by omega) h3)).1
    rw [show p + 1 + (qs' - (p + 1)) = qs' by omega] at hup
    have hDlate : ∀ q dq, p < q → l[q]? = some dq → D q = false := by
      intro q dq hq1 hq2
      cases hDq : D q with
      | false => rfl
      | true =>
        rcases (hk.pair q dq p d hq2 hp hq1).2 with h1 | h1
        · have := inv.closed q dq hq2 hDq p h1
          rw [hD] at this; cases this
        · rw [hCp] at h1; cases h1.2
    refine hK a2 w2 ρ2 qs' ⟨hclosed', g2, ?_, ?_, hup, ht2, ?_, hd2, ?_⟩
    · rcases g3 with e | ⟨dq, hq1, hq2⟩
      · exact .inl e
      · refine .inr ⟨dq, hq1, hq2, ?_⟩
        rw [hD', hDlate qs' dq (by omega) hq1]
        have : (qs' == p) = false := by simp; omega
        rw [this]; rfl
    · intro c dc hc1 hc2 hc3
      rw [hD']
      by_cases e : c = p
      · subst e; simp
      · rcases Nat.lt_or_ge c p with h1 | h1
        · rw [inv.before c dc (by omega) hc2 hc3]; rfl
        · rw [g4 c dc (by omega) hc1 hc2] at hc3; cases hc3
    · intro p2 d2 L2 hp1 hp2 hran hall hD2
      rw [hD'] at hD2
      simp only [Bool.or_eq_false_iff, beq_eq_false_iff_ne] at hD2
      have hlt2 : p2 < l.length := (List.getElem?_eq_some_iff.1 (t.back hp2)).1
      rcases Nat.lt_or_ge p2 p with h1 | h1
      · have hold := inv.pend p2 d2 L2 (by omega) hp2 hran hall hD2.1
        cases hx : ρ2 L2.h.size with
        | none => rfl
        | some e =>
          rcases hn2.2 _ _ hx with h3 | h3
          · rw [hold] at h3; cases h3
          · have := id_lt hm t hp2 hran hall h1 (by omega)
            rw [(t.at_ hL).2] at this
            omega
      · cases hx : ρ2 L2.h.size with
        | none => rfl
        | some e =>
          have h3 := hr2.dom _ _ hx
          have h4 := sizes' hm t (p := p + 1) (q := p2) (by omega) (by omega)
          rw [(t.at_ hp2).2] at h4
          omega
    · refine inv.new.trans hn2 ?_
      have := sizes' hm t (p := 0) (q := p) (by omega) (by omega)
      rwa [t.h0, (t.at_ hL).2] at this
  -- what stays, where it calls and writes nothing
  have stay : ∀ {a2 : Act} {w2 : World} {ρ2 : Rho}, p < qs → Rel P B w0 ρ2 (stH tr h' qs) w2 → TMR ρ2 nt (tmD tr D' tm l.length) a2.tmps → a2.defers = ds → New ρ0 ρ2 h0.size →
      (∀ p2 d2 L2, p2 < qs → tr[p2]? = some (d2, L2) → L2.ran = true → d2.o.k.isAlloc = true → D p2 = false → p2 ≠ p → ρ2 L2.h.size = none) → K a2 w2 := by
    intro a2 w2 ρ2 hlt hr2 ht2 hd2 hn2 hpend
    refine hK a2 w2 ρ2 qs ⟨hclosed', inv.le, ?_, ?_, hr2, ht2, ?_, hd2, hn2⟩
    · rcases inv.edge with e | ⟨dq, hq1, hq2, hq3⟩
      · exact .inl e
      · refine .inr ⟨dq, hq1, hq2, ?_⟩
        rw [hD', hq3]
        have : (qs == p) = false := by simp; omega
        rw [this]; rfl
    · intro c dc hc1 hc2 hc3
      rw [hD', inv.before c dc hc1 hc2 hc3]; rfl
    · intro p2 d2 L2 hp1 hp2 hran hall hD2
      rw [hD'] at hD2
      simp only [Bool.or_eq_false_iff, beq_eq_false_iff_ne] at hD2
      exact hpend p2 d2 L2 hp1 hp2 hran hall hD2.1 hD2.2
  have hpdef : ∀ u, (a.put o.dst u).defers = ds := fun u => by rw [put_defers, inv.defers]
  have hCd : p < qs → d.o.k.isC = false := by
    intro hlt
    cases hC : d.o.k.isC with
    | false => rfl
    | true => have := inv.before p d hlt hp hC; rw [hD] at this; cases this
  unfold wpOpIn
  rw [ho]
  simp only
  rcases hst.is with ⟨hran, hw, hh, hv⟩ | ⟨hran, hw, hop⟩
  · -- passed over
    rw [← hwant] at hw
    rw [wanted_sound hgc inv.tms hw]
    simp only [Bool.false_eq_true, if_false]
    refine ⟨about_ok, ?_⟩
    have hvu : VR ρ L.v undef := by rw [hv]; exact undef_sound _
    rcases Nat.lt_or_ge p qs with hlt | hge
    · exact stay hlt inv.rel (tmr' (RLe.refl _) hvu rfl) (hpdef _) inv.new (fun p2 d2 L2 h1 h2 h3 h4 h5 _ => inv.pend p2 d2 L2 h1 h2 h3 h4 h5)
    · have epq : p = qs := by omega
      refine movedOn epq ?_ (tmr' (RLe.refl _) hvu rfl) (hpdef _) (New.refl _ _)
      have := inv.rel
      rw [← epq, (t.at_ hL).2, ← hh] at this
      exact this
  · rw [← hwant] at hw
    rw [wanted_sound hgc inv.tms hw, if_pos rfl]
    have hkc := hkc (opA_bad hop)
    rcases Nat.lt_or_ge p qs with hlt | hge
    · have hC := hCd hlt
      have hnc := calls_of_isC hC
      have hlater : okLater L (stH tr h' qs) = true := by
        refine later_at hok hL hC hlt (by rw [t.len]; exact inv.le) ?_ ?_
        · rcases inv.edge with e | ⟨dq, hq1, hq2, hq3⟩
          · exact .inl (by rw [t.len]; exact e)
          · obtain ⟨Lq, hLq⟩ := t.get hq1
            exact .inr ⟨dq, Lq, hLq, hq2⟩
        · intro c' d' L' h1 h2 h3 h4
          have h5 := inv.before c' d' h2 (t.back h3) h4
          cases hcc : d'.anc.contains p with
          | false => rfl
          | true =>
            have := inv.closed c' d' (t.back h3) h5 p (by simpa using hcc)
            rw [hD] at this; cases this
      unfold okLater at hlater
      rw [if_pos hran, hst.o] at hlater
      rw [opA_nc hnc] at hop
      cases ha : d.o.k.isAlloc with
      | true =>
        rw [ha, if_pos rfl, hop] at hlater
        simp only at hlater
        have hop2 : opK d.o.k (tmD tr D tm l.length) L.h = some (L.v, stH tr h' (p + 1)) := by rw [opK_congr hrdk]; exact hop
        obtain ⟨ob, e1, e2⟩ := alloc_sound (B := B) (w0 := w0) hkc ha hop2
        obtain ⟨e3, o3, e4⟩ := sameObj_eq hlater
        have hget : (stH tr h' qs).get L.h.size = some ob := by
          rw [e3, e1, Heap.get_push, if_pos rfl]
        have hnone := inv.pend p d L hlt hL hran ha hD
        have hlt2 : L.h.size < (stH tr h' qs).size := by
          rcases Nat.lt_or_ge L.h.size (stH tr h' qs).size with h1 | h1
          · exact h1
          · rw [inv.rel.fresh _ h1] at hget; cases hget
        obtain ⟨u, w2, em, g1, g2, g3⟩ := e2 inv.tms inv.rel hnone hlt2 hget
        refine up_done (not_defer hkc) g1 ?_
        have hh0 : h0.size ≤ L.h.size := by
          have := sizes' hm t (p := 0) (q := p) (by omega) (by omega)
          rwa [t.h0, (t.at_ hL).2] at this
        refine stay hlt g3 (tmr' (with_le hnone) g2 rfl) (hpdef _) (inv.new.trans (New.with_ hnone (Nat.le_refl _)) hh0) ?_
        intro p2 d2 L2 h1 h2 h3 h4 h5 h6
        have hne : L2.h.size ≠ L.h.size := by
          rcases Nat.lt_or_ge p2 p with h7 | h7
          · have := id_lt hm t h2 h3 h4 h7 (by omega)
            rw [(t.at_ hL).2] at this; omega
          · have := id_lt hm t hL hran ha (show p < p2 by omega) (by have := (List.getElem?_eq_some_iff.1 (t.back h2)).1; omega)
            rw [(t.at_ h2).2] at this; omega
        unfold Rho.with_
        rw [if_neg hne]
        exact inv.pend p2 d2 L2 h1 h2 h3 h4 h5
      | false =>
        rw [ha] at hlater
        simp only [Bool.false_eq_true, if_false] at hlater
        split at hlater
        · rename_i v2 hx2 hopq
          have hvv := V.beq_eq _ _ hlater
          subst hvv
          have hpure := pure_heap hC ha hopq
          subst hpure
          have hopq2 : opK d.o.k (tmD tr D tm l.length) (stH tr h' qs) = some (L.v, stH tr h' qs) := by rw [opK_congr hrdk]; exact hopq
          obtain ⟨u, w2, ρ2, g1, g2, g3, g4⟩ := opK_sound hkc ha inv.tms inv.rel hopq2
          refine up_done (not_defer hkc) g1 ?_
          have hss : h0.size ≤ (stH tr h' qs).size := by
            have := sizes' hm t (p := 0) (q := qs) (by omega) inv.le
            rwa [t.h0] at this
          refine stay hlt g3 (tmr' g4.1 g2 rfl) (hpdef _) (inv.new.trans g4 hss) ?_
          intro p2 d2 L2 h1 h2 h3 h4 h5 h6
          cases hx : ρ2 L2.h.size with
          | none => rfl
          | some e =>
            rcases g4.2 _ _ hx with h7 | h7
            · rw [inv.pend p2 d2 L2 h1 h2 h3 h4 h5] at h7; cases h7
            · have := id_lt hm t h2 h3 h4 h1 inv.le; omega
        · cases hlater
    · have epq : p = qs := by omega
      have hrel := inv.rel
      rw [← epq, (t.at_ hL).2] at hrel
      have hop2 : opA call d.o.k (tmD tr D tm l.length) L.h = some (L.v, stH tr h' (p + 1)) := by rw [opA_congr hrdk]; exact hop
      refine op_here hc hkc inv.tms hrel hop2 fun u w2 hret => ?_
      obtain ⟨ρ2, q1, q2, q3⟩ := hret
      exact movedOn epq q2 (tmr' q3.1 q1 rfl) (hpdef _) q3

theorem ready_of {ops : Array Oper} {listed : Array Bool} {i : Nat} (h : i ∈ Region.ready .any ops listed) : i < ops.size ∧ listed.getD i true = false ∧ ∀ o, ops[i]? = some o → ∀ e ∈ o.after.toList, Region.binds .any e = true → listed.getD e.on false = true := by
  unfold Region.ready at h
  rw [List.mem_filter] at h
  obtain ⟨h1, h2⟩ := h
  simp only [Bool.and_eq_true, Bool.not_eq_true'] at h2
  refine ⟨by simpa using h1, h2.1, fun o ho e he hb => ?_⟩
  have h3 := h2.2
  rw [ho] at h3
  simp only [Option.map_some, Option.getD_some, Array.all_eq_true, Bool.or_eq_true, Bool.not_eq_true'] at h3
  obtain ⟨j, hj, rfl⟩ := List.getElem_of_mem he
  rcases h3 j (by simpa using hj) with h4 | h4
  · have : Region.binds .any (o.after.toList[j]) = false := by simpa using h4
    rw [this] at hb; cases hb
  · simpa using h4

theorem ready_mk {ops : Array Oper} {listed : Array Bool} {i : Nat} {o : Oper} (ho : ops[i]? = some o) (h1 : listed.getD i true = false) (h2 : ∀ e ∈ o.after.toList, Region.binds .any e = true → listed.getD e.on false = true) : i ∈ Region.ready .any ops listed := by
  have hlt : i < ops.size := (Array.getElem?_eq_some_iff.1 ho).1
  unfold Region.ready
  rw [List.mem_filter]
  refine ⟨by simpa using hlt, ?_⟩
  rw [ho]
  simp only [h1, Bool.not_false, Option.map_some, Option.getD_some, Bool.true_and, Array.all_eq_true, Bool.or_eq_true, Bool.not_eq_true']
  intro j hj
  cases hb : Region.binds .any o.after[j] with
  | false => exact .inl rfl
  | true => exact .inr (h2 _ (by rw [← Array.getElem_toList]; exact List.getElem_mem _) hb)

def left (ops : Array Oper) (listed : Array Bool) : Nat := ((List.range ops.size).filter fun i => !listed.getD i false).length

theorem getD_set (listed : Array Bool) (i j : Nat) (hi : i < listed.size) (b : Bool) : (listed.setIfInBounds i true).getD j b = if j = i then true else listed.getD j b := by
  simp only [Array.getD_eq_getD_getElem?]
  by_cases e : j = i
  · subst e; rw [Array.getElem?_setIfInBounds_self_of_lt hi, if_pos rfl]; rfl
  · rw [Array.getElem?_setIfInBounds_ne (Ne.symm e), if_neg e]

theorem filter_less {α : Type} (p q : α → Bool) : ∀ (l : List α) (x : α), x ∈ l → p x = true → q x = false → (∀ y ∈ l, q y = true → p y = true) → (l.filter q).length < (l.filter p).length
  | [], x, h, _, _, _ => by cases h
  | y :: l, x, h, hp, hq, himp => by
    have hle : ∀ l : List α, (∀ y ∈ l, q y = true → p y = true) → (l.filter q).length ≤ (l.filter p).length := by
      intro l
      induction l with
      | nil => intro _; simp
      | cons z l ih =>
        intro hi
        have ih' := ih fun y hy => hi y (by simp [hy])
        cases hqz : q z with
        | true => simp [List.filter_cons, hqz, hi z (by simp) hqz, ih']
        | false =>
          cases hpz : p z with
          | true => simp [List.filter_cons, hqz, hpz]; omega
          | false => simp [List.filter_cons, hqz, hpz, ih']
    rcases List.mem_cons.1 h with e | e
    · subst e
      have := hle l fun z hz => himp z (by simp [hz])
      simp [List.filter_cons, hp, hq]; omega
    · have ih := filter_less p q l x e hp hq fun z hz => himp z (by simp [hz])
      cases hqy : q y with
      | true => simp [List.filter_cons, hqy, himp y (by simp) hqy]; omega
      | false =>
        cases hpy : p y with
        | true => simp [List.filter_cons, hqy, hpy]; omega
        | false => simp [List.filter_cons, hqy, hpy]; omega

theorem left_less {ops : Array Oper} {listed : Array Bool} {i : Nat} (hi : i < ops.size) (hs : listed.size = ops.size) (h : listed.getD i false = false) : left ops (listed.setIfInBounds i true) < left ops listed := by
  refine filter_less _ _ _ i (by simpa using hi) (by rw [h]; rfl) (by rw [getD_set _ _ _ (by omega), if_pos rfl]; rfl) ?_
  intro y hy hq
  rw [getD_set _ _ _ (by omega)] at hq
  by_cases e : y = i
  · subst e; rw [h]; rfl
  · rw [if_neg e] at hq; exact hq

theorem tmD_all (t : TrOk call l tr tm tm' h0 h') {D : Nat → Bool} (hall : ∀ q, q < l.length → D q = true) : ∀ q, q ≤ l.length → ∀ x, (tmD tr D tm q).get x = (stTm tr tm' q).get x := by
  intro q
  induction q with
  | zero => intro _ x; rw [t.tm0]; rfl
  | succ q ih =>
    intro hq x
    obtain ⟨L, hL⟩ := t.get (List.getElem?_eq_getElem (show q < l.length by omega))
    have hst := t.step _ _ _ hL
    rw [hst.put, ← (t.at_ hL).1]
    simp only [tmD, hL, hall q (by omega), if_true]
    rw [put_get, put_get, ih (by omega)]

theorem draw_any {ops : Array Oper} (hc : CallOk P B w0 call) (hm : CallHM call) (t : TrOk call l tr tm tm' h0 h') (hk : Chk ops l) (hok : okAll 0 tr h' = true) {nt : Nat} (hops : ∀ (q : Nat) (d : DOp), l[q]? = some d → ∃ o, ops[d.idx]? = some o ∧ opC P ops nt o = some d.o)
    {ro : Option Nat} {n : Nat} {ρ0 : Rho} {ds : List Deferred} {Q : Exit → Act → World → Prop}
    (hq : ∀ a' w' ρ', a'.defers = ds → TMR ρ' nt tm' a'.tmps → Rel P B w0 ρ' h' w' → New ρ0 ρ' h0.size → Q .normal a' w') :
    ∀ (fuel : Nat) (listed : Array Bool) (a : Act) (w : World) (ρ : Rho) (qs : Nat), listed.size = ops.size → left ops listed ≤ fuel → Inv P B w0 l tr tm h0 h' ρ0 nt ds (DoneAt l listed) a w ρ qs → wpAnyIn (Fw ro) n P .any ops Q fuel listed a w := by
  -- nothing is ready: all is done
  have fin : ∀ (listed : Array Bool) (a : Act) (w : World) (ρ : Rho) (qs : Nat), listed.size = ops.size → Inv P B w0 l tr tm h0 h' ρ0 nt ds (DoneAt l listed) a w ρ qs → Region.ready .any ops listed = [] → Q .normal a w := by
    intro listed a w ρ qs hs inv hnil
    have hall : ∀ q, q < l.length → DoneAt l listed q = true := by
      intro q
      induction q using Nat.strongRecOn with
      | _ q ih =>
        intro hq
        cases hD : DoneAt l listed q with
        | true => rfl
        | false =>
          obtain ⟨o, ho, hoc⟩ := hops q l[q] (List.getElem?_eq_getElem hq)
          have hlist : listed.getD (l[q]).idx false = false := by
            unfold DoneAt at hD
            rw [List.getElem?_eq_getElem hq] at hD
            exact hD
          have hidx := hk.lt q l[q] (List.getElem?_eq_getElem hq)
          have hlist2 : listed.getD (l[q]).idx true = false := by
            rw [Array.getD_eq_getD_getElem?] at hlist ⊢
            rw [Array.getElem?_eq_getElem (by omega)] at hlist ⊢
            exact hlist
          have : (l[q]).idx ∈ Region.ready .any ops listed := by
            refine ready_mk ho hlist2 fun e he hb => ?_
            obtain ⟨p, d', hp1, hp2, hp3⟩ := hk.edge q l[q] o (List.getElem?_eq_getElem hq) ho e he hb
            have hpq := hk.anc q l[q] (List.getElem?_eq_getElem hq) p hp1
            have := ih p hpq (by omega)
            unfold DoneAt at this
            rw [hp2] at this
            rw [← hp3]; exact this
          rw [hnil] at this
          cases this
    have hqs : qs = l.length := by
      rcases inv.edge with e | ⟨d, hd1, hd2, hd3⟩
      · exact e
      · have hlt := (List.getElem?_eq_some_iff.1 hd1).1
        rw [hall qs hlt] at hd3; cases hd3
    have hend : stH tr h' l.length = h' ∧ stTm tr tm' l.length = tm' := by
      unfold stH stTm
      rw [List.getElem?_eq_none (by rw [t.len]; exact Nat.le_refl _)]
      exact ⟨rfl, rfl⟩
    have hrel := inv.rel
    rw [hqs, hend.1] at hrel
    refine hq a w ρ inv.defers ⟨inv.tms.1, fun x v hxne hx => ?_⟩ hrel inv.new
    refine inv.tms.2 x v hxne ?_
    rw [tmD_all t hall l.length (Nat.le_refl _) x, hend.2]
    exact hx
  intro fuel
  induction fuel with
  | zero =>
    intro listed a w ρ qs hs hleft inv
    have hnil : Region.ready .any ops listed = [] := by
      cases hr : Region.ready .any ops listed with
      | nil => rfl
      | cons i r =>
        obtain ⟨h1, h2, _⟩ := ready_of (ops := ops) (listed := listed) (i := i) (by rw [hr]; simp)
        have : i ∈ (List.range ops.size).filter fun i => !listed.getD i false := by
          rw [List.mem_filter]
          refine ⟨by simpa using h1, ?_⟩
          rw [Array.getD_eq_getD_getElem?] at h2 ⊢
          rw [Array.getElem?_eq_getElem (by omega)] at h2 ⊢
          simpa using h2
        have hpos := List.length_pos_of_mem this
        unfold left at hleft
        omega
    exact ⟨hnil, fin listed a w ρ qs hs inv hnil⟩
  | succ fuel ih =>
    intro listed a w ρ qs hs hleft inv
    refine ⟨fun hnil => fin listed a w ρ qs hs inv hnil, fun i hi => ?_⟩
    obtain ⟨h1, h2, h3⟩ := ready_of hi
    obtain ⟨p, d, hp, rfl⟩ := hk.all i h1
    obtain ⟨o, ho, hoc⟩ := hops p d hp
    have h2' : listed.getD d.idx false = false := by
      rw [Array.getD_eq_getD_getElem?] at h2 ⊢
      rw [Array.getElem?_eq_getElem (by omega)] at h2 ⊢
      exact h2
    have hDp : DoneAt l listed p = false := by unfold DoneAt; rw [hp]; exact h2'
    have hanc : ∀ x ∈ d.anc, DoneAt l listed x = true := by
      intro x hx
      obtain ⟨e, r, d', e1, e2, e3, e4, e5⟩ := hk.from_ p d o hp ho x hx
      have hr : DoneAt l listed r = true := by unfold DoneAt; rw [e3]; simp only; rw [e4]; exact h3 o ho e e1 e2
      rcases e5 with e5 | e5
      · subst e5; exact hr
      · exact inv.closed r d' e3 hr x e5
    refine inv_step hc hm t hk hok hops inv hp hDp hanc (D' := DoneAt l (listed.setIfInBounds d.idx true)) ?_ ?_
    · intro q
      unfold DoneAt
      cases hq : l[q]? with
      | none =>
        have : (q == p) = false := by
          simp only [beq_eq_false_iff_ne]
          intro e; subst e; rw [hp] at hq; cases hq
        rw [this]; rfl
      | some dq =>
        simp only
        rw [getD_set _ _ _ (by omega)]
        by_cases e : q = p
        · subst e
          rw [hp] at hq; cases hq
          simp
        · have hne : dq.idx ≠ d.idx := by
            rcases Nat.lt_or_ge q p with h4 | h4
            · exact (hk.pair p d q dq hp hq h4).1
            · exact Ne.symm (hk.pair q dq p d hq hp (by omega)).1
          have : (q == p) = false := by simpa using e
          rw [if_neg hne, this, Bool.or_false]
    · intro a' w' ρ' qs' inv'
      exact ih (listed.setIfInBounds d.idx true) a' w' ρ' qs' (by simpa using hs) (by have := left_less h1 hs h2'; omega) inv'

theorem trace_DX {call : CallF} {nt : Nat} : ∀ (l : List DOp) (hd : ∀ d ∈ l, dstOk nt d.o.dst = true) {tr : List (DOp × Log)} {tm tm' : TM} {h h' : Heap}, traceDraw call l tm h = some (tr, tm', h') → tm'.get DX = tm.get DX
  | [], _, _, _, _, _, _, hx => by cases hx; rfl
  | d :: l, hd, tr, tm, tm', h, h', hx => by
    have h0 := hd d List.mem_cons_self
    have h1 : ∀ d ∈ l, dstOk nt d.o.dst = true := fun d hm => hd d (List.mem_cons_of_mem _ hm)
    unfold traceDraw at hx
    split at hx
    · split at hx
      · rename_i hh; cases hx; rw [trace_DX l h1 hh, put_DX h0]
      · cases hx
    · split at hx
      · split at hx
        · rename_i hh; cases hx; rw [trace_DX l h1 hh, put_DX h0]
        · cases hx
      · cases hx
    · cases hx

/-- A region whose order is drawn. -/
theorem draw_sound {call : CallF} (hc : CallOk P B w0 call) (hm : CallHM call) {ro : Option Nat} {n nt id : Nat} {ops : Array Oper} {l : List DOp} (hmix : P.follows .mixedOrders = true) (hl : drawC P nt ops = some l)
    {ρ : Rho} {tm : TM} {a : Act} {h : Heap} {w : World} (hta : ActR ρ nt ro tm a) (r : Rel P B w0 ρ h w) {tm' : TM} {h' : Heap} (hx : runDraw call l tm h = some (tm', h')) {Q : Exit → Act → World → Prop}
    (hq0 : ∀ a' w' ρ', ActR ρ' nt ro tm' a' → Rel P B w0 ρ' h' w' → New ρ ρ' h.size → Q .normal a' w') : (Code.region id ops true).wpIn (Fw ro) n P Q a w := by
  unfold runDraw at hx
  split at hx
  · rename_i tr tm2 h2 htr
    split at hx
    · rename_i hok
      cases hx
      unfold drawC at hl
      simp only at hl
      split at hl
      · rename_i l2 hdl
        split at hl
        · rename_i hchk
          cases hl
          obtain ⟨t1, t2, t3, t4⟩ := trace_ok l htr
          have t : TrOk call l tr tm tm' h h' := ⟨t1, t2, t3, t4⟩
          have hk := chk_of hchk
          have hops := drawList_ok _ _ hdl
          have ht := hta.1
          have hdx : tm'.get DX = tm.get DX := trace_DX (nt := nt) l (fun d hm => by
            obtain ⟨q, hq1, hq2⟩ := List.mem_iff_getElem.1 hm
            obtain ⟨o, _, ho⟩ := hops q d (by rw [List.getElem?_eq_getElem hq1, hq2])
            have := opC_parts ho
            rw [this.2.2.1]; exact this.2.2.2) htr
          have hq : ∀ a' w' ρ', a'.defers = a.defers → TMR ρ' nt tm' a'.tmps → Rel P B w0 ρ' h' w' → New ρ ρ' h.size → Q .normal a' w' := fun a' w' ρ' q1 q2 q3 q4 => hq0 a' w' ρ' (hta.next q2 q4.1 q1 hdx) q3 q4
          refine wpIn_region_any hmix ?_
          obtain ⟨qs, g1, g2, g3, g4⟩ := next_C l l.length 0 (by omega)
          have hup := (rel_up (ρ := ρ) (w := w.drew) hm t (q := 0) (by rw [t2]; exact r.drew) qs (by omega) (fun c d h1 h2 h3 => g4 c d h1 (by omega) h3)).1
          rw [Nat.zero_add] at hup
          have hfalse : ∀ q, DoneAt l (Array.replicate ops.size false) q = false := by
            intro q
            unfold DoneAt
            split
            · rw [Array.getD_eq_getD_getElem?]
              rename_i d _
              by_cases hlt : d.idx < ops.size
              · simp [hlt]
              · simp [hlt]
            · rfl
          have tm0 : ∀ q, tmD tr (DoneAt l (Array.replicate ops.size false)) tm q = tm := by
            intro q
            induction q with
            | zero => rfl
            | succ q ih =>
              simp only [tmD, hfalse, Bool.false_eq_true, if_false, ih]
              split <;> rfl
          refine draw_any hc hm t hk hok hops (ρ0 := ρ) (ds := a.defers) hq ops.size _ a w.drew ρ qs (by simp) ?_ ⟨?_, g2, ?_, ?_, hup, by rw [tm0]; exact ht, ?_, rfl, New.refl _ _⟩
          · unfold left
            refine Nat.le_trans (List.length_filter_le _ _) (by simp)
          · intro q d h1 h2; rw [hfalse] at h2; cases h2
          · rcases g3 with e | ⟨d, e1, e2⟩
            · exact .inl e
            · exact .inr ⟨d, e1, e2, hfalse _⟩
          · intro c d h1 h2 h3
            rw [g4 c d (Nat.zero_le _) h1 h2] at h3; cases h3
          · intro p d L h1 h2 h3 h4 h5
            cases hx : ρ L.h.size with
            | none => rfl
            | some e =>
              have h6 := r.dom _ _ hx
              have h7 := sizes' hm t (p := 0) (q := p) (by omega) (by have := (List.getElem?_eq_some_iff.1 (t.back h2)).1; omega)
              rw [t2, (t.at_ h2).2] at h7
              omega
        · cases hl
      · cases hl
    · cases hx
  · cases hx
end
end Abs
end Go.Proofs.YtmgbcaboljilnaaGreatDoor
