/- The abstract machine: summaries that hand back a block of their own; maps' keys, sorted. -/
import Derived.Test.YtmgbcaboljilnaaGreatDoorA28
import Derived.Lib.SlKeysI
import Derived.Sort.OwnSorted
namespace Go.Proofs.YtmgbcaboljilnaaGreatDoor
namespace Abs
noncomputable section
set_option linter.unusedVariables false
set_option linter.unusedSimpArgs false
open Go.RowKit Go.Maps Go.MapKept
open Go.WideElems (rd rg)

section
variable {P : Program} {B : Nat} {w0 w : World} {ρ : Rho} {h : Heap}

/-- An abstract block that has no place yet is given one that lies there already. -/
theorem Rel.layAt (r : Rel P B w0 ρ h w) {b : Nat} {o : Obj} (hb : ρ b = none) (hlt : b < h.size) (hg : h.get b = some o) (e : Emb) (hw : e.blk < w.heap.size)
    (hfree : ∀ b' e' o', ρ b' = some e' → h.get b' = some o' → o'.alive = true → e'.blk ≠ e.blk) (hrel : ORel P B (Rho.with_ ρ b e) w e o) : Rel P B w0 (Rho.with_ ρ b e) h w := by
  have hle : RLe ρ (Rho.with_ ρ b e) := with_le hb
  have old : ∀ {x : Nat} {e' : Emb}, Rho.with_ ρ b e x = some e' → x ≠ b → ρ x = some e' := by
    intro x e' hx hne
    unfold Rho.with_ at hx
    rwa [if_neg hne] at hx
  have new : ∀ {e' : Emb}, Rho.with_ ρ b e b = some e' → e' = e := by
    intro e' hx
    rw [with_same] at hx
    cases hx; rfl
  refine ⟨fun x e' hx => ?_, fun x e' hx => ?_, ?_, fun x e' o' h1 h2 h3 => ?_, r.fresh, r.below, r.base, r.glob.mono hle⟩
  · by_cases hne : x = b
    · subst hne; exact hlt
    · exact r.dom x e' (old hx hne)
  · by_cases hne : x = b
    · subst hne
      rw [new hx]
      exact ⟨o, hg, hrel⟩
    · obtain ⟨o', h1, h2⟩ := r.obj x e' (old hx hne)
      exact ⟨o', h1, h2.mono hle⟩
  · intro x x' e1 e2 o1 o2 S h1 h2 h3 h4 h5 h6 h7 h8
    by_cases hx : x = b
    · subst hx
      have hx' : x' ≠ x := Ne.symm h3
      rw [new h1] at h8
      exact absurd h8 (hfree x' e2 o2 (old h2 hx') h6 h7)
    · by_cases hx' : x' = b
      · subst hx'
        rw [new h2] at h8
        have ha : o1.alive = true := by cases o1 <;> first | rfl | (cases h5; done)
        exact absurd h8.symm (hfree x e1 o1 (old h1 hx) h4 ha)
      · exact r.sep x x' e1 e2 o1 o2 S (old h1 hx) (old h2 hx') h3 h4 h5 h6 h7 h8
  · by_cases hx : x = b
    · subst hx
      rw [new h1]; exact hw
    · exact r.live x e' o' (old h1 hx) h2 h3

/-- A function whose contract is told by the library. -/
theorem snd_calls {f : Nat} {us : Array Value} {v : V} {h' : Heap} (he : (callFunc f us).run P w = .ok (.enter f us) w) (hc : Calls P f us w fun e w' => RetE P B w0 ρ h.size v h' e w') : CallSnd P B w0 ρ f us w h v h' :=
  .inl ⟨he, fun n => callsIn_wide.2 hc⟩

/-- What it hands back is a new slice, or nil. -/
theorem ret_row (r : Rel P B w0 ρ h w) {w' : World} {el : TypeId} {v : Value} {xs : List Value} {cs : List V} (hb : Below w.heap.size w w') (ho : w'.ownsRow w.heap.size el 1 v xs.length xs) (hx : VRs ρ cs xs) :
    (cs = [] → v = .slice none 0 0 → Ret P B w0 ρ h.size (.slice none 0 0) h v w') ∧ (v ≠ .slice none 0 0 → Ret P B w0 ρ h.size (.oslice h.size 0 cs.length cs.length 1) (h.push (.cells cs (.tip [] 0 none))) v w') := by
  refine ⟨fun _ hv => ⟨ρ, by rw [hv]; exact .sliceNil, r.below_keep hb, New.refl _ _⟩, fun hv => ?_⟩
  obtain ⟨_, ⟨rfl, _⟩ | ⟨g, cap, cur, rfl, hg, hgb, hn, _, hcap, htake⟩⟩ := ho
  · exact absurd rfl hv
  have r1 := (r.below_keep hb).push (.cells cs (.tip [] 0 none))
  have hnone : ρ h.size = none := r.none_at
  have hgl : g < w'.heap.size := (Array.getElem?_eq_some_iff.1 hgb).1
  have hlen := hx.length
  have r2 := r1.layAt (b := h.size) (o := .cells cs (.tip [] 0 none)) hnone (by rw [Heap.size_push]; omega) (by rw [Heap.get_push, if_pos rfl]) ⟨g, 0, cap⟩ hgl
    (fun b' e' o' h1 h2 h3 he => by
      have hlt := r.dom b' e' h1
      rw [Heap.get_push, if_neg (by omega)] at h2
      have := r.live b' e' o' h1 h2 h3
      simp only at he
      omega)
    ⟨Nat.le_trans r.base hg, fun i v hi => by
      obtain ⟨u, q1, q2⟩ := hx.get i v hi
      refine ⟨u, ?_, q2.mono (with_le hnone)⟩
      have hin : i < xs.length := (List.getElem?_eq_some_iff.1 q1).1
      have : cur.toList[i]? = some u := by
        rw [Nat.mul_one] at htake
        rw [← htake, List.getElem?_take, if_pos hin] at q1
        exact q1
      unfold at_ World.cell?
      simp only [hgb, Nat.zero_add]
      simpa using this, ⟨⟨cur, el, (0, 0), hgb, by rw [hcap, Nat.mul_one], .inl rfl, fun t ht => by cases ht⟩, by simp only [Nat.zero_add]; omega⟩⟩
  refine ⟨_, ?_, r2, New.with_ hnone (Nat.le_refl _)⟩
  rw [← hlen]
  exact VR.oslice h.size 0 cs.length cs.length 1 cap ⟨g, 0, cap⟩ ⟨g, 0, none⟩ with_same (fun _ => ⟨rfl, .inr (by simp)⟩) (Nat.le_refl _) (by omega)
end

/-! ### Keys -/
def insI (x : Int) : List Int → List Int
  | [] => [x]
  | y :: r => if x ≤ y then x :: y :: r else y :: insI x r
def srtI : List Int → List Int
  | [] => []
  | x :: r => insI x (srtI r)
def insS (x : List Nat) : List (List Nat) → List (List Nat)
  | [] => [x]
  | y :: r => if lessL x y then x :: y :: r else y :: insS x r
def srtS : List (List Nat) → List (List Nat)
  | [] => []
  | x :: r => insS x (srtS r)
def incI : List Int → Bool
  | a :: b :: r => decide (a < b) && incI (b :: r)
  | _ => true
def incS : List (List Nat) → Bool
  | a :: b :: r => lessL a b && incS (b :: r)
  | _ => true
def incN (cl : Nat) : List Nat → Bool
  | a :: b :: r => decide (a < b) && incN cl (b :: r)
  | [a] => decide (a < cl)
  | [] => true
def intsOf : List (V × V) → Option (List Int)
  | [] => some []
  | (.int .i64 n, _) :: r => match intsOf r with
    | some l => some (n :: l)
    | none => none
  | _ :: _ => none
def strsOf : List (V × V) → Option (List (List Nat))
  | [] => some []
  | (.str n, _) :: r => match strsOf r with
    | some l => some (n :: l)
    | none => none
  | _ :: _ => none
def i64Ok (n : Int) : Bool := decide (-9223372036854775808 ≤ n) && decide (n ≤ 9223372036854775807)

def keysSum (fI mt : Nat) (args : List V) (h : Heap) : Option (V × Heap) :=
  match args with
  | [.map m] => some (.func (.func fI) [] [.ptr (some (h.size, 0))], h.push (.cells [.map m] (.tip [] 0 (some mt))))
  | _ => none
def rowOf (h : Heap) (l : List V) : V × Heap := match l with
  | [] => (.slice none 0 0, h)
  | l => (.oslice h.size 0 l.length l.length 1, h.push (.cells l (.tip [] 0 none)))
def boxedMap (fI mt : Nat) (args : List V) (h : Heap) : Option (Option Nat) :=
  match args with
  | [.func (.func f) [] [.ptr (some (b, 0))]] => if f = fI then match h.get b with
      | some (.cells [.map m] (.tip [] _ (some t))) => if t = mt then some m else none
      | _ => none
    else none
  | _ => none
def sortedISum (fI mt : Nat) (args : List V) (h : Heap) : Option (V × Heap) :=
  match boxedMap fI mt args h with
  | some none => some (.slice none 0 0, h)
  | some (some mb) => match h.get mb with
    | some (.map es bs cl) => match intsOf es with
      | some l => if (incN cl bs && incI (srtI l) && l.all i64Ok && decide (l.length ≤ 1000000)) = true then some (rowOf h ((srtI l).map fun n => .int .i64 n)) else none
      | none => none
    | _ => none
  | none => none
def sortedSSum (fI mt : Nat) (args : List V) (h : Heap) : Option (V × Heap) :=
  match boxedMap fI mt args h with
  | some none => some (.slice none 0 0, h)
  | some (some mb) => match h.get mb with
    | some (.map es bs cl) => match strsOf es with
      | some l => if (incN cl bs && incS (srtS l) && l.all (fun s => decide (s.length ≤ 1000000)) && decide (l.length ≤ 1000000)) = true then some (rowOf h ((srtS l).map .str)) else none
      | none => none
    | _ => none
  | none => none

theorem insI_perm (x : Int) : ∀ l, (insI x l).Perm (x :: l)
  | [] => .refl _
  | y :: r => by
    unfold insI
    split
    · exact .refl _
    · exact ((insI_perm x r).cons y).trans (.swap x y r)
theorem srtI_perm : ∀ l, (srtI l).Perm l
  | [] => .refl _
  | x :: r => (insI_perm x _).trans ((srtI_perm r).cons x)
theorem insS_perm (x : List Nat) : ∀ l, (insS x l).Perm (x :: l)
  | [] => .refl _
  | y :: r => by
    unfold insS
    split
    · exact .refl _
    · exact ((insS_perm x r).cons y).trans (.swap x y r)
theorem srtS_perm : ∀ l, (srtS l).Perm l
  | [] => .refl _
  | x :: r => (insS_perm x _).trans ((srtS_perm r).cons x)
theorem incI_pw : ∀ l, incI l = true → l.Pairwise (· < ·)
  | [], _ => .nil
  | [a], _ => by simp
  | a :: b :: r, h => by
    simp only [incI, Bool.and_eq_true, decide_eq_true_eq] at h
    have ih := incI_pw (b :: r) h.2
    refine List.pairwise_cons.2 ⟨fun x hx => ?_, ih⟩
    rcases List.mem_cons.1 hx with rfl | hx
    · exact h.1
    · exact Int.lt_trans h.1 ((List.pairwise_cons.1 ih).1 x hx)
theorem incN_pw (cl : Nat) : ∀ l, incN cl l = true → l.Pairwise (· < ·) ∧ ∀ x ∈ l, x < cl
  | [], _ => ⟨.nil, by simp⟩
  | [a], h => ⟨by simp, by simpa [incN] using h⟩
  | a :: b :: r, h => by
    simp only [incN, Bool.and_eq_true, decide_eq_true_eq] at h
    obtain ⟨ih, ih2⟩ := incN_pw cl (b :: r) h.2
    refine ⟨List.pairwise_cons.2 ⟨fun x hx => ?_, ih⟩, fun x hx => ?_⟩
    · rcases List.mem_cons.1 hx with rfl | hx
      · exact h.1
      · exact Nat.lt_trans h.1 ((List.pairwise_cons.1 ih).1 x hx)
    · rcases List.mem_cons.1 hx with rfl | hx
      · exact Nat.lt_trans h.1 (ih2 b List.mem_cons_self)
      · exact ih2 x hx
theorem lessL_trans : ∀ {a b c : List Nat}, lessL a b = true → lessL b c = true → lessL a c = true
  | _, [], _, h, _ => by cases ‹List Nat› <;> simp [lessL] at h
  | _, _ :: _, [], _, h => by simp [lessL] at h
  | [], _ :: _, _ :: _, _, _ => by simp [lessL]
  | x :: a, y :: b, z :: c, h1, h2 => by
    simp only [lessL, Bool.or_eq_true, decide_eq_true_eq, Bool.and_eq_true, beq_iff_eq] at h1 h2 ⊢
    rcases h1 with h1 | ⟨h1, h1'⟩ <;> rcases h2 with h2 | ⟨h2, h2'⟩
    · exact .inl (by omega)
    · exact .inl (by omega)
    · exact .inl (by omega)
    · exact .inr ⟨by omega, lessL_trans h1' h2'⟩
theorem lessL_irrefl : ∀ a : List Nat, lessL a a = false
  | [] => rfl
  | x :: a => by simp [lessL, lessL_irrefl a]
theorem incS_pw : ∀ l, incS l = true → l.Pairwise (fun a b => lessL a b = true)
  | [], _ => .nil
  | [a], _ => by simp
  | a :: b :: r, h => by
    simp only [incS, Bool.and_eq_true] at h
    have ih := incS_pw (b :: r) h.2
    refine List.pairwise_cons.2 ⟨fun x hx => ?_, ih⟩
    rcases List.mem_cons.1 hx with rfl | hx
    · exact h.1
    · exact lessL_trans h.1 ((List.pairwise_cons.1 ih).1 x hx)

theorem sort_only_i {ss r : List Int} (hp : ss.Perm r) (hr : r.Pairwise (· < ·)) : ss.mergeSort leI = r := by
  have tr : ∀ a b c : Int, leI a b = true → leI b c = true → leI a c = true := fun a b c h1 h2 => by simp only [leI, decide_eq_true_eq] at *; exact Int.le_trans h1 h2
  have to : ∀ a b : Int, (leI a b || leI b a) = true := fun a b => by simp only [leI, Bool.or_eq_true, decide_eq_true_eq]; exact Int.le_total a b
  refine List.Perm.eq_of_pairwise (le := fun a b => leI a b = true) (fun a b _ _ h1 h2 => ?_) (List.pairwise_mergeSort tr to ss) (hr.imp fun {a b} h => by simp only [leI, decide_eq_true_eq]; omega) ((List.mergeSort_perm ss leI).trans hp)
  simp only [leI, decide_eq_true_eq] at h1 h2
  exact Int.le_antisymm h1 h2

theorem less_u8 : ∀ {x y : List UInt8}, lessL (x.map UInt8.toNat) (y.map UInt8.toNat) = true → x < y
  | _, [], h => by cases ‹List UInt8› <;> simp [lessL] at h
  | [], _ :: _, _ => by simp
  | a :: x, b :: y, h => by
    simp only [List.map_cons, lessL, Bool.or_eq_true, decide_eq_true_eq, Bool.and_eq_true, beq_iff_eq] at h
    rw [List.cons_lt_cons_iff]
    rcases h with h | ⟨h, h'⟩
    · exact .inl (UInt8.lt_iff_toNat_lt.2 h)
    · exact .inr ⟨UInt8.toNat_inj.1 h, less_u8 h'⟩
theorem sort_only_s {ss : List (List UInt8)} {r : List (List UInt8)} (hp : ss.Perm r) (hr : r.Pairwise (fun a b => lessL (a.map UInt8.toNat) (b.map UInt8.toNat) = true)) : ss.mergeSort (fun x y => decide (x ≤ y)) = r := by
  have hpw : r.Pairwise (fun a b => (fun x y : List UInt8 => decide (x ≤ y)) a b = true) := hr.imp fun {a b} h => by simp only [decide_eq_true_eq]; exact List.le_of_lt (less_u8 h)
  have : ss.mergeSort (fun x y => decide (x ≤ y)) = r.mergeSort (fun x y => decide (x ≤ y)) := mergeSort_of_perm hp
  rw [this]
  exact List.mergeSort_of_pairwise hpw

theorem perm_map_back0 {α β : Type} {f : α → β} {m l' : List β} (h : m.Perm l') : ∀ l : List α, l' = l.map f → ∃ ys : List α, m = ys.map f ∧ ys.Perm l := by
  induction h with
  | nil => intro l hl; exact ⟨[], rfl, by cases l with | nil => exact .refl _ | cons => simp at hl⟩
  | cons x h ih =>
    intro l hl
    cases l with
    | nil => simp at hl
    | cons a l =>
      simp only [List.map_cons, List.cons.injEq] at hl
      obtain ⟨ys, h1, h2⟩ := ih l hl.2
      exact ⟨a :: ys, by simp [hl.1, h1], h2.cons a⟩
  | swap x y l0 =>
    intro l hl
    cases l with
    | nil => simp at hl
    | cons a l => cases l with
      | nil => simp at hl
      | cons b l =>
        simp only [List.map_cons, List.cons.injEq] at hl
        exact ⟨b :: a :: l, by simp [hl.1, hl.2.1, hl.2.2], .swap a b l⟩
  | trans h1 h2 ih1 ih2 =>
    intro l hl
    obtain ⟨ys, k1, k2⟩ := ih2 l hl
    obtain ⟨zs, k3, k4⟩ := ih1 ys k1
    exact ⟨zs, k3, k4.trans k2⟩
theorem perm_map_back {α β : Type} {f : α → β} {l : List α} {m : List β} (h : m.Perm (l.map f)) : ∃ ys : List α, m = ys.map f ∧ ys.Perm l := perm_map_back0 h l rfl
theorem insert_perm {H : Type} (x : Lit × DataW H) : ∀ l, (DataW.insert x l).Perm (x :: l)
  | [] => .refl _
  | y :: r => by
    unfold DataW.insert
    split
    · exact .refl _
    · exact ((insert_perm x r).cons y).trans (.swap x y r)
theorem foldr_insert_perm {H : Type} : ∀ l : List (Lit × DataW H), (l.foldr DataW.insert []).Perm l
  | [] => .refl _
  | x :: r => (insert_perm x _).trans ((foldr_insert_perm r).cons x)

/-- What a map's keys and their sorting are, as the library tells it (keys that are ints). -/
structure KeysI (P : Program) (fK fI fS mt kt : Nat) : Prop where
  ty : P.underlying kt = some (.int .i64)
  enK : ∀ args w, (callFunc fK args).run P w = .ok (.enter fK args) w
  enS : ∀ args w, (callFunc fS args).run P w = .ok (.enter fS args) w
  keys : ∀ mb W, Calls P fK #[.map mb] W fun e w' => e = .returned (.func (.func fI) #[] #[.pointer (some ⟨W.heap.size, 0, none⟩)]) ∧ w' = W.alloc (.cells #[.map mb] mt)
  sorted : ∀ (Bm b nn : Nat) (D0 : DataW Unit) (R : Value → Option (DataW Unit × List MemPlace)) (w : World), Bm < w.heap.size → w.cell? ⟨Bm, 0, none⟩ = some (.map (some b)) → w.ownsMap P kt R b nn D0 → Maps.size D0 ≤ maxLen → Maps.size D0 * 8 ≤ 140737488355328 →
    Calls P fS #[.func (.func fI) #[] #[.pointer (some ⟨Bm, 0, none⟩)]] w fun e w' => ∃ (v : Value) (ss : List Int), e = .returned v ∧ ss.Perm (intKeys D0) ∧ w'.ownsRow w.heap.size kt 1 v ss.length ((ss.mergeSort (fun x y => decide (x ≤ y))).map encZ) ∧ (v = .slice none 0 0 ↔ ss = []) ∧ Below w.heap.size w w'
  sortedNil : ∀ (Bm : Nat) (w : World), Bm < w.heap.size → w.cell? ⟨Bm, 0, none⟩ = some (.map none) →
    Calls P fS #[.func (.func fI) #[] #[.pointer (some ⟨Bm, 0, none⟩)]] w fun e w' => e = .returned (.slice none 0 0) ∧ Below w.heap.size w w'
/-- .. (keys that are strings). -/
structure KeysS (P : Program) (fK fI fS mt kt : Nat) : Prop where
  ty : P.underlying kt = some .string
  enK : ∀ args w, (callFunc fK args).run P w = .ok (.enter fK args) w
  enS : ∀ args w, (callFunc fS args).run P w = .ok (.enter fS args) w
  keys : ∀ mb W, Calls P fK #[.map mb] W fun e w' => e = .returned (.func (.func fI) #[] #[.pointer (some ⟨W.heap.size, 0, none⟩)]) ∧ w' = W.alloc (.cells #[.map mb] mt)
  sorted : ∀ (Bm b nn : Nat) (D0 : DataW Unit) (R : Value → Option (DataW Unit × List MemPlace)) (w : World), Bm < w.heap.size → w.cell? ⟨Bm, 0, none⟩ = some (.map (some b)) → w.ownsMap P kt R b nn D0 → Maps.size D0 ≤ maxLen → Maps.size D0 * 16 ≤ 140737488355328 →
    Calls P fS #[.func (.func fI) #[] #[.pointer (some ⟨Bm, 0, none⟩)]] w fun e w' => ∃ (v : Value) (ss : List (List UInt8)), e = .returned v ∧ ss.Perm (strKeys D0) ∧ w'.ownsRow w.heap.size kt 1 v ss.length ((ss.mergeSort (fun x y => decide (x ≤ y))).map encStr) ∧ (v = .slice none 0 0 ↔ ss = []) ∧ Below w.heap.size w w'
  sortedNil : ∀ (Bm : Nat) (w : World), Bm < w.heap.size → w.cell? ⟨Bm, 0, none⟩ = some (.map none) →
    Calls P fS #[.func (.func fI) #[] #[.pointer (some ⟨Bm, 0, none⟩)]] w fun e w' => e = .returned (.slice none 0 0) ∧ Below w.heap.size w w'

section
variable {P : Program} {B : Nat} {w0 w : World} {ρ : Rho} {h : Heap}

theorem keys_snd {fK fI mt : Nat} (enK : ∀ args w, (callFunc fK args).run P w = .ok (.enter fK args) w) (keys : ∀ mb W, Calls P fK #[.map mb] W fun e w' => e = .returned (.func (.func fI) #[] #[.pointer (some ⟨W.heap.size, 0, none⟩)]) ∧ w' = W.alloc (.cells #[.map mb] mt))
    {args : List V} {v : V} {h' : Heap} (hx : keysSum fI mt args h = some (v, h')) : HM h h' ∧ ∀ (ρ : Rho) (w : World) (us : Array Value), Rel P B w0 ρ h w → VRs ρ args us.toList → CallSnd P B w0 ρ fK us w h v h' := by
  unfold keysSum at hx
  split at hx
  · rename_i m
    cases hx
    refine ⟨HM.push _ _, fun ρ w us r hv => ?_⟩
    obtain ⟨us⟩ := us
    cases hv with
    | cons _ u _ us hu ht =>
    cases ht
    have hum : ∃ mb, u = .map mb := by cases hu <;> exact ⟨_, rfl⟩
    obtain ⟨mb, rfl⟩ := hum
    refine snd_calls (enK _ _) ((keys mb w).mono fun e w' => ?_)
    rintro ⟨rfl, rfl⟩
    have hnone : ρ h.size = none := r.none_at
    have hle := with_le (e := ⟨w.heap.size, 0, 1⟩) hnone
    have r2 := (r.push (.cells [.map m] (.tip [] 0 (some mt)))).lay (o := .cells [.map m] (.tip [] 0 (some mt))) hnone (by rw [Heap.size_push]; omega) (by rw [Heap.get_push, if_pos rfl]) (.cells #[.map mb] mt) 1
      ⟨r.base, fun i v hi => ?_, ⟨⟨#[.map mb], mt, (0, 0), alloc_at w _, rfl, .inl rfl, fun t ht => by cases ht; exact ⟨rfl, rfl⟩⟩, by simp⟩⟩
    · refine ⟨_, .func _ _ _ _ _ .nil (.cons _ _ _ _ (.ptr _ _ _ _ with_same rfl) .nil), r2, New.with_ hnone (Nat.le_refl _)⟩
    · have hi0 : i = 0 := by
        have := (List.getElem?_eq_some_iff.1 hi).1
        simpa using this
      subst hi0
      simp at hi
      subst hi
      refine ⟨.map mb, ?_, hu.mono hle⟩
      show (w.alloc (.cells #[.map mb] mt)).cell? ⟨w.heap.size, 0 + 0, none⟩ = _
      rw [World.cell?_alloc_new]; rfl
  · cases hx

theorem boxed_facts {fI mt : Nat} {args : List V} {m : Option Nat} (hx : boxedMap fI mt args h = some m) (r : Rel P B w0 ρ h w) {us : Array Value} (hv : VRs ρ args us.toList) :
    ∃ Bm mb, us = #[.func (.func fI) #[] #[.pointer (some ⟨Bm, 0, none⟩)]] ∧ Bm < w.heap.size ∧ w.cell? ⟨Bm, 0, none⟩ = some (.map mb) ∧ VR ρ (.map m) (.map mb) := by
  unfold boxedMap at hx
  split at hx
  · rename_i f b
    split at hx
    · rename_i hf
      subst hf
      split at hx
      · rename_i m' fz t hg
        split at hx
        · rename_i ht
          subst ht
          cases hx
          obtain ⟨us⟩ := us
          cases hv with
          | cons _ u _ us hu hvt =>
          cases hvt
          cases hu with
          | func _ _ _ fi cp h1 h2 =>
          obtain ⟨fi⟩ := fi
          obtain ⟨cp⟩ := cp
          cases h1
          cases h2 with
          | cons _ u2 _ us2 hp hpt =>
          cases hpt
          cases hp with
          | ptr _ _ e a he ha =>
          obtain ⟨o, q1, q2⟩ := r.obj _ _ he
          rw [hg] at q1
          cases q1
          obtain ⟨hB, hcf, ⟨c, el, fr, hc, hs, hfr, hty⟩, hroom⟩ := q2
          obtain ⟨u3, k1, k2⟩ := hcf 0 (.map m) rfl
          have hoff := (hty _ rfl).2
          have hat : at_ e 0 = ⟨e.blk, 0, none⟩ := by unfold at_; rw [hoff]
          rw [hat] at k1 ha
          subst ha
          have hum : ∃ mb, u3 = .map mb := by cases k2 <;> exact ⟨_, rfl⟩
          obtain ⟨mb, rfl⟩ := hum
          exact ⟨e.blk, mb, rfl, (Array.getElem?_eq_some_iff.1 hc).1, k1, k2⟩
        · cases hx
      · cases hx
    · cases hx
  · cases hx

theorem MR_ints : ∀ {es : List (V × V)} {ces : List MapEntry} {l : List Int}, MR ρ es ces → intsOf es = some l → ces.map MapEntry.key = l.map encZ
  | [], [], l, _, hl => by cases hl; rfl
  | (a, v) :: es, m :: ces, l, hm, hl => by
    unfold intsOf at hl
    split at hl
    · rename_i h1; cases h1
    · rename_i n v' r h1
      cases h1
      split at hl
      · rename_i l' hl'
        cases hl
        have := hm.1
        simp only [List.map_cons, MR_ints hm.2.2 hl']
        generalize m.key = mk at this
        cases this
        rfl
      · cases hl
    · cases hl
  | [], _ :: _, _, hm, _ => hm.elim
  | _ :: _, [], _, hm, _ => hm.elim
theorem MR_strs : ∀ {es : List (V × V)} {ces : List MapEntry} {l : List (List Nat)}, MR ρ es ces → strsOf es = some l → ∃ xs : List (List UInt8), ces.map MapEntry.key = xs.map encStr ∧ l = xs.map fun x => x.map UInt8.toNat
  | [], [], l, _, hl => by cases hl; exact ⟨[], rfl, rfl⟩
  | (a, v) :: es, m :: ces, l, hm, hl => by
    unfold strsOf at hl
    split at hl
    · rename_i h1; cases h1
    · rename_i n v' r h1
      cases h1
      split at hl
      · rename_i l' hl'
        cases hl
        have := hm.1
        obtain ⟨xs, h1, h2⟩ := MR_strs hm.2.2 hl'
        generalize hmk : m.key = mk at this
        cases this with
        | str s _ hs =>
        refine ⟨s.data.toList :: xs, ?_, ?_⟩
        · simp only [List.map_cons, h1, hmk]
        · rw [hs, h2]; rfl
      · cases hl
    · cases hl
  | [], _ :: _, _, hm, _ => hm.elim
  | _ :: _, [], _, hm, _ => hm.elim

def nilR : Value → Option (DataW Unit × List MemPlace) := fun _ => some (.nil, [])

theorem Own_map {kt : TypeId} {ces : Array MapEntry} {cl : Nat} (hlen : ces.size ≤ 1000000) (hb : incN cl (ces.toList.map MapEntry.born) = true) (hk : (ces.toList.map MapEntry.key).Nodup) (hr : ∀ x ∈ ces.toList, ∃ kl, keyOf P kt x.key = some kl) :
    Go.WideElems.Fit P kt nilR ces cl where
  size := by unfold maxLen; omega
  stamped := by
    obtain ⟨h1, h2⟩ := incN_pw cl _ hb
    exact ⟨fun x hx => h2 _ (List.mem_map_of_mem hx), h1.imp (fun {a b} h => Nat.ne_of_lt h), hk⟩
  reads := fun x hx => by
    obtain ⟨kl, hkl⟩ := hr x hx
    exact ⟨(kl, .nil), by simp [rd, hkl, nilR]⟩

theorem row_of (r : Rel P B w0 ρ h w) {w' : World} {el : TypeId} {v : Value} {n : Nat} {xs : List Value} {cs : List V} (hb : Below w.heap.size w w') (hn : n = xs.length) (ho : w'.ownsRow w.heap.size el 1 v n xs) (hx : VRs ρ cs xs) (hnil : v = .slice none 0 0 ↔ xs = []) :
    Ret P B w0 ρ h.size (rowOf h cs).1 (rowOf h cs).2 v w' := by
  subst hn
  obtain ⟨h1, h2⟩ := ret_row r hb ho hx
  cases hx with
  | nil => exact h1 rfl (hnil.2 rfl)
  | cons a u x as hv ht => exact h2 (fun e => by have := hnil.1 e; cases this)

theorem sortedI_snd {fK fI fS mt kt : Nat} (K : KeysI P fK fI fS mt kt) {args : List V} {v : V} {h' : Heap} (hx : sortedISum fI mt args h = some (v, h')) : HM h h' ∧ ∀ (ρ : Rho) (w : World) (us : Array Value), Rel P B w0 ρ h w → VRs ρ args us.toList → CallSnd P B w0 ρ fS us w h v h' := by
  unfold sortedISum at hx
  split at hx
  · rename_i hbx
    cases hx
    refine ⟨HM.refl _, fun ρ w us r hv => ?_⟩
    obtain ⟨Bm, mb, rfl, q1, q2, q3⟩ := boxed_facts hbx r hv
    cases q3
    refine snd_calls (K.enS _ _) ((K.sortedNil Bm w q1 q2).mono fun e w' => ?_)
    rintro ⟨rfl, hb⟩
    exact ⟨ρ, .sliceNil, r.below_keep hb, New.refl _ _⟩
  · rename_i m hbx
    split at hx
    · rename_i es bs cl hg
      split at hx
      · rename_i l hl
        split at hx
        · rename_i hc
          have hvh : v = (rowOf h ((srtI l).map fun n => V.int .i64 n)).1 ∧ h' = (rowOf h ((srtI l).map fun n => V.int .i64 n)).2 := by have := Option.some.inj hx; rw [this]; exact ⟨rfl, rfl⟩
          obtain ⟨rfl, rfl⟩ := hvh
          simp only [Bool.and_eq_true, decide_eq_true_eq] at hc
          obtain ⟨⟨⟨c1, c2⟩, c3⟩, c4⟩ := hc
          refine ⟨by unfold rowOf; split <;> first | exact HM.refl _ | exact HM.push _ _, fun ρ w us r hv => ?_⟩
          obtain ⟨Bm, mb, rfl, q1, q2, q3⟩ := boxed_facts hbx r hv
          cases q3 with
          | map _ e rr he hr =>
          subst hr
          obtain ⟨ces, g1, g2, g3⟩ := map_of r he hg
          have hkeys := MR_ints g2 hl
          have hlen : l.length = ces.size := by
            have := congrArg List.length hkeys
            simpa using this.symm
          have hpw := incI_pw _ c2
          have hnd : l.Nodup := (srtI_perm l).nodup_iff.1 (hpw.imp fun {a b} h => by omega)
          have hkn : (ces.toList.map MapEntry.key).Nodup := by
            rw [hkeys]
            exact hnd.map _ (fun a b hne e => hne (encZ_inj e)) |> fun q => q
          have hkey : ∀ x ∈ ces.toList, ∃ n ∈ l, x.key = encZ n ∧ keyOf P kt x.key = some (.int .i64 n) := by
            intro x hx
            have : x.key ∈ ces.toList.map MapEntry.key := List.mem_map_of_mem hx
            rw [hkeys] at this
            obtain ⟨n, hn, hn2⟩ := List.mem_map.1 this
            refine ⟨n, hn, hn2.symm, ?_⟩
            have hw := List.all_eq_true.1 c3 n hn
            rw [← hn2]
            have hwf : (Lit.int .i64 n).wf = true := by
              simp only [i64Ok, Bool.and_eq_true, decide_eq_true_eq] at hw
              simp only [Lit.wf, Bool.and_eq_true, decide_eq_true_eq]
              exact hw
            simp [keyOf, K.ty, mapKey, hwf]
          have F := Own_map (P := P) (kt := kt) (by omega) (g3 ▸ c1) hkn (fun x hx => let ⟨n, _, _, q⟩ := hkey x hx; ⟨_, q⟩)
          have hown : w.ownsMap P kt nilR e.blk ces.size (.map ((ces.toList.map (rg P kt nilR)).foldr DataW.insert [])) := ⟨ces, cl, g1, F, Nat.le_refl _, rfl⟩
          have hperm := foldr_insert_perm (ces.toList.map (rg P kt nilR))
          have hsz : Maps.size (.map ((ces.toList.map (rg P kt nilR)).foldr DataW.insert []) : DataW Unit) = ces.size := by
            show ((ces.toList.map (rg P kt nilR)).foldr DataW.insert []).length = ces.size
            rw [hperm.length_eq]; simp
          have hik : (intKeys (.map ((ces.toList.map (rg P kt nilR)).foldr DataW.insert []) : DataW Unit)).Perm l := by
            refine (hperm.map _).trans ?_
            have : (ces.toList.map (rg P kt nilR)).map (fun p => intOf p.1) = l := by
              rw [List.map_map]
              have e1 : ∀ x ∈ ces.toList, ((fun p : Lit × DataW Unit => intOf p.1) ∘ rg P kt nilR) x = (fun v => match v with | Value.int _ n => n | _ => 0) x.key := by
                intro x hx
                obtain ⟨n, _, h1, h2⟩ := hkey x hx
                simp [rg, rd, h2, nilR, intOf]
                rw [h1]
              rw [List.map_congr_left e1]
              have : (ces.toList.map MapEntry.key).map (fun v => match v with | Value.int _ n => n | _ => 0) = l := by
                rw [hkeys, List.map_map]
                have : ((fun v => match v with | Value.int _ n => n | _ => 0) ∘ encZ) = id := by funext n; rfl
                rw [this, List.map_id]
              rw [List.map_map] at this
              exact this
            rw [this]
          refine snd_calls (K.enS _ _) ((K.sorted Bm e.blk ces.size _ nilR w q1 q2 hown (by rw [hsz]; unfold maxLen; omega) (by rw [hsz]; omega)).mono fun ee w' => ?_)
          rintro ⟨vv, ss, rfl, s1, s2, s3, s4⟩
          have hsort : ss.mergeSort (fun x y => decide (x ≤ y)) = srtI l := sort_only_i ((s1.trans hik).trans (srtI_perm l).symm) hpw
          rw [hsort] at s2
          have hsl : ss.length = (srtI l).length := by rw [← hsort, List.length_mergeSort]
          refine row_of r s4 (by rw [hsl, List.length_map]) s2 ?_ ?_
          · refine VRs.of_get (by simp) fun i v hi => ?_
            rw [List.getElem?_map] at hi ⊢
            cases hq : (srtI l)[i]? with
            | none => rw [hq] at hi; cases hi
            | some n => rw [hq] at hi; cases hi; exact ⟨_, rfl, .int _ _⟩
          · rw [s3]
            constructor
            · intro e; subst e; have : srtI l = [] := List.eq_nil_of_length_eq_zero (by rw [← hsl]; rfl); rw [this]; rfl
            · intro e; have : (srtI l).length = 0 := by have := congrArg List.length e; simpa using this
              exact List.eq_nil_of_length_eq_zero (by omega)
        · cases hx
      · cases hx
    · cases hx
  · cases hx

theorem sortedS_snd {fK fI fS mt kt : Nat} (K : KeysS P fK fI fS mt kt) {args : List V} {v : V} {h' : Heap} (hx : sortedSSum fI mt args h = some (v, h')) : HM h h' ∧ ∀ (ρ : Rho) (w : World) (us : Array Value), Rel P B w0 ρ h w → VRs ρ args us.toList → CallSnd P B w0 ρ fS us w h v h' := by
  unfold sortedSSum at hx
  split at hx
  · rename_i hbx
    cases hx
    refine ⟨HM.refl _, fun ρ w us r hv => ?_⟩
    obtain ⟨Bm, mb, rfl, q1, q2, q3⟩ := boxed_facts hbx r hv
    cases q3
    refine snd_calls (K.enS _ _) ((K.sortedNil Bm w q1 q2).mono fun e w' => ?_)
    rintro ⟨rfl, hb⟩
    exact ⟨ρ, .sliceNil, r.below_keep hb, New.refl _ _⟩
  · rename_i m hbx
    split at hx
    · rename_i es bs cl hg
      split at hx
      · rename_i l hl
        split at hx
        · rename_i hc
          have hvh : v = (rowOf h ((srtS l).map V.str)).1 ∧ h' = (rowOf h ((srtS l).map V.str)).2 := by have := Option.some.inj hx; rw [this]; exact ⟨rfl, rfl⟩
          obtain ⟨rfl, rfl⟩ := hvh
          simp only [Bool.and_eq_true, decide_eq_true_eq] at hc
          obtain ⟨⟨⟨c1, c2⟩, c3⟩, c4⟩ := hc
          refine ⟨by unfold rowOf; split <;> first | exact HM.refl _ | exact HM.push _ _, fun ρ w us r hv => ?_⟩
          obtain ⟨Bm, mb, rfl, q1, q2, q3⟩ := boxed_facts hbx r hv
          cases q3 with
          | map _ e rr he hr =>
          subst hr
          obtain ⟨ces, g1, g2, g3⟩ := map_of r he hg
          obtain ⟨xs, hkeys, rfl⟩ := MR_strs g2 hl
          have hlen : xs.length = ces.size := by
            have := congrArg List.length hkeys
            simpa using this.symm
          have hpw := incS_pw _ c2
          rw [List.length_map] at c4
          -- the sorted list, as bytes
          have hpm := srtS_perm (xs.map fun x => x.map UInt8.toNat)
          obtain ⟨ys, hys, hyp⟩ : ∃ ys : List (List UInt8), srtS (xs.map fun x => x.map UInt8.toNat) = ys.map (fun x => x.map UInt8.toNat) ∧ ys.Perm xs := perm_map_back hpm
          rw [hys, List.pairwise_map] at hpw
          have hnd : xs.Nodup := hyp.nodup_iff.1 (hpw.imp fun {a b} h e => by subst e; rw [lessL_irrefl] at h; cases h)
          have hkn : (ces.toList.map MapEntry.key).Nodup := by
            rw [hkeys]
            exact hnd.map _ (fun a b hne e => hne (encStr_inj e))
          have hkey : ∀ x ∈ ces.toList, ∃ n ∈ xs, x.key = encStr n ∧ keyOf P kt x.key = some (.string n) := by
            intro x hx
            have : x.key ∈ ces.toList.map MapEntry.key := List.mem_map_of_mem hx
            rw [hkeys] at this
            obtain ⟨n, hn, hn2⟩ := List.mem_map.1 this
            refine ⟨n, hn, hn2.symm, ?_⟩
            have hw := List.all_eq_true.1 c3 (n.map UInt8.toNat) (List.mem_map_of_mem hn)
            simp only [List.length_map, decide_eq_true_eq] at hw
            have hsz : (⟨n.toArray⟩ : ByteArray).size ≤ maxLen := by
              show n.toArray.size ≤ maxLen
              unfold maxLen
              simp; omega
            rw [← hn2]
            simp [keyOf, K.ty, mapKey, hsz]
          have F := Own_map (P := P) (kt := kt) (by omega) (g3 ▸ c1) hkn (fun x hx => let ⟨n, _, _, q⟩ := hkey x hx; ⟨_, q⟩)
          have hown : w.ownsMap P kt nilR e.blk ces.size (.map ((ces.toList.map (rg P kt nilR)).foldr DataW.insert [])) := ⟨ces, cl, g1, F, Nat.le_refl _, rfl⟩
          have hperm := foldr_insert_perm (ces.toList.map (rg P kt nilR))
          have hsz : Maps.size (.map ((ces.toList.map (rg P kt nilR)).foldr DataW.insert []) : DataW Unit) = ces.size := by
            show ((ces.toList.map (rg P kt nilR)).foldr DataW.insert []).length = ces.size
            rw [hperm.length_eq]; simp
          have hik : (strKeys (.map ((ces.toList.map (rg P kt nilR)).foldr DataW.insert []) : DataW Unit)).Perm xs := by
            refine (hperm.map _).trans ?_
            have : ∀ (l : List MapEntry) (xs : List (List UInt8)), l.map MapEntry.key = xs.map encStr → (∀ x ∈ l, ∃ n, x.key = encStr n ∧ keyOf P kt x.key = some (.string n)) → strKeys (.map (l.map (rg P kt nilR)) : DataW Unit) = xs := by
              intro l
              induction l with
              | nil => intro xs h1 _; cases xs with | nil => rfl | cons => simp at h1
              | cons x l ih =>
                intro xs h1 h2
                cases xs with
                | nil => simp at h1
                | cons y ys =>
                  simp only [List.map_cons, List.cons.injEq] at h1
                  obtain ⟨n, k1, k2⟩ := h2 x List.mem_cons_self
                  have hny : n = y := encStr_inj (k1.symm.trans h1.1)
                  subst hny
                  have := ih ys h1.2 (fun x hx => h2 x (List.mem_cons_of_mem _ hx))
                  simp only [strKeys, List.map_cons, List.cons.injEq] at this ⊢
                  exact ⟨by simp [rg, rd, k2, nilR, Go.strOf], this⟩
            have := this ces.toList xs hkeys (fun x hx => let ⟨n, _, q1, q2⟩ := hkey x hx; ⟨n, q1, q2⟩)
            simp only [strKeys] at this
            rw [this]
          refine snd_calls (K.enS _ _) ((K.sorted Bm e.blk ces.size _ nilR w q1 q2 hown (by rw [hsz]; unfold maxLen; omega) (by rw [hsz]; omega)).mono fun ee w' => ?_)
          rintro ⟨vv, ss, rfl, s1, s2, s3, s4⟩
          have hsort : ss.mergeSort (fun x y => decide (x ≤ y)) = ys := sort_only_s ((s1.trans hik).trans hyp.symm) hpw
          rw [hsort] at s2
          have hsl : ss.length = ys.length := by rw [← hsort, List.length_mergeSort]
          rw [hys, List.map_map]
          refine row_of r s4 (by rw [hsl, List.length_map]) s2 ?_ ?_
          · refine VRs.of_get (by simp) fun i v hi => ?_
            rw [List.getElem?_map] at hi ⊢
            cases hq : ys[i]? with
            | none => rw [hq] at hi; cases hi
            | some n => rw [hq] at hi; cases hi; exact ⟨_, rfl, .str _ _ rfl⟩
          · rw [s3]
            constructor
            · intro e; subst e; have : ys = [] := List.eq_nil_of_length_eq_zero (by rw [← hsl]; rfl); rw [this]; rfl
            · intro e; have : ys.length = 0 := by have := congrArg List.length e; simpa using this
              exact List.eq_nil_of_length_eq_zero (by omega)
        · cases hx
      · cases hx
    · cases hx
  · cases hx
end
end
end Abs
end Go.Proofs.YtmgbcaboljilnaaGreatDoor
