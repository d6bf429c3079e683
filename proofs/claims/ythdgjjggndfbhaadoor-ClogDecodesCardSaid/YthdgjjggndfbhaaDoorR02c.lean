/- The document's digest: a block behind words already reckoned: plain lemmas. -/
import Derived.Test.YthdgjjggndfbhaaDoorR02b
namespace Go.Proofs.YthdgjjggndfbhaaDoor
namespace Abs
set_option linter.unusedVariables false
set_option linter.unusedSimpArgs false
open Go.RowKit

/-! ### The schedule, word by word -/
theorem iN_inj {a b : Nat} (h : iN a = iN b) : a = b := Int.ofNat.inj h
theorem sch_val {s : List Nat} (hs : s.length = 64) {i : Nat} (hi : i < 64) :
    (i < 16 → (schedN s).getD i 0 = wordN (s.getD (4 * i) 0) (s.getD (4 * i + 1) 0) (s.getD (4 * i + 2) 0) (s.getD (4 * i + 3) 0)) ∧
    (16 ≤ i → (schedN s).getD i 0 = extN ((schedN s).getD (i - 16) 0) ((schedN s).getD (i - 15) 0) ((schedN s).getD (i - 7) 0) ((schedN s).getD (i - 2) 0)) := by
  obtain ⟨h1, h2, h3⟩ := schedN_eq s hs
  have hv := sched_val s 64 0 (zeros 64) (by simp [zeros]) (fun i _ hi => by
    unfold at32 zeros
    rw [List.getD_eq_getElem?_getD, List.getElem?_replicate]
    split <;> rfl) i (by omega) (by omega)
  rw [h1, at_map] at hv
  have hlt : ∀ j, atN (schedN s) j < 4294967296 := fun j => by
    unfold atN
    rw [List.getD_eq_getElem?_getD]
    cases hq : (schedN s)[j]? with
    | none => decide
    | some x => exact h3 x (List.mem_of_getElem? hq)
  refine ⟨fun h => ?_, fun h => ?_⟩
  · rw [if_pos h] at hv; exact iN_inj hv
  · rw [if_neg (by omega)] at hv
    have := ext_n (W := (schedN s).map iN) (i := i) (w0 := atN (schedN s) (i - 16)) (w1 := atN (schedN s) (i - 15)) (w9 := atN (schedN s) (i - 7)) (w14 := atN (schedN s) (i - 2)) (at_map _ _) (at_map _ _) (at_map _ _) (at_map _ _) (hlt _) (hlt _)
    rw [this] at hv
    exact iN_inj hv

theorem lor_add {a b k : Nat} (hb : b < 2 ^ k) : Nat.lor (Nat.shiftLeft a k) b = a * 2 ^ k + b := by
  show (a <<< k) ||| b = _
  rw [← Nat.shiftLeft_add_eq_or_of_lt hb, Nat.shiftLeft_eq]
theorem o8_add {w b : Nat} (hw : w < 16777216) (hb : b < 256) : o8N w b = w * 256 + b := by
  unfold o8N
  have e1 : Nat.mod (Nat.shiftLeft w 8) 4294967296 = Nat.shiftLeft w 8 := by
    refine Nat.mod_eq_of_lt ?_
    show w <<< 8 < _
    rw [Nat.shiftLeft_eq]; omega
  have e2 : Nat.mod b 4294967296 = b := Nat.mod_eq_of_lt (by omega)
  rw [e1, e2]
  exact lor_add (k := 8) (by omega)
theorem word_lor {a b c d : Nat} (ha : a < 256) (hb : b < 256) (hc : c < 256) (hd : d < 256) :
    Nat.lor (Nat.lor (Nat.lor (Nat.shiftLeft a 24) (Nat.shiftLeft b 16)) (Nat.shiftLeft c 8)) d = wordN a b c d := by
  have e1 : Nat.shiftLeft b 16 = b * 65536 := Nat.shiftLeft_eq b 16
  have e2 : Nat.shiftLeft c 8 = c * 256 := Nat.shiftLeft_eq c 8
  have h1 : Nat.lor (Nat.shiftLeft a 24) (Nat.shiftLeft b 16) = (a * 256 + b) * 2 ^ 16 := by
    rw [e1, lor_add (k := 24) (by omega)]; clear e1 e2; simp only [Nat.reducePow]; omega
  have h2 : (a * 256 + b) * 2 ^ 16 = Nat.shiftLeft (a * 256 + b) 16 := (Nat.shiftLeft_eq _ _).symm
  have h3 : Nat.lor (Nat.shiftLeft (a * 256 + b) 16) (Nat.shiftLeft c 8) = ((a * 256 + b) * 256 + c) * 2 ^ 8 := by
    rw [e2, lor_add (k := 16) (by omega)]; clear h2 h1 e1 e2; simp only [Nat.reducePow]; omega
  have h4 : ((a * 256 + b) * 256 + c) * 2 ^ 8 = Nat.shiftLeft ((a * 256 + b) * 256 + c) 8 := (Nat.shiftLeft_eq _ _).symm
  rw [h1, h2, h3, h4, lor_add (k := 8) (by omega)]
  unfold wordN
  clear h1 h2 h3 h4 e1 e2
  have z : o8N 0 a = a := by rw [o8_add (by omega) ha]; omega
  rw [z, o8_add (by omega) hb, o8_add (by omega) hc, o8_add (by omega) hd]

/-! ### Or, and exclusive or -/
theorem inv_xor {e : Nat} (he : e < 4294967296) : 4294967295 - e = Nat.xor 4294967295 e := by
  refine Nat.eq_of_testBit_eq fun i => ?_
  show _ = Nat.testBit (4294967295 ^^^ e) i
  rw [Nat.testBit_xor]
  have h1 : 4294967295 - e = 2 ^ 32 - (e + 1) := by omega
  have h2 : (4294967295 : Nat) = 2 ^ 32 - 1 := by decide
  rw [h1, Nat.testBit_two_pow_sub_succ he, h2, Nat.testBit_two_pow_sub_one]
  by_cases hi : i < 32
  · simp [hi]
  · have : Nat.testBit e i = false := Nat.testBit_lt_two_pow (Nat.lt_of_lt_of_le he (Nat.pow_le_pow_right (n := 2) (by decide) (by omega : 32 ≤ i)))
    simp [hi, this]
theorem ch_eq {e f g : Nat} (he : e < 4294967296) : Nat.lor (Nat.land e f) (Nat.land (4294967295 - e) g) = Nat.xor (Nat.land e f) (Nat.land (Nat.xor 4294967295 e) g) := by
  rw [inv_xor he]
  refine Nat.eq_of_testBit_eq fun i => ?_
  show Nat.testBit ((e &&& f) ||| ((4294967295 ^^^ e) &&& g)) i = Nat.testBit ((e &&& f) ^^^ ((4294967295 ^^^ e) &&& g)) i
  have h2 : (4294967295 : Nat) = 2 ^ 32 - 1 := by decide
  simp only [Nat.testBit_or, Nat.testBit_xor, Nat.testBit_and]
  rw [h2, Nat.testBit_two_pow_sub_one]
  by_cases hi : i < 32
  · simp only [hi, decide_true]
    cases Nat.testBit e i <;> cases Nat.testBit f i <;> cases Nat.testBit g i <;> rfl
  · have : Nat.testBit e i = false := Nat.testBit_lt_two_pow (Nat.lt_of_lt_of_le he (Nat.pow_le_pow_right (n := 2) (by decide) (by omega : 32 ≤ i)))
    simp [hi, this]
theorem maj_eq (a b c : Nat) : Nat.lor (Nat.lor (Nat.land a b) (Nat.land a c)) (Nat.land b c) = Nat.xor (Nat.xor (Nat.land a b) (Nat.land a c)) (Nat.land b c) := by
  refine Nat.eq_of_testBit_eq fun i => ?_
  show Nat.testBit (((a &&& b) ||| (a &&& c)) ||| (b &&& c)) i = Nat.testBit (((a &&& b) ^^^ (a &&& c)) ^^^ (b &&& c)) i
  simp only [Nat.testBit_or, Nat.testBit_xor, Nat.testBit_and]
  cases Nat.testBit a i <;> cases Nat.testBit b i <;> cases Nat.testBit c i <;> rfl

/-! ### Sums -/
theorem addN_eq (x y : Nat) : addN x y = (x + y) % 4294967296 := rfl
theorem ext_sum (w0 w1 w9 w14 : Nat) : (s1N w14 + w9 + s0N w1 + w0) % 4294967296 = extN w0 w1 w9 w14 := by
  unfold extN; simp only [addN_eq]; omega
theorem t1_sum (e f g h k w : Nat) : (h + Nat.xor (Nat.xor (rotN e 6) (rotN e 11)) (rotN e 25) + Nat.xor (Nat.land e f) (Nat.land (Nat.xor 4294967295 e) g) + k + w) % 4294967296 = t1N e f g h k w := by
  unfold t1N; simp only [addN_eq]; omega
theorem lt_t1 (e f g h k w : Nat) : t1N e f g h k w < 4294967296 := lt_add _ _
theorem lt_t2 (a b c : Nat) : t2N a b c < 4294967296 := lt_add _ _

/-! ### One step of the rounds -/
theorem drop_at {K : List Nat} {t : Nat} (h : t < K.length) : K.drop t = K.getD t 0 :: K.drop (t + 1) := by
  rw [List.drop_eq_getElem_cons h, List.getD_eq_getElem?_getD, List.getElem?_eq_getElem h]; rfl
theorem rnd_step {K W : List Nat} {t : Nat} (hK : t < K.length) (hW : t < W.length) (a b c d e f g h : Nat) :
    rndN (K.drop t) (W.drop t) a b c d e f g h = rndN (K.drop (t + 1)) (W.drop (t + 1)) (addN (t1N e f g h (K.getD t 0) (W.getD t 0)) (t2N a b c)) a b c (addN d (t1N e f g h (K.getD t 0) (W.getD t 0))) e f g := by
  rw [drop_at hK, drop_at hW]
  simp only [rndN, frc_eq]
theorem take_at {l : List Nat} {t : Nat} (h : t < l.length) : l.take (t + 1) = l.take t ++ [l.getD t 0] := by
  rw [List.take_add_one, List.getElem?_eq_getElem h, List.getD_eq_getElem?_getD, List.getElem?_eq_getElem h]; rfl
theorem up_get : ∀ (x y : List Nat) (i : Nat), i < x.length → i < y.length → (upN x y).getD i 0 = (x.getD i 0 + y.getD i 0) % 4294967296
  | [], _, _, h, _ => absurd h (Nat.not_lt_zero _)
  | _ :: _, [], _, _, h => absurd h (Nat.not_lt_zero _)
  | a :: x, b :: y, 0, _, _ => by simp [upN, frc_eq, addN_eq]
  | a :: x, b :: y, i + 1, h1, h2 => by
    simp only [List.length_cons] at h1 h2
    have := up_get x y i (by omega) (by omega)
    simp only [upN, frc_eq, List.getD_cons_succ]
    exact this
theorem up_len : ∀ (x y : List Nat), x.length = y.length → (upN x y).length = x.length
  | [], _, _ => rfl
  | _ :: _, [], h => by simp at h
  | a :: x, b :: y, h => by
    simp only [List.length_cons] at h
    simp only [upN, frc_eq, List.length_cons, up_len x y (by omega)]
theorem words8 {H : List Nat} (h : Words H) : ∃ a b c d e f g i, H = [a, b, c, d, e, f, g, i] ∧ a < 4294967296 ∧ b < 4294967296 ∧ c < 4294967296 ∧ d < 4294967296 ∧ e < 4294967296 ∧ f < 4294967296 ∧ g < 4294967296 ∧ i < 4294967296 := by
  obtain ⟨hl, hb⟩ := h
  match H, hl with
  | [a, b, c, d, e, f, g, i], _ => exact ⟨a, b, c, d, e, f, g, i, rfl, hb a (by simp), hb b (by simp), hb c (by simp), hb d (by simp), hb e (by simp), hb f (by simp), hb g (by simp), hb i (by simp)⟩

/-! ### The whole -/
theorem absF_add : ∀ (j k : Nat) (H t : List Nat), absF (j + k) H t = absF k (absF j H t).1 (absF j H t).2
  | 0, k, H, t => by rw [Nat.zero_add]; rfl
  | j + 1, k, H, t => by
    rw [Nat.succ_add]
    show absF (j + k) _ _ = absF k (absF j _ _).1 (absF j _ _).2
    exact absF_add j k _ _
theorem absF_pre : ∀ (k : Nat) (H t u : List Nat), 64 * k ≤ t.length → absF k H (t ++ u) = ((absF k H t).1, (absF k H t).2 ++ u)
  | 0, _, _, _, _ => rfl
  | k + 1, H, t, u, h => by
    show absF k _ _ = ((absF k _ _).1, (absF k _ _).2 ++ u)
    rw [List.take_append_of_le_length (by omega), List.drop_append_of_le_length (by omega), absF_pre k _ _ u (by rw [List.length_drop]; omega)]
theorem ofF_pad (s : List Nat) : ofF s = ((absF ((padF s).length / 64) begN (padF s)).1.map be4).flatten := by
  unfold ofF sumF padF
  dsimp only
  have hr : (absF (s.length / 64) begN s).2 = s.drop (64 * (s.length / 64)) := absF_rest _ _ _
  have hl : ((absF (s.length / 64) begN s).2).length = s.length % 64 := by rw [hr, List.length_drop]; omega
  rw [hl]
  generalize hT : tailF (s.length % 64) s.length = T
  have e : (s ++ T).length / 64 = s.length / 64 + (((absF (s.length / 64) begN s).2 ++ T).length / 64) := by
    rw [List.length_append, List.length_append, hl]; omega
  rw [e, absF_add, absF_pre (s.length / 64) begN s T (by omega)]
end Abs
end Go.Proofs.YthdgjjggndfbhaaDoor
