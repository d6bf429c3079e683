/- The document's digest: its helpers (words, primes, products of digits, roots, padding). -/
import Derived.Test.YthdgjjggndfbhaaDoorR01
import Derived.Test.YthdgjjggndfbhaaDoorB11
namespace Go.Proofs.YthdgjjggndfbhaaDoor
namespace Abs
set_option linter.unusedVariables false
set_option linter.unusedSimpArgs false
open Go.RowKit
attribute [local irreducible] WO WC WD StepK Ans Does Runs DoesD

/-! ### Lists of numbers in memory -/
def nl (l : List Nat) : List (List V) := l.map fun (n : Nat) => [iv n]
def NatS (h : Heap) (x : V) (l : List Nat) : Prop := Sl h 1 x (nl l)
def NatG (h : Heap) (low : Nat) (x : V) (l : List Nat) : Prop := Grown h low 1 x (nl l)
theorem nl_len (l : List Nat) : (nl l).length = l.length := List.length_map _
theorem nl_app (a b : List Nat) : nl (a ++ b) = nl a ++ nl b := List.map_append
theorem NatS.grow {h h' : Heap} {x : V} {l : List Nat} (s : NatS h x l) (g : Grow h h') : NatS h' x l := Sl.grow s g
theorem NatS.len {h : Heap} {x : V} {l : List Nat} (s : NatS h x l) : slLen x = some l.length := by
  have := Sl.len s
  rwa [nl_len] at this
theorem NatS.at {h : Heap} {x : V} {l : List Nat} (s : NatS h x l) {i : Nat} (hi : i < l.length) : ∃ b o, idxSlA 1 x (iv i) = some (.ptr (some (b, o))) ∧ h.rd b o = some (iv (l.getD i 0)) := by
  obtain ⟨b, o, q1, q2⟩ := Sl.at s (i := i) (by rw [nl_len]; exact hi)
  refine ⟨b, o, q1, ?_⟩
  have e : (nl l)[i]'(by rw [nl_len]; exact hi) = [iv (l.getD i 0)] := by
    unfold nl; rw [List.getElem_map, List.getD_eq_getElem?_getD, List.getElem?_eq_getElem hi]; rfl
  rw [e] at q2
  exact rds_rd q2 (j := 0) rfl
theorem NatG.nil (h : Heap) (low : Nat) : NatG h low (.slice none 0 0) [] := Grown.nil h low 1
theorem NatG.s {h : Heap} {low : Nat} {x : V} {l : List Nat} (g : NatG h low x l) : NatS h x l := Grown.sl g
theorem nl_one (l : List Nat) : ∀ c ∈ nl l, ∀ v ∈ c, V.one v = true := by
  intro c hc v hv
  obtain ⟨n, _, rfl⟩ := List.mem_map.1 hc
  obtain rfl := List.mem_singleton.1 hv; rfl
/-- A number is put behind. -/
theorem NatG.push {h0 h : Heap} {x : V} {l : List Nat} (hw0 : Wf h0) (g : Grow h0 h) (s : NatG h h0.size x l) {u n : Nat} {st : St} (hu : h.get u = some (.cells [iv n] st)) (hn : l.length ≤ 1000000) :
    ∃ v h', appendA h 1 8 none x (.slice (some (u, 0)) 1 1) = some (v, h') ∧ NatG h' h0.size v (l ++ [n]) ∧ Grow h0 h' ∧ Frm x h h' ∧ (∀ c, c < h.size → Off x c → Off v c) := by
  obtain ⟨v, h', u1, u2, u3, u4, u5⟩ := Grown.append2 (bytes := 8) (tyK := none) hw0 g s (sl_one hu rfl) (by decide) (by decide) (roomy8 (by rw [nl_len]; simp; omega)) (by simp [V.one])
  exact ⟨v, h', u1, by unfold NatG; rw [nl_app]; exact u2, u3, u4, u5⟩

/-! ### Operations -/
theorem toNat64 {a : Nat} (ha : a < 9223372036854775808) : (BitVec.ofInt IntKind.i64.bits (a : Int)).toNat = a := by
  rw [BitVec.ofInt_natCast, BitVec.toNat_ofNat]; exact Nat.mod_eq_of_lt (by show a < 18446744073709551616; omega)
theorem or64 {a b : Nat} (ha : a < 9223372036854775808) (hb : b < 9223372036854775808) : binA .or (iv a) (iv b) = some (iv ((Nat.lor a b : Nat) : Int)) := by
  have hx : a ||| b < 2 ^ 63 := Nat.or_lt_two_pow ha hb
  simp only [binA, if_true]
  rw [BitVec.toNat_or, toNat64 ha, toNat64 hb]
  have e : Nat.lor a b = a ||| b := rfl
  rw [e]
  generalize a ||| b = q at *
  rw [StepK.wrap64 (by omega) (by omega)]
theorem xor64 {a b : Nat} (ha : a < 9223372036854775808) (hb : b < 9223372036854775808) : binA .xor (iv a) (iv b) = some (iv ((Nat.xor a b : Nat) : Int)) := by
  have hx : a ^^^ b < 2 ^ 63 := Nat.xor_lt_two_pow ha hb
  simp only [binA, if_true]
  rw [BitVec.toNat_xor, toNat64 ha, toNat64 hb]
  have e : Nat.xor a b = a ^^^ b := rfl
  rw [e]
  generalize a ^^^ b = q at *
  rw [StepK.wrap64 (by omega) (by omega)]
theorem and64 {a b : Nat} (ha : a < 9223372036854775808) (hb : b < 9223372036854775808) : binA .and (iv a) (iv b) = some (iv ((Nat.land a b : Nat) : Int)) := by
  have hx : a &&& b < 2 ^ 63 := Nat.and_lt_two_pow a hb
  simp only [binA, if_true]
  rw [BitVec.toNat_and, toNat64 ha, toNat64 hb]
  have e : Nat.land a b = a &&& b := rfl
  rw [e]
  generalize a &&& b = q at *
  rw [StepK.wrap64 (by omega) (by omega)]
theorem shr64 (x k : Nat) (hk : k ≤ 64) (kk : IntKind) : binA .shr (iv x) (.int kk k) = some (iv ((Nat.shiftRight x k : Nat) : Int)) := by
  rw [bin_shr (by omega)]
  have e1 : min (k : Int).toNat IntKind.i64.bits = k := by
    rw [Int.toNat_natCast]; exact Nat.min_eq_left (by show k ≤ 64; omega)
  rw [e1, fdiv_pow]
  have : Nat.shiftRight x k = x / 2 ^ k := Nat.shiftRight_eq_div_pow x k
  rw [this]
theorem shl64 (x k : Nat) (hk : k ≤ 62) (hx : x * 2 ^ k < 9223372036854775808) (kk : IntKind) : binA .shl (iv x) (.int kk k) = some (iv ((Nat.shiftLeft x k : Nat) : Int)) := by
  rw [bin_shl (by omega)]
  have e1 : min (k : Int).toNat IntKind.i64.bits = k := by
    rw [Int.toNat_natCast]; exact Nat.min_eq_left (by show k ≤ 64; omega)
  have e2 : (x : Int) * 2 ^ k = ((x * 2 ^ k : Nat) : Int) := by push_cast; rfl
  have e3 : Nat.shiftLeft x k = x * 2 ^ k := Nat.shiftLeft_eq x k
  rw [e1, e2, e3]
  generalize x * 2 ^ k = q at *
  rw [StepK.wrap64 (by omega) (by omega)]
theorem toU64 (k : Nat) (hk : k ≤ 1000) : IntKind.u64.wrap ((k : Nat) : Int) = (k : Int) := by
  show (k : Int) % 18446744073709551616 = k
  omega

/-! ### The functions, as Lean functions -/
def prStep (k : Nat) (l : List Nat) : List Nat := if l.all (fun p => decide (k % p ≠ 0)) then l ++ [k] else l
def prF : Nat → List Nat
  | 0 => []
  | j + 1 => prStep (j + 2) (prF j)
def dgtF : Nat → Nat → List Nat
  | 0, _ => []
  | m + 1, n => dgtF m n ++ [n / 65536 ^ m % 65536]
def tStep (ai bj p : Nat) (st : List Nat × Nat) : List Nat × Nat :=
  let n := st.1.getD p 0 + ai * bj + st.2
  (st.1.set p (n % 65536), n / 65536)
def tIn (ai : Nat) (b : List Nat) (i : Nat) : Nat → List Nat → List Nat × Nat
  | 0, out => (out, 0)
  | j + 1, out => tStep ai (b.getD j 0) (i + j) (tIn ai b i j out)
def tOut (a b : List Nat) : Nat → List Nat
  | 0 => List.replicate (a.length + b.length) 0
  | i + 1 => let r := tIn (a.getD i 0) b i b.length (tOut a b i); r.1.set (i + b.length) (r.1.getD (i + b.length) 0 + r.2)
def timesF (a b : List Nat) : List Nat := tOut a b a.length
def abF (a b : List Nat) : Nat → Bool
  | 0 => false
  | i + 1 => if a.getD i 0 ≠ b.getD i 0 then decide (b.getD i 0 < a.getD i 0) else abF a b i
def aboveF (a b : List Nat) : Bool := abF a b (max a.length b.length)
def rtStep (power : Nat) (goal : List Nat) (bit x : Nat) : Nat :=
  let y := x + 2 ^ bit
  let d := dgtF 3 y
  let n := timesF d d
  let n := if power = 3 then timesF n d else n
  if aboveF n goal then x else y
def rtF (power : Nat) (goal : List Nat) : Nat → Nat
  | 0 => 0
  | k + 1 => rtStep power goal (40 - k) (rtF power goal k)
def goalF (p power : Nat) : List Nat := List.replicate (2 * power) 0 ++ dgtF 2 p
def rootF (p power : Nat) : Nat := rtF power (goalF p power) 41 % 4294967296

theorem dgtF_len : ∀ (m n : Nat), (dgtF m n).length = m
  | 0, _ => rfl
  | m + 1, n => by simp [dgtF, dgtF_len m n]
theorem dgtF_lt : ∀ (m n : Nat), ∀ x ∈ dgtF m n, x < 65536
  | 0, _ => by simp [dgtF]
  | m + 1, n => by
    intro x hx
    rcases List.mem_append.1 hx with q | q
    · exact dgtF_lt m n x q
    · simp at q; omega
theorem tIn_len (ai : Nat) (b : List Nat) (i : Nat) : ∀ (j : Nat) (out : List Nat), (tIn ai b i j out).1.length = out.length
  | 0, _ => rfl
  | j + 1, out => by simp only [tIn, tStep, List.length_set, tIn_len ai b i j]
theorem tOut_len (a b : List Nat) : ∀ i, (tOut a b i).length = a.length + b.length
  | 0 => by simp [tOut]
  | i + 1 => by simp only [tOut, List.length_set, tIn_len, tOut_len a b i]
theorem timesF_len (a b : List Nat) : (timesF a b).length = a.length + b.length := tOut_len a b _
theorem getD_le {l : List Nat} {B : Nat} (h : ∀ x ∈ l, x ≤ B) (i : Nat) : l.getD i 0 ≤ B := by
  rw [List.getD_eq_getElem?_getD]
  cases q : l[i]? with
  | none => exact Nat.zero_le _
  | some v => exact h v (List.mem_of_getElem? q)
/-- How great the digits come to be. -/
structure Bnd (a b : List Nat) (M K : Nat) : Prop where
  ha : ∀ x ∈ a, x ≤ M
  hb : ∀ x ∈ b, x ≤ 65535
  la : a.length ≤ 10
  c : 65535 + 10 * K + M * 65535 + K < 65536 * (K + 1)
theorem tIn_bd {a b : List Nat} {M K : Nat} (h : Bnd a b M K) (i : Nat) {B : Nat} (hB : 65535 ≤ B) (hB2 : B ≤ 65535 + 10 * K) : ∀ (j : Nat) (out : List Nat), (∀ x ∈ out, x ≤ B) → (∀ x ∈ (tIn (a.getD i 0) b i j out).1, x ≤ B) ∧ (tIn (a.getD i 0) b i j out).2 ≤ K
  | 0, out, ho => ⟨ho, Nat.zero_le _⟩
  | j + 1, out, ho => by
    obtain ⟨h1, h2⟩ := tIn_bd h i hB hB2 j out ho
    have e1 := getD_le h1 (i + j)
    have e2 : a.getD i 0 * b.getD j 0 ≤ M * 65535 := Nat.mul_le_mul (getD_le h.ha i) (getD_le h.hb j)
    have hc := h.c
    simp only [tIn, tStep]
    refine ⟨fun x hx => ?_, ?_⟩
    · rcases List.mem_or_eq_of_mem_set hx with q | q
      · exact h1 x q
      · omega
    · generalize a.getD i 0 * b.getD j 0 = m at *
      generalize M * 65535 = mm at *
      refine Nat.le_of_lt_succ ((Nat.div_lt_iff_lt_mul (by decide)).2 ?_)
      show _ < (K + 1) * 65536
      omega
theorem tOut_bd {a b : List Nat} {M K : Nat} (h : Bnd a b M K) : ∀ i, i ≤ 10 → ∀ x ∈ tOut a b i, x ≤ 65535 + i * K
  | 0, _ => by
    intro x hx
    have := List.eq_of_mem_replicate hx
    omega
  | i + 1, hi => by
    have ih := tOut_bd h i (by omega)
    have hK : i * K ≤ 10 * K := Nat.mul_le_mul_right K (by omega)
    obtain ⟨h1, h2⟩ := tIn_bd h i (B := 65535 + i * K) (by omega) (by omega) b.length _ ih
    intro x hx
    simp only [tOut] at hx
    have e : (i + 1) * K = i * K + K := Nat.succ_mul i K
    rcases List.mem_or_eq_of_mem_set hx with q | q
    · have := h1 x q; omega
    · have := getD_le h1 (i + b.length); omega

theorem prF_pos : ∀ j, ∀ p ∈ prF j, 2 ≤ p := by
  intro j
  induction j with
  | zero => simp [prF]
  | succ j ih =>
    intro p hp
    simp only [prF, prStep] at hp
    split at hp
    · rcases List.mem_append.1 hp with q | q
      · exact ih p q
      · simp at q; omega
    · exact ih p hp
theorem prF_mono : ∀ j, (prF j).length ≤ (prF (j + 1)).length := by
  intro j
  show _ ≤ (prStep (j + 2) (prF j)).length
  unfold prStep
  split <;> simp
theorem prF_le : ∀ d j, (prF j).length ≤ (prF (j + d)).length
  | 0, j => Nat.le_refl _
  | d + 1, j => Nat.le_trans (prF_le d j) (prF_mono (j + d))
theorem prF_309 : (prF 309).length = 63 := by decide +kernel
theorem prF_310 : (prF 310).length = 64 := by decide +kernel

section
variable {C : Cfg} (S : StdM C)
include S

theorem rword_ans (h : Heap) (hw : Wf h) (n : Nat) : Ans C 58 [iv n] h fun v h' => v = iv ((n % 4294967296 : Nat) : Int) ∧ Grow h h' := by
  have hF : C.F 58 = some a58 := S.f rfl
  unfold a58 at hF
  refine Ans.val (fun _ _ => S.s _ _ _ rfl) hF rfl rfl hw fun h2 g => ?_
  refine WC.seqO (omv rfl (WO.nil (WC.seqO ?_)))
  refine omv rfl <| obn rfl rfl (rem_nn _ 4294967296 (by decide)) <| omv rfl ?_
  exact WO.nil (WC.ret ⟨trivial, g, rfl⟩)

theorem rturn_ans (h : Heap) (hw : Wf h) (x k : Nat) (hx : x < 4294967296) (h2 : 2 ≤ k) (hk : k ≤ 32) : Ans C 59 [iv x, iv k] h fun v h' => v = iv (rotN x k) ∧ Grow h h' := by
  have hF : C.F 59 = some a59 := S.f rfl
  unfold a59 at hF
  refine Ans.val (fun _ _ => S.s _ _ _ rfl) hF rfl rfl hw fun h2' g => ?_
  refine WC.seqO (omv rfl (WO.nil (WC.seqO ?_)))
  have e32 : (32 : Int) - (k : Int) = ((32 - k : Nat) : Int) := by omega
  have hm : x * 2 ^ (32 - k) < 9223372036854775808 := by
    have : 2 ^ (32 - k) ≤ 2 ^ 30 := Nat.pow_le_pow_right (by decide) (by omega)
    have h30 : (2 : Nat) ^ 30 = 1073741824 := rfl
    have := Nat.mul_le_mul (Nat.le_of_lt hx) this
    rw [h30] at this
    omega
  refine omv rfl <| omv rfl <| WO.ops (StepK.toInt rfl (toU64 k (by omega))) <| obn rfl rfl (shr64 x k (by omega) _) <| omv rfl <| omv rfl <| osb rfl rfl (by omega) ?_
  rw [e32]
  have hlt : (Nat.shiftLeft x (32 - k)) % 4294967296 < 9223372036854775808 := by omega
  have hsr : Nat.shiftRight x k < 9223372036854775808 := by
    have := lt_shr hx k; omega
  refine WO.ops (StepK.toInt rfl (toU64 (32 - k) (by omega))) <| obn rfl rfl (shl64 x (32 - k) (by omega) hm _) <| obn rfl rfl (rem_nn _ 4294967296 (by decide)) <| obn rfl rfl (or64 hsr hlt) <| omv rfl ?_
  exact WO.nil (WC.ret ⟨trivial, g, rfl⟩)

theorem rdigits_ans (h : Heap) (hw : Wf h) (n m : Nat) (hn : n < 9223372036854775808) (hm : m ≤ 1000) : Ans C 55 [iv n, iv m] h fun v h' => NatG h' h.size v (dgtF m n) ∧ Grow h h' := by
  have hF : C.F 55 = some a55 := S.f rfl
  unfold a55 at hF
  refine Ans.loc S.hm (S.s _ _ _ rfl) hF rfl rfl hw (fun h2 g hsz hge => ?_) ?_
  rotate_left
  · exact fun v h1 hg q hv => ⟨q.1.scopd hv h, Grow.refl hw⟩
  clear hF
  refine WC.seqO (omv rfl (WO.nil (WC.seqO (omv rfl (WO.nil (WC.seq (WC.seqO (omv rfl (WO.nil (WC.block ?_)))))))))) 
  refine WC.loop (σ := Nat × V) (fun p => [(0, iv ((n / 65536 ^ p.1 : Nat) : Int)), (1, iv m), (5, p.2), (6, iv p.1)]) (fun p h' => Grow h h' ∧ p.1 ≤ m ∧ NatG h' h.size p.2 (dgtF p.1 n)) (fun p => m - p.1) (0, .slice none 0 0) (Cov.cons (by simp [Env.get, argsE]) (Cov.cons rfl (Cov.cons rfl (Cov.cons rfl (Cov.nil _))))) ⟨g, by omega, NatG.nil _ _⟩ ?_
  rintro ⟨p, y⟩ h4 ⟨g4, hp, gy⟩
  simp only at hp gy ⊢
  refine WC.seq (WC.seqO ?_)
  refine omv rfl <| omv rfl <| obn rfl rfl rfl ?_
  refine WO.nil (WC.cond rfl (fun hc3 => WC.skip ?_) (fun hc3 => WC.exit ?_))
  · have hc3 := of_decide_eq_true hc3
    have hle : n / 65536 ^ p ≤ n := Nat.div_le_self _ _
    refine WC.seq (WC.block (WC.seqO ?_))
    refine omv rfl <| omv rfl <| obn rfl rfl (rem_nn _ 65536 (by decide)) <| WO.ops (StepK.buildSl rfl rfl) ?_
    have gp := (Grow.refl g4.wf).push (.cells [iv (n / 65536 ^ p % 65536 : Nat)] (.tip [] 0 none))
    have hnew : (h4.push (.cells [iv (n / 65536 ^ p % 65536 : Nat)] (.tip [] 0 none))).get h4.size = some (.cells [iv (n / 65536 ^ p % 65536 : Nat)] (.tip [] 0 none)) := get_push_self _ _
    have g5 := g4.trans gp
    have gy : NatG _ h.size y _ := Grown.grow gy gp
    change WO C _ _ (h4.push (.cells [iv (n / 65536 ^ p % 65536 : Nat)] (.tip [] 0 none))) _
    generalize h4.push (.cells [iv (n / 65536 ^ p % 65536 : Nat)] (.tip [] 0 none)) = h5 at *
    obtain ⟨v, h6, u1, u2, u3, u4, u5⟩ := NatG.push hw g5 gy hnew (by rw [dgtF_len]; omega)
    refine WO.ops (StepK.append rfl rfl u1) <| omv rfl (WO.nil (WC.ops ?_))
    refine omv rfl <| obn rfl rfl (quo_nn _ 65536 (by decide) (by omega)) <| omv rfl (WO.nil (WC.ops ?_))
    refine omv rfl <| oad rfl rfl (by omega) <| omv rfl ?_
    refine WO.nil ⟨(p + 1, v), Cov.cons ?_ (Cov.cons rfl (Cov.cons rfl (Cov.cons rfl (Cov.nil _)))), ⟨u3, by simp only; omega, u2⟩, by simp only; omega⟩
    refine (show some (iv ((n / 65536 ^ p / 65536 : Nat) : Int)) = some (iv ((n / 65536 ^ (p + 1) : Nat) : Int)) from ?_)
    rw [Nat.div_div_eq_div_mul, ← Nat.pow_succ]
  · have hc3 := of_decide_eq_false hc3
    obtain rfl : p = m := by omega
    refine WC.seqO ?_
    refine omv rfl <| omv rfl ?_
    exact WO.nil (WC.ret ⟨trivial, _, rfl, fun n => ⟨Grown.same gy (fun _ => rfl), g4.low1 n⟩⟩)

theorem rprimes_ans (h : Heap) (hw : Wf h) : Ans C 32 [iv 64] h fun v h' => NatG h' h.size v (prF 310) ∧ Grow h h' := by
  have hF : C.F 32 = some a32 := S.f rfl
  unfold a32 at hF
  refine Ans.loc S.hm (S.s _ _ _ rfl) hF rfl rfl hw (fun h2 g hsz hge => ?_) ?_
  rotate_left
  · exact fun v h1 hg q hv => ⟨q.1.scopd hv h, Grow.refl hw⟩
  clear hF
  refine WC.seqO (omv rfl (WO.nil (WC.seqO (omv rfl (WO.nil (WC.seq (WC.seqO (omv rfl (WO.nil (WC.block ?_)))))))))) 
  refine WC.loop (σ := Nat × V) (fun p => [(0, iv 64), (3, p.2), (4, iv ((p.1 : Int) + 2))]) (fun p h' => Grow h h' ∧ p.1 ≤ 310 ∧ NatG h' h.size p.2 (prF p.1)) (fun p => 310 - p.1) (0, .slice none 0 0) (Cov.cons rfl (Cov.cons rfl (Cov.cons rfl (Cov.nil _)))) ⟨g, by omega, NatG.nil _ _⟩ ?_
  rintro ⟨j, y⟩ h3 ⟨g3, hj, gy⟩
  simp only at hj gy ⊢
  have s3 := gy.s
  refine WC.seq (WC.seqO ?_)
  refine omv rfl <| ols rfl s3.len <| omv rfl <| obn rfl rfl rfl ?_
  refine WO.nil (WC.cond rfl (fun hc => WC.skip ?_) (fun hc => WC.exit ?_))
  · have hc := of_decide_eq_true hc
    have hj : j < 310 := by
      rcases Nat.lt_or_ge j 310 with q | q
      · exact q
      · obtain rfl : j = 310 := by omega
        rw [prF_310] at hc; omega
    have hl64 : (prF j).length ≤ 64 := by omega
    have hpos := prF_pos j
    have hstep : prF (j + 1) = prStep (j + 2) (prF j) := rfl
    generalize prF j = l at *
    refine WC.seq (WC.block (WC.seqO (omv rfl (WO.nil (WC.seq (WC.seqO (omv rfl (WO.nil (WC.block ?_))))))))) 
    refine WC.loop (σ := Nat) (fun i => [(0, iv 64), (3, y), (4, iv ((j : Int) + 2)), (5, .bool ((l.take i).all (fun p => decide ((j + 2) % p ≠ 0)))), (6, iv i)]) (fun i h' => h' = h3 ∧ i ≤ l.length) (fun i => l.length - i) 0 (Cov.cons rfl (Cov.cons rfl (Cov.cons rfl (Cov.cons rfl (Cov.cons rfl (Cov.nil _)))))) ⟨rfl, by omega⟩ ?_
    rintro i h4 ⟨rfl, hi⟩
    refine WC.seq (WC.seqO ?_)
    refine omv rfl <| omv rfl <| ols rfl s3.len <| obn rfl rfl rfl ?_
    refine WO.nil (WC.cond rfl (fun hc2 => WC.skip ?_) (fun hc2 => WC.exit ?_))
    · have hc2 := of_decide_eq_true hc2
      have hi : i < l.length := by omega
      obtain ⟨b, o, q1, q2⟩ := s3.at hi
      have htk : l.take (i + 1) = l.take i ++ [l.getD i 0] := by rw [List.take_succ_eq_append_getElem hi, List.getD_eq_getElem?_getD, List.getElem?_eq_getElem hi]; rfl
      have hp2 : 2 ≤ l.getD i 0 := by
        rw [List.getD_eq_getElem?_getD, List.getElem?_eq_getElem hi]; exact hpos _ (List.getElem_mem hi)
      have hall : (l.take (i + 1)).all (fun p => decide ((j + 2) % p ≠ 0)) = ((l.take i).all (fun p => decide ((j + 2) % p ≠ 0)) && decide ((j + 2) % l.getD i 0 ≠ 0)) := by
        rw [htk, List.all_append]; simp
      generalize l.getD i 0 = c at *
      generalize (l.take i).all (fun p => decide ((j + 2) % p ≠ 0)) = t at *
      have hrem : binA .rem (iv ((j : Int) + 2)) (iv c) = some (iv (((j + 2) % c : Nat) : Int)) := rem_nn (j + 2) c (by omega)
      have hneq : binA .neq (iv (((j + 2) % c : Nat) : Int)) (iv 0) = some (.bool (decide ((j + 2) % c ≠ 0))) := by
        simp only [binA, if_true]
        congr 2
        by_cases q : (j + 2) % c = 0
        · simp [q]
        · have : ((((j + 2) % c : Nat) : Int) != 0) = true := by simpa using (by omega : ¬ ((((j + 2) % c : Nat)) : Int) = 0)
          rw [this, decide_eq_true q]
      refine WC.seq (WC.block (WC.ops ?_))
      refine omv rfl <| omv rfl ?_
      have fin : ∀ (e' : List (Nat × V)) (Q : Ex → List (Nat × V) → Heap → Prop), Cov [(0, iv 64), (3, y), (4, iv ((j : Int) + 2)), (5, .bool (t && decide ((j + 2) % c ≠ 0))), (6, iv i)] e' → (∀ e', Cov [(0, iv 64), (3, y), (4, iv ((j : Int) + 2)), (5, .bool (t && decide ((j + 2) % c ≠ 0))), (6, iv (i + 1 : Nat))] e' → Q .normal e' h4) → WC C (.ops [⟨(some 17), none, .mv (.t 6)⟩, ⟨(some 18), none, .bin .add (.t 17) (.c (.int .i64 (1)))⟩, ⟨(some 6), none, .mv (.t 18)⟩]) e' h4 Q := by
        intro e' Q cv hQ
        refine WC.cov cv (WC.ops ?_)
        refine omv rfl <| oad rfl rfl (by omega) <| omv rfl ?_
        exact WO.nil (hQ _ (Cov.cons rfl (Cov.cons rfl (Cov.cons rfl (Cov.cons rfl (Cov.cons rfl (Cov.nil _)))))))
      refine WO.splitG rfl (fun ht => ?_) (fun ht => ?_)
      · subst ht
        refine WO.run rfl <| omv rfl <| WO.run rfl <| omv rfl <| WO.run rfl <| omv rfl <| WO.run rfl <| WO.ops (StepK.idxSl rfl rfl q1) <| WO.run rfl <| old rfl q2 <| WO.run rfl <| obn rfl rfl hrem <| WO.run rfl <| obn rfl rfl hneq <| opt rfl rfl <| omv rfl ?_
        refine WO.nil (fin _ _ (Cov.cons rfl (Cov.cons rfl (Cov.cons rfl (Cov.cons (by rw [Bool.true_and]; rfl) (Cov.cons rfl (Cov.nil _)))))) (fun e' cv => ⟨i + 1, by rw [hall]; exact cv, ⟨rfl, by omega⟩, by omega⟩))
      · subst ht
        refine WO.skip rfl rfl <| WO.skip rfl rfl <| WO.skip rfl rfl <| WO.skip rfl rfl <| WO.skip rfl rfl <| WO.skip rfl rfl <| WO.skip rfl rfl <| opf rfl rfl <| omv rfl ?_
        refine WO.nil (fin _ _ (Cov.cons rfl (Cov.cons rfl (Cov.cons rfl (Cov.cons rfl (Cov.cons rfl (Cov.nil _)))))) (fun e' cv => ⟨i + 1, by rw [hall]; exact cv, ⟨rfl, by omega⟩, by omega⟩))
    · have hc2 := of_decide_eq_false hc2
      obtain rfl : i = l.length := by omega
      rw [List.take_length]
      refine WC.seqO (omv rfl (WO.nil ?_))
      unfold prStep at hstep
      refine WC.cond rfl (fun ht => WC.ops ?_) (fun ht => WC.skip (WC.ops ?_))
      · rw [if_pos ht] at hstep
        refine omv rfl <| omv rfl <| WO.ops (StepK.buildSl rfl rfl) ?_
        have gp := (Grow.refl g3.wf).push (.cells [iv (j + 2 : Nat)] (.tip [] 0 none))
        have hnew : (h4.push (.cells [iv (j + 2 : Nat)] (.tip [] 0 none))).get h4.size = some (.cells [iv (j + 2 : Nat)] (.tip [] 0 none)) := get_push_self _ _
        have g5 := g3.trans gp
        have gy : NatG _ h.size y l := Grown.grow gy gp
        change WO C _ _ (h4.push (.cells [iv (j + 2 : Nat)] (.tip [] 0 none))) _
        generalize h4.push (.cells [iv (j + 2 : Nat)] (.tip [] 0 none)) = h5 at *
        obtain ⟨v, h6, u1, u2, u3, u4, u5⟩ := NatG.push hw g5 gy hnew (by omega)
        refine WO.ops (StepK.append rfl rfl u1) <| omv rfl (WO.nil (WC.ops ?_))
        refine omv rfl <| oad rfl rfl (by omega) <| omv rfl ?_
        refine WO.nil ⟨(j + 1, v), Cov.cons rfl (Cov.cons rfl (Cov.cons ?_ (Cov.nil _))), ⟨u3, by simp only; omega, by rw [hstep]; exact u2⟩, by simp only; omega⟩
        refine (show some (iv ((j : Int) + 2 + 1)) = some (iv (((j + 1 : Nat) : Int) + 2)) from ?_)
        congr 2 <;> omega
      · rw [if_neg (by rw [ht]; simp)] at hstep
        refine omv rfl <| oad rfl rfl (by omega) <| omv rfl ?_
        refine WO.nil ⟨(j + 1, y), Cov.cons rfl (Cov.cons rfl (Cov.cons ?_ (Cov.nil _))), ⟨g3, by simp only; omega, by rw [hstep]; exact gy⟩, by simp only; omega⟩
        refine (show some (iv ((j : Int) + 2 + 1)) = some (iv (((j + 1 : Nat) : Int) + 2)) from ?_)
        congr 2 <;> omega
  · have hc := of_decide_eq_false hc
    have : j = 310 := by
      rcases Nat.lt_or_ge j 310 with q | q
      · have h1 := prF_le (309 - j) j
        rw [show j + (309 - j) = 309 by omega, prF_309] at h1
        omega
      · omega
    subst this
    refine WC.seqO ?_
    refine omv rfl <| omv rfl ?_
    exact WO.nil (WC.ret ⟨trivial, _, rfl, fun n => ⟨Grown.same gy (fun _ => rfl), g3.low1 n⟩⟩)
end
end Abs
end Go.Proofs.YthdgjjggndfbhaaDoor
