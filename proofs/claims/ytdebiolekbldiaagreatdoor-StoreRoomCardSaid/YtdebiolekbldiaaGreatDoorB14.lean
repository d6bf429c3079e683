/- Numbers of fixed width: what fixed's functions answer. strings.Builder: what its calls answer, and which memory they change. Digests: what sum's functions answer. The machine with sum.Of as a summary. Blocks of a second cache as bytes: what clog.Check and clog.Encode answer. Blocks of a second cache as bytes: what clog.Decode answers. Blocks of a second cache as bytes: what is encoded is decoded as it was; with another digest it is refused. Plain: no program is in sight. -/
import Derived.Test.YtdebiolekbldiaaGreatDoorB4
import Derived.Test.YtdebiolekbldiaaGreatDoorA40
namespace Go.Proofs.YtdebiolekbldiaaGreatDoor
namespace Abs
set_option linter.unusedVariables false
set_option linter.unusedSimpArgs false
open Go.RowKit
attribute [local irreducible] WO WC WD StepK Ans Does Runs DoesD
structure StdM (C : Cfg) : Prop extends Std C where
 hm : ∀ f args h v h', C.S f args h = some (some (v, h')) → HM h h'
def Byt (s : List Nat) : Prop := ∀ b ∈ s, b < 256
theorem Byt.take {s : List Nat} (h : Byt s) (n : Nat) : Byt (s.take n) := fun b hb => h b (List.mem_of_mem_take hb)
theorem Byt.drop {s : List Nat} (h : Byt s) (n : Nat) : Byt (s.drop n) := fun b hb => h b (List.mem_of_mem_drop hb)
theorem Byt.app {s t : List Nat} (h : Byt s) (k : Byt t) : Byt (s ++ t) := fun b hb => by
 rcases List.mem_append.1 hb with q | q
 ·exact h b q
 ·exact k b q
theorem Byt.nil : Byt [] := fun b hb => by cases hb
def mostF (w : Int) : Int := if w < 1 ∨ 7 < w then -1 else 2 ^ (8 * w.toNat) - 1
def leB : Nat → Nat → List Nat
 | 0, _ => []
 | w + 1, n => leB w n ++ [n / 256 ^ w % 256]
def putF (n w : Int) : List Nat := if n < 0 ∨ mostF w < n then [] else leB w.toNat n.toNat
def textF (s : List Nat) (w : Int) : List Nat := if mostF w < s.length then [] else putF s.length w ++ s
def leV : List Nat → Nat
 | [] => 0
 | a :: r => a + 256 * leV r
theorem leB_len : ∀ (w n : Nat), (leB w n).length = w
 | 0, _ => rfl
 | w + 1, n => by simp [leB, leB_len w n]
theorem leB_byt : ∀ (w n : Nat), Byt (leB w n)
 | 0, _ => Byt.nil
 | w + 1, n => (leB_byt w n).app fun b hb => by simp at hb; omega
theorem putF_byt (n w : Int) : Byt (putF n w) := by
 unfold putF; split
 ·exact Byt.nil
 ·exact leB_byt _ _
theorem most_pos {n w : Int} (h0 : ¬ n < 0) (h : ¬ mostF w < n) : 1 ≤ w ∧ w ≤ 7 ∧ n < 2 ^ (8 * w.toNat) := by
 unfold mostF at h
 split at h
 ·omega
 ·omega
theorem shl_most {w : Int} (h0 : 1 ≤ w) (h1 : w ≤ 7) : binA .shl (iv 1) (iv (8 * w)) = some (iv (2 ^ (8 * w.toNat))) := by
 have : w = 1 ∨ w = 2 ∨ w = 3 ∨ w = 4 ∨ w = 5 ∨ w = 6 ∨ w = 7 := by omega
 rcases this with e | e | e | e | e | e | e <;> subst e <;> rfl
theorem pow8_bd {w : Nat} (h1 : w ≤ 7) : (1 : Int) ≤ 2 ^ (8 * w) ∧ (2 : Int) ^ (8 * w) ≤ 72057594037927936 := by
 have : w = 0 ∨ w = 1 ∨ w = 2 ∨ w = 3 ∨ w = 4 ∨ w = 5 ∨ w = 6 ∨ w = 7 := by omega
 rcases this with e | e | e | e | e | e | e | e <;> subst e <;> decide
theorem pow256 (p : Nat) : (2 : Nat) ^ (8 * p) = 256 ^ p := by rw [Nat.pow_mul]
theorem byte_at (n : Nat) {p : Nat} (hp : p ≤ 7) : IntKind.u8.wrap ((n : Int).fdiv (2 ^ (min ((8 : Int) * (p : Int)).toNat IntKind.i64.bits))) = Int.ofNat (n / 256 ^ p % 256) := by
 have e1 : min ((8 : Int) * (p : Int)).toNat IntKind.i64.bits = 8 * p := by
  have : ((8 : Int) * (p : Int)).toNat = 8 * p := by omega
  rw [this]
  exact Nat.min_eq_left (by show 8 * p ≤ 64; omega)
 rw [e1, fdiv_pow, pow256]
 generalize n / 256 ^ p = x
 show ((x : Int) % 256) = ((x % 256 : Nat) : Int)
 omega
theorem set_mid {l : List Nat} {m p : Nat} (hl : l.length = p) (hm : p < m) (x : Nat) : (l ++ List.replicate (m - p) 0).set p x = l ++ [x] ++ List.replicate (m - (p + 1)) 0 := by
 rw [List.set_append_right _ _ (by omega), hl, Nat.sub_self, show m - p = (m - (p + 1)) + 1 by omega, List.replicate_succ, List.set_cons_zero, List.append_assoc]
 rfl
theorem leV_lt {s : List Nat} (h : Byt s) : leV s < 256 ^ s.length := by
 induction s with
 | nil => simp [leV]
 | cons a r ih =>
  have h1 := ih fun b hb => h b (List.mem_cons_of_mem _ hb)
  have h2 := h a List.mem_cons_self
  simp only [leV, List.length_cons, Nat.pow_succ]
  omega
/-! ### The reader -/
def RdAt (h : Heap) (b : Nat) (s : List Nat) (e : Int) : Prop := Cl h b [.str s, iv e]
def takeF (s : List Nat) (e n e2 : Int) : List Nat × List Nat × Int :=
 if e ≠ 0 then ([], s, e) else if e2 ≠ 0 then ([], s, e2) else if (s.length : Int) < n then ([], s, 2) else (s.take n.toNat, s.drop n.toNat, 0)
def bytesF (s : List Nat) (e n : Int) : List Nat × List Nat × Int := takeF s e n (if n < 0 then 1 else 0)
def numberF (s : List Nat) (e w : Int) : Nat × List Nat × Int :=
 let r := takeF s e w (if mostF w < 0 then 1 else 0)
 (leV r.1, r.2)
def endF (s : List Nat) (e : Int) : Int := if e = 0 ∧ s ≠ [] then 3 else e
theorem takeF_byt {s : List Nat} {e n e2 : Int} (h : Byt s) : Byt (takeF s e n e2).1 ∧ Byt (takeF s e n e2).2.1 := by
 unfold takeF
 split
 ·exact ⟨Byt.nil, h⟩
 split
 ·exact ⟨Byt.nil, h⟩
 split
 ·exact ⟨Byt.nil, h⟩
 ·exact ⟨h.take _, h.drop _⟩
theorem bytesF_byt {s : List Nat} {e n : Int} (h : Byt s) : Byt (bytesF s e n).1 ∧ Byt (bytesF s e n).2.1 := takeF_byt h
theorem rdAt_loc {h h1 : Heap} {b : Nat} {s : List Nat} {e : Int} (hb : b < h.size) (hg : ∀ b, b < h.size → h1.get b = h.get b) (a : RdAt h1 b s e) : RdAt h b s e := Cl.of_get a (hg b hb)
theorem nbeqL {a b : List Nat} (h : a ≠ b) : (!beqL a b) = true := by
 rw [Bool.not_eq_true', Bool.eq_false_iff]; intro e; exact h ((beqL_iff _ _).1 e)
section
variable {C : Cfg} (S : StdM C)
include S
theorem most_ans (h : Heap) (hw : Wf h) (w : Int) : Ans C 92 [iv w] h fun v h' => v = iv (mostF w) ∧ Grow h h' := by
 have hF : C.F 92 = some a92 := S.f rfl
 unfold a92 at hF
 refine Ans.val (fun _ _ => S.s _ _ _ rfl) hF rfl rfl hw fun h2 g => ?_
 refine WC.seqO ?_
 refine omv rfl ?_
 refine WO.nil (WC.seq (WC.seqO ?_))
 refine omv rfl <| obn rfl rfl rfl <| omv rfl ?_
 refine WO.splitG rfl (fun hc => ?_) (fun hc => ?_)
 ·have hc := of_decide_eq_true hc
  refine WO.skip rfl rfl <| WO.skip rfl rfl <| opt rfl rfl ?_
  refine WO.nil (WC.condT rfl (WC.seqO ?_))
  refine omv rfl ?_
  refine WO.nil (WC.ret ⟨trivial, g, ?_⟩)
  show some (iv (-1)) = some (iv (mostF w)); rw [mostF, if_pos (.inl hc)]
 have hc := of_decide_eq_false hc
 refine WO.run rfl <| omv rfl <| WO.run rfl <| obn rfl rfl rfl <| opf rfl rfl ?_
 refine WO.nil (WC.cond rfl (fun hc2 => WC.seqO ?_) (fun hc2 => WC.skip (WC.seqO ?_)))
 ·have hc2 := of_decide_eq_true hc2
  refine omv rfl ?_
  refine WO.nil (WC.ret ⟨trivial, g, ?_⟩)
  show some (iv (-1)) = some (iv (mostF w)); rw [mostF, if_pos (.inr hc2)]
 have hc2 := of_decide_eq_false hc2
 have hb := pow8_bd (w := w.toNat) (by omega)
 refine omv rfl <| obn rfl rfl (bin_mul (by omega)) <| obn rfl rfl (shl_most (by omega) (by omega)) <| osb rfl rfl (by omega) <| omv rfl ?_
 refine WO.nil (WC.ret ⟨trivial, g, ?_⟩)
 show some (iv _) = some (iv (mostF w)); rw [mostF, if_neg (by omega)]
theorem put_ans (h : Heap) (hw : Wf h) (n w : Int) : Ans C 116 [iv n, iv w] h fun v h' => v = .str (putF n w) ∧ Grow h h' := by
 have hF : C.F 116 = some a116 := S.f rfl
 unfold a116 at hF
 refine Ans.val (fun _ _ => S.s _ _ _ rfl) hF rfl rfl hw fun h2 g => ?_
 refine WC.seqO ?_
 refine omv rfl ?_
 refine WO.nil (WC.seq (WC.seqO ?_))
 refine omv rfl <| obn rfl rfl rfl <| omv rfl ?_
 refine WO.splitG rfl (fun hc => ?_) (fun hc => ?_)
 ·have hc := of_decide_eq_true hc
  refine WO.skip rfl rfl <| WO.skip rfl rfl <| WO.skip rfl rfl <| WO.skip rfl rfl <| opt rfl rfl ?_
  refine WO.nil (WC.condT rfl (WC.seqO ?_))
  refine omv rfl ?_
  refine WO.nil (WC.ret ⟨trivial, g, ?_⟩)
  show some (V.str []) = some (.str (putF n w)); rw [putF, if_pos (.inl hc)]
 have hc := of_decide_eq_false hc
 refine WO.run rfl <| omv rfl <| WO.run rfl <| omv rfl <| WO.run rfl ?_
 refine WO.call rfl rfl (most_ans S h2 g.wf w) ?_
 rintro v h3 ⟨rfl, g3⟩
 have g3 := g.trans g3
 refine WO.run rfl <| obn rfl rfl rfl <| opf rfl rfl ?_
 refine WO.nil (WC.cond rfl (fun hc2 => WC.seqO ?_) (fun hc2 => WC.skip (WC.seqO ?_)))
 ·have hc2 := of_decide_eq_true hc2
  refine omv rfl ?_
  refine WO.nil (WC.ret ⟨trivial, g3, ?_⟩)
  show some (V.str []) = some (.str (putF n w)); rw [putF, if_pos (.inr hc2)]
 have hc2 := of_decide_eq_false hc2
 obtain ⟨w1, w7, hlt⟩ := most_pos hc hc2
 obtain ⟨m, rfl⟩ : ∃ m : Nat, n = m := ⟨n.toNat, by omega⟩
 obtain ⟨k, rfl⟩ : ∃ k : Nat, w = k := ⟨w.toNat, by omega⟩
 have hmk : makeSlA h3 1 1 [bv 0] (iv k) (iv k) = some (.slice (some (h3.size, 0)) k k, h3.push (.cells ((List.replicate k 0).map bv) (.tip [] 0 none))) := by
  simp only [makeSlA]
  rw [if_pos ⟨by omega, by omega, by omega, by simp only [Int.natCast_one, Int.mul_one]; omega⟩, Int.toNat_natCast, reps_bv]
 refine omv rfl <| WO.ops (StepK.makeSl rfl rfl hmk) <| omv rfl ?_
 have a0 := Cl.new h3 ((List.replicate k 0).map bv) none
 have g4 := g3.push (.cells ((List.replicate k 0).map bv) (.tip [] 0 none))
 have hb : h.size ≤ h3.size := g3.size
 generalize h3.push (.cells ((List.replicate k 0).map bv) (.tip [] 0 none)) = h4 at *
 generalize h3.size = b at *
 refine WO.nil (WC.seq (WC.seqO ?_))
 refine omv rfl <| omv rfl ?_
 refine WO.nil (WC.block ?_)
 refine WC.loop (σ := Nat) (fun p => [(0, iv m), (5, .slice (some (b, 0)) k k), (17, iv k), (18, iv p)]) (fun p h' => Grow h h' ∧ Cl h' b ((leB p m ++ List.replicate (k - p) 0).map bv) ∧ p ≤ k) (fun p => k - p) 0 (Cov.cons rfl (Cov.cons rfl (Cov.cons rfl (Cov.cons rfl (Cov.nil _))))) ⟨g4, a0, Nat.zero_le _⟩ ?_
 rintro p h5 ⟨g5, a5, hp⟩
 refine WC.seqO (obn rfl rfl rfl (WO.nil (WC.seq ?_)))
 refine WC.cond rfl (fun hc3 => ?_) (fun hc3 => ?_)
 ·have hc3 := of_decide_eq_true hc3
  have hpk : p < k := by omega
  refine WC.skip (WC.seq (WC.block (WC.seqO ?_)))
  refine omv rfl <| omv rfl ?_
  refine WO.nil (WC.ops ?_)
  have hlen : p < ((leB p m ++ List.replicate (k - p) 0).map bv).length := by simp [leB_len]; omega
  obtain ⟨h6, q1, q2, q3, q4⟩ := a5.set g5.wf hlen (v := bv (m / 256 ^ p % 256)) rfl
  have hix : idxSlA 1 (.slice (some (b, 0)) k k) (iv p) = some (.ptr (some (b, p))) := by
   simp only [idxSlA, intV]; rw [if_pos ⟨by omega, by omega⟩]; simp
  refine omv rfl <| omv rfl <| omv rfl <| omv rfl <| obn rfl rfl (bin_mul (by omega)) <| obn rfl rfl (bin_shr (by omega)) <| WO.ops (StepK.toInt rfl (byte_at m (by omega))) <| WO.ops (StepK.idxSl rfl rfl hix) ?_
  refine WO.op (StepK.store rfl rfl rfl q1) ?_
  refine WO.nil (WC.ops ?_)
  refine oad rfl rfl (by omega) <| omv rfl ?_
  refine WO.nil ⟨p + 1, Cov.cons rfl (Cov.cons rfl (Cov.cons rfl (Cov.cons rfl (Cov.nil _)))), ⟨Chg.newGrow g5 q3 hw (by simpa using hb), ?_, by omega⟩, by omega⟩
  rw [← List.map_set (f := bv), set_mid (leB_len p m) hpk] at q2
  exact q2
 have hc3 := of_decide_eq_false hc3
 obtain rfl : p = k := by omega
 refine WC.exit ?_
 refine WC.seqO ?_
 rw [Nat.sub_self, List.replicate_zero, List.append_nil] at a5
 refine omv rfl <| WO.ops (StepK.toStr rfl (toStr_cl a5 (leB_len p m) (leB_byt p m))) <| omv rfl ?_
 refine WO.nil (WC.ret ⟨trivial, g5, ?_⟩)
 show some (V.str _) = some (.str (putF m p))
 rw [putF, if_neg (by omega)]; rfl
end
end Abs
end Go.Proofs.YtdebiolekbldiaaGreatDoor
namespace Go.Proofs.YtdebiolekbldiaaGreatDoor
namespace Abs
set_option linter.unusedVariables false
set_option linter.unusedSimpArgs false
open Go.RowKit
attribute [local irreducible] WO WC WD StepK Ans Does Runs DoesD
abbrev un (n : Nat) : V := .int .u32 (.ofNat n)
structure StdL (C : Cfg) : Prop extends StdM C where
 bh : ∀ (h : Heap) (H s : List Nat), H.length = 8 → (∀ x ∈ H, x < 4294967296) → s.length = 64 → rootsOk h = true → C.S 140 [.agg (H.map un), .str s] h = some (some (.agg ((behindN rootsN H s).map un), h))
 rep : ∀ (h : Heap) (s : List Nat) (n : Nat), s.length * n ≤ 1000000 → n ≤ 9223372036854775807 → C.S 141 [.str s, iv n] h = some (some (.str (repL s n), h))
 noesc : ∀ (h : Heap) (x : V), C.S 152 [x] h = some (some (x, h))
def Bld (h : Heap) (F : List Nat) (b : Nat) (l : List Nat) : Prop :=
 ∃ a x, h.get b = some (.cells [.ptr a, x] (.tip [] 0 (some 177))) ∧ (a = none ∨ a = some (b, 0)) ∧
  ((x = .slice none 0 0 ∧ l = [] ∧ F = [b]) ∨ ∃ b' S fz, x = .oslice b' 0 l.length l.length 1 ∧ l ≠ [] ∧ b' ≠ b ∧ fz ≤ l.length ∧ h.get b' = some (.cells (l.map bv) (.tip S fz (some 5))) ∧ F = [b, b'])
theorem Bld.same {h h1 : Heap} {F : List Nat} {b : Nat} {l : List Nat} (d : Bld h F b l) (hg : ∀ c ∈ F, h1.get c = h.get c) : Bld h1 F b l := by
 obtain ⟨a, x, q1, q2, q3⟩ := d
 refine ⟨a, x, ?_, q2, ?_⟩
 ·rw [hg b (by rcases q3 with ⟨_, _, rfl⟩ | ⟨b', S, fz, _, _, _, _, _, rfl⟩ <;> simp)]; exact q1
 ·rcases q3 with q | ⟨b', S, fz, r1, r2, r3, r4, r5, rfl⟩
  ·exact .inl q
  ·exact .inr ⟨b', S, fz, r1, r2, r3, r4, by rw [hg b' (by simp)]; exact r5, rfl⟩
theorem Bld.lows {h : Heap} {F : List Nat} {b : Nat} {l : List Nat} (d : Bld h F b l) (hw : Wf h) : Lows h F := by
 obtain ⟨a, x, q1, q2, q3⟩ := d
 intro c hc
 rcases q3 with ⟨_, _, rfl⟩ | ⟨b', S, fz, _, _, _, _, r5, rfl⟩
 ·obtain rfl := List.mem_singleton.1 hc; exact Wf.lt hw q1
 ·simp only [List.mem_cons, List.not_mem_nil, or_false] at hc
  rcases hc with rfl | rfl
  ·exact Wf.lt hw q1
  ·exact Wf.lt hw r5
theorem Bld.chg {G F : List Nat} {h h1 : Heap} {b : Nat} {l : List Nat} (d : Bld h F b l) (g : Chg G h h1) (hd : Dj F G) : Bld h1 F b l := by
 obtain ⟨a, x, q1, q2, q3⟩ := d
 have hb : b ∈ F := by rcases q3 with ⟨_, _, rfl⟩ | ⟨b', S, fz, _, _, _, _, _, rfl⟩ <;> simp
 refine ⟨a, x, g.keep _ _ (hd b hb) q1, q2, ?_⟩
 rcases q3 with q | ⟨b', S, fz, r1, r2, r3, r4, r5, rfl⟩
 ·exact .inl q
 ·exact .inr ⟨b', S, fz, r1, r2, r3, r4, g.keep _ _ (hd b' (by simp)) r5, rfl⟩
theorem Bld.grow {F : List Nat} {h h1 : Heap} {b : Nat} {l : List Nat} (d : Bld h F b l) (g : Grow h h1) : Bld h1 F b l := d.chg (g.chg []) (fun _ _ q => by cases q)
theorem Bld.mem {F : List Nat} {h : Heap} {b : Nat} {l : List Nat} (d : Bld h F b l) : b ∈ F := by
 obtain ⟨a, x, q1, q2, q3⟩ := d
 rcases q3 with ⟨_, _, rfl⟩ | ⟨b', S, fz, _, _, _, _, _, rfl⟩ <;> simp
theorem Bld.new (h : Heap) : Bld (h.push (.cells [.ptr none, .slice none 0 0] (.tip [] 0 (some 177)))) [h.size] h.size [] :=
 ⟨none, _, get_push_self _ _, .inl rfl, .inl ⟨rfl, rfl, rfl⟩⟩
theorem roomy1 {n : Nat} (h : n ≤ 1000000000) : roomy n 1 = true := by
 unfold roomy; exact decide_eq_true (by omega)
theorem bld_core {h : Heap} (hw : Wf h) {F : List Nat} {b : Nat} {l s : List Nat} (d : Bld h F b l) (hn : l.length + s.length ≤ 1000000000) :
  ∃ x v h', h.rd b 1 = some x ∧ appendCore h 1 1 (some 5) x s.length (s.map bv) = some (v, h') ∧ ∃ h2 F', h'.wr b 1 [v] = some h2 ∧ Bld h2 F' b (l ++ s) ∧ Chg F h h2 ∧ Comes h F F' ∧ h2.low ≤ b ∧ h'.rd b 1 = some x := by
 obtain ⟨a, x, q1, q2, q3⟩ := d
 have hb := Wf.lt hw q1
 have hrd : ∀ (k : Heap), k.get b = some (.cells [.ptr a, x] (.tip [] 0 (some 177))) → k.rd b 1 = some x := fun k hk => by rw [rd_cell hk]; rfl
 have put : ∀ (k : Heap) (v : V), k.get b = some (.cells [.ptr a, x] (.tip [] 0 (some 177))) → V.one v = true → k.wr b 1 [v] = some (k.put b (.cells [.ptr a, v] (.tip [] 0 (some 177)))) := fun k v hk hv => wr_cell hk (by simp) hv
 have lowp : ∀ (k : Heap) (o : Obj), (k.put b o).low ≤ b := fun k o => Nat.min_le_right _ _
 rcases q3 with ⟨rfl, rfl, rfl⟩ | ⟨b', S, fz, rfl, r2, r3, r4, r5, rfl⟩
 ·by_cases hs : s = []
  ·subst hs
   refine ⟨_, .slice none 0 0, h, hrd h q1, rfl, _, [b], put h _ q1 rfl, ⟨a, _, by rw [get_put, if_pos rfl], q2, .inl ⟨rfl, rfl, rfl⟩⟩, Chg.put hw hb _, Comes.refl _ _, lowp _ _, hrd h q1⟩
  ·have hn0 : s.length ≠ 0 := by intro e; exact hs (List.length_eq_zero_iff.1 e)
   have hne : b ≠ h.size := by omega
   have g1 : (h.push (.cells (s.map bv) (.tip [] 0 (some 5)))).get b = some (.cells [.ptr a, .slice none 0 0] (.tip [] 0 (some 177))) := by rw [get_push, if_neg hne]; exact q1
   have gr : Grow h (h.push (.cells (s.map bv) (.tip [] 0 (some 5)))) := (Grow.refl hw).push _
   refine ⟨_, .oslice h.size 0 s.length s.length 1, h.push (.cells (s.map bv) (.tip [] 0 (some 5))), hrd h q1, ?_, _, [b, h.size], put _ _ g1 rfl, ⟨a, _, by rw [get_put, if_pos rfl], q2, .inr ⟨h.size, [], 0, by simp, by simpa using hs, by omega, by omega, ?_, rfl⟩⟩, Chg.growl gr (Chg.put gr.wf (by simp only [Heap.push]; omega) _), ?_, lowp _ _, hrd _ g1⟩
   ·simp only [appendCore]
    rw [if_neg hn0, if_pos (roomy1 (by simpa using hn))]
   ·rw [get_put, if_neg (by omega), get_push_self]; rfl
   ·intro c hc
    simp only [List.mem_cons, List.not_mem_nil, or_false] at hc
    rcases hc with rfl | rfl
    ·exact .inl (by simp)
    ·exact .inr (Nat.le_refl _)
 ·have hb' := Wf.lt hw r5
  by_cases hs : s = []
  ·subst hs
   refine ⟨_, .oslice b' 0 l.length l.length 1, h, hrd h q1, ?_, _, [b, b'], put h _ q1 rfl, ⟨a, _, by rw [get_put, if_pos rfl], q2, .inr ⟨b', S, fz, by simp, by simpa using r2, r3, by simpa using r4, ?_, rfl⟩⟩, (Chg.put hw hb _).mono (by simp), Comes.refl _ _, lowp _ _, hrd h q1⟩
   ·simp [appendCore]
   ·rw [get_put, if_neg r3, List.append_nil]; exact r5
  ·have hn0 : s.length ≠ 0 := by intro e; exact hs (List.length_eq_zero_iff.1 e)
   have hl0 : l.length ≠ 0 := by intro e; exact r2 (List.length_eq_zero_iff.1 e)
   have hne : b ≠ h.size := by omega
   have g1 : ((h.put b' (.cells (l.map bv) .sup)).push (.cells (l.map bv ++ s.map bv) (.tip (b' :: S) fz (some 5)))).get b = some (.cells [.ptr a, .oslice b' 0 l.length l.length 1] (.tip [] 0 (some 177))) := by
    rw [get_push, if_neg (by simpa [Heap.put] using hne), get_put, if_neg (fun e => r3 e.symm)]; exact q1
   have c1 : Chg [b'] h (h.put b' (.cells (l.map bv) .sup)) := Chg.put hw hb' _
   have gr : Grow (h.put b' (.cells (l.map bv) .sup)) ((h.put b' (.cells (l.map bv) .sup)).push (.cells (l.map bv ++ s.map bv) (.tip (b' :: S) fz (some 5)))) := (Grow.refl c1.wf).push _
   have c2 := c1.growr gr
   refine ⟨_, .oslice h.size 0 (l.length + s.length) (l.length + s.length) 1, (h.put b' (.cells (l.map bv) .sup)).push (.cells (l.map bv ++ s.map bv) (.tip (b' :: S) fz (some 5))), hrd h q1, ?_, _, [b, h.size], put _ _ g1 rfl, ⟨a, _, by rw [get_put, if_pos rfl], q2, .inr ⟨h.size, b' :: S, fz, by simp, by simp [r2], by omega, by simp; omega, ?_, rfl⟩⟩, (c2.mono (by simp)).trans ((Chg.put gr.wf (by simp only [Heap.push, Heap.put]; omega) _).mono (G := [b, b']) (by simp)) hw (Comes.refl _ _), ?_, lowp _ _, hrd _ g1⟩
   ·simp only [appendCore]
    rw [if_neg (by omega), if_pos ⟨trivial, hl0, roomy1 hn⟩, r5]
    simp only
    rw [if_pos ⟨by simp, by simpa using r4⟩]
    simp [joinTy]
   ·rw [get_put, if_neg (by omega), get_push, if_pos (by rfl), List.map_append]
   ·intro c hc
    simp only [List.mem_cons, List.not_mem_nil, or_false] at hc
    rcases hc with rfl | rfl
    ·exact .inl (by simp)
    ·exact .inr (Nat.le_refl _)
section
variable {C : Cfg} (S : StdL C)
include S
theorem bcopy_ans (h : Heap) (hw : Wf h) (F : List Nat) (b : Nat) (l : List Nat) (d : Bld h F b l) :
  Ans C 134 [.ptr (some (b, 0))] h fun v h' => Bld h' F b l ∧ Chg [b] h h' := by
 have hF : C.F 134 = some a134 := S.f rfl
 unfold a134 at hF
 refine Ans.loc S.hm (S.s _ _ _ rfl) hF rfl rfl hw (fun h2 g hsz hge => ?_) ?_
 rotate_left
 ·exact fun v h1 hg _ _ => ⟨d, Chg.refl hw⟩
 have d2 := d.grow g
 obtain ⟨a, x, q1, q2, q3⟩ := d2
 refine WC.seqO ?_
 refine omv rfl <| onk rfl <| ofa rfl <| old rfl (rd_get q1 rfl) ?_
 rcases q2 with rfl | rfl
 ·refine oeq rfl rfl rfl ?_
  refine WO.nil (WC.condT rfl (WC.ops ?_))
  have hu : unsPA h2 (.ptr (some (b, 0))) = true := by simp only [unsPA, q1]; rfl
  have ho : ofUnsA h2 177 2 (.ptr (some (b, 0))) = true := by simp only [ofUnsA, q1]; rfl
  refine omv rfl <| omv rfl <| WO.ops (StepK.unsP rfl hu) ?_
  refine WO.call rfl rfl (Ans.sum (R := fun v h' => v = .ptr (some (b, 0)) ∧ h' = h2) (S.noesc h2 _) ⟨rfl, rfl⟩) ?_
  rintro v h3 ⟨rfl, rfl⟩
  refine WO.ops (StepK.ofUns rfl ho) <| onk rfl <| ofa rfl ?_
  refine WO.op (StepK.store rfl rfl rfl (wr_cell q1 (by simp) rfl)) ?_
  refine WO.nil ⟨trivial, _, rfl, fun n => ⟨?_, ((Chg.put g.wf (Wf.lt g.wf q1) _).of_same hsz hge).low n⟩⟩
  refine ⟨some (b, 0), x, ?_, .inr rfl, ?_⟩
  ·exact (get_put _ _ _ _).trans (if_pos rfl)
  ·rcases q3 with q | ⟨b', S, fz, r1, r2, r3, r4, r5, rfl⟩
   ·exact .inl q
   ·exact .inr ⟨b', S, fz, r1, r2, r3, r4, ((get_put _ _ _ _).trans (if_neg r3)).trans r5, rfl⟩
 ·refine oeq rfl rfl rfl ?_
  refine WO.nil (WC.condF rfl (WC.seqO ?_))
  have he : eqA (.flat .ptr) (.ptr (some (b, 0))) (.ptr (some (b, 0))) = some true := by simp [eqA, flatEq]
  refine omv rfl <| onk rfl <| ofa rfl <| old rfl (rd_get q1 rfl) <| omv rfl <| oeq rfl rfl he ?_
  refine WO.nil (WC.condF rfl (WC.skip ⟨trivial, _, rfl, fun n => ⟨⟨_, x, q1, .inr rfl, q3⟩, (g.low1 n).chg _⟩⟩))
theorem bwstr_ans (h : Heap) (hw : Wf h) (F : List Nat) (b : Nat) (l s : List Nat) (d : Bld h F b l) (hn : l.length + s.length ≤ 1000000000) :
  Ans C 115 [.ptr (some (b, 0)), .str s] h fun v h' => ∃ F', Bld h' F' b (l ++ s) ∧ Chg F h h' ∧ Comes h F F' := by
 have hF : C.F 115 = some a115 := S.f rfl
 unfold a115 at hF
 refine Ans.mut (S.s _ _ _ rfl) hF rfl rfl hw fun h2 g hsz hge => ?_
 have d2 := d.grow g
 refine WC.seqO ?_
 refine omv rfl <| omv rfl ?_
 refine WO.nil (WC.seqO ?_)
 refine omv rfl ?_
 refine WO.call rfl rfl (bcopy_ans S h2 g.wf F b l d2) ?_
 rintro v h3 ⟨d3, c3⟩
 refine WO.nil (WC.seqO ?_)
 obtain ⟨x, v, h4, p1, p2, h5, F', p3, p4, p5, p6, p7, p8⟩ := bld_core c3.wf d3 (s := s) hn
 refine omv rfl <| omv rfl <| onk rfl <| ofa rfl <| old rfl p1 <| omv rfl ?_
 refine WO.ops (StepK.appendS (h' := h4) (v := v) rfl rfl ?_) ?_
 ·show appendCore h3 1 1 _ x s.length (bytesV s) = _
  exact p2
 refine onk rfl <| ofa rfl ?_
 have hv1 : v.cellsOf = [v] := by
  unfold appendCore at p2
  repeat' split at p2
  all_goals first | (cases p2; rfl) | cases p2
 refine WO.op (StepK.store (n := 1) rfl rfl (by rw [hv1]; rfl) (by rw [hv1]; exact p3)) ?_
 refine WO.nil (WC.seqO ?_)
 refine omv rfl <| olt rfl <| omv rfl <| omv rfl ?_
 have cb : Chg F h2 h3 := c3.mono (by intro c hc; obtain rfl := List.mem_singleton.1 hc; exact d3.mem)
 have hs3 : h2.size ≤ h3.size := c3.size
 have hb := d.lows hw b d.mem
 refine WO.nil (WC.ret ⟨trivial, _, rfl, by omega, fun n => ⟨F', p4.same (fun _ _ => rfl), (Chg.of_same (cb.trans p5 g.wf (Comes.refl _ _)) hsz hge).low n, fun c hc => ?_⟩⟩)
 rcases p6 c hc with q | q
 ·exact .inl q
 ·exact .inr (by omega)
theorem bwrite_ans (h : Heap) (hw : Wf h) (F : List Nat) (b : Nat) (l s : List Nat) (y : V) (d : Bld h F b l) (hn : l.length + s.length ≤ 1000000000) (hy1 : slLen y = some s.length) (hy2 : ∀ h', Chg F h h' → slCells h' 1 s.length y = some (s.map bv)) :
  Ans C 142 [.ptr (some (b, 0)), y] h fun v h' => ∃ F', Bld h' F' b (l ++ s) ∧ Chg F h h' ∧ Comes h F F' := by
 have hF : C.F 142 = some a142 := S.f rfl
 unfold a142 at hF
 refine Ans.mut (S.s _ _ _ rfl) hF rfl rfl hw fun h2 g hsz hge => ?_
 have d2 := d.grow g
 refine WC.seqO ?_
 refine omv rfl <| omv rfl ?_
 refine WO.nil (WC.seqO ?_)
 refine omv rfl ?_
 refine WO.call rfl rfl (bcopy_ans S h2 g.wf F b l d2) ?_
 rintro v h3 ⟨d3, c3⟩
 refine WO.nil (WC.seqO ?_)
 have cb : Chg F h2 h3 := c3.mono (by intro c hc; obtain rfl := List.mem_singleton.1 hc; exact d3.mem)
 obtain ⟨x, v, h4, p1, p2, h5, F', p3, p4, p5, p6, p7, p8⟩ := bld_core c3.wf d3 (s := s) hn
 refine omv rfl <| omv rfl <| onk rfl <| ofa rfl <| old rfl p1 <| omv rfl ?_
 refine WO.ops (StepK.append (h' := h4) (v := v) rfl rfl ?_) ?_
 ·simp only [appendA, hy1, hy2 h3 (Chg.of_same cb hsz hge)]
  rw [if_pos ⟨by decide, by decide, by simp, bv_one s⟩]
  exact p2
 refine onk rfl <| ofa rfl ?_
 have hv1 : v.cellsOf = [v] := by
  unfold appendCore at p2
  repeat' split at p2
  all_goals first | (cases p2; rfl) | cases p2
 refine WO.op (StepK.store (n := 1) rfl rfl (by rw [hv1]; rfl) (by rw [hv1]; exact p3)) ?_
 refine WO.nil (WC.seqO ?_)
 refine omv rfl <| ols rfl hy1 ?_
 refine omv rfl <| omv rfl ?_
 have hs3 : h2.size ≤ h3.size := c3.size
 have hb := d.lows hw b d.mem
 refine WO.nil (WC.ret ⟨trivial, _, rfl, by omega, fun n => ⟨F', p4.same (fun _ _ => rfl), (Chg.of_same (cb.trans p5 g.wf (Comes.refl _ _)) hsz hge).low n, fun c hc => ?_⟩⟩)
 rcases p6 c hc with q | q
 ·exact .inl q
 ·exact .inr (by omega)
theorem bstr_ans (h : Heap) (hw : Wf h) (F : List Nat) (b : Nat) (l : List Nat) (d : Bld h F b l) (hb : Byt l) (hl : l.length ≤ 1000000000) :
  Ans C 117 [.ptr (some (b, 0))] h fun v h' => v = .str l ∧ Bld h' F b l ∧ Chg F h h' := by
 have hF : C.F 117 = some a117 := S.f rfl
 unfold a117 at hF
 refine Ans.loc S.hm (S.s _ _ _ rfl) hF rfl rfl hw (fun h2 g hsz hge => ?_) ?_
 rotate_left
 ·exact fun v h1 hg q _ => ⟨q.1, d, Chg.refl hw⟩
 have d2 := d.grow g
 have hd2 := d2
 obtain ⟨a, x, q1, q2, q3⟩ := d2
 have lx : h2.rd b (0 + 1) = some x := rd_get q1 rfl
 refine WC.seqO ?_
 refine omv rfl ?_
 refine WO.nil (WC.seqD ?_)
 rcases q3 with ⟨rfl, rfl, rfl⟩ | ⟨b', S, fz, rfl, r2, r3, r4, r5, rfl⟩
 ·refine dmv rfl <| dnk rfl <| dfa rfl ?_
  refine WD.load1 rfl lx ?_
  refine WD.pure (StepK.sliceData rfl rfl) rfl ?_
  refine dmv rfl <| dnk rfl <| dfa rfl ?_
  refine WD.load1 rfl lx ?_
  refine dls rfl rfl ?_
  refine WD.opC (v := .str []) (h' := h2) (dd := some 13) ⟨lx, lx, trivial⟩ rfl (StepK.unsStr rfl rfl rfl) ?_
  refine dmv rfl ?_
  refine WD.nil trivial (WC.ret ⟨trivial, _, rfl, fun n => ⟨rfl, hd2.same (fun _ _ => rfl), (g.low1 n).chg _⟩⟩)
 ·have hl0 : l.length ≠ 0 := by intro e; exact r2 (List.length_eq_zero_iff.1 e)
  have hsd : sliceDataA (.oslice b' 0 l.length l.length 1) = some (.ptr (some (b', 0))) := by simp only [sliceDataA]; rw [if_neg hl0]
  have hun : unsStrA h2 5 (.ptr (some (b', 0))) (iv l.length) = some (.str l, h2.put b' (.cells (l.map bv) (.tip S (max fz l.length) (some 5)))) := by
   simp only [unsStrA]
   rw [if_neg (by omega), r5]
   simp only [Int.toNat_natCast]
   rw [if_pos ⟨by omega, by simp, trivial, trivial, by omega⟩]
   rw [List.take_of_length_le (by simp), u8s_bv l hb]
  refine dmv rfl <| dnk rfl <| dfa rfl ?_
  refine WD.load1 rfl lx ?_
  refine WD.pure (StepK.sliceData rfl hsd) rfl ?_
  refine dmv rfl <| dnk rfl <| dfa rfl ?_
  refine WD.load1 rfl lx ?_
  refine dls rfl rfl ?_
  refine WD.opC (dd := some 13) ⟨lx, lx, trivial⟩ rfl (StepK.unsStr rfl rfl hun) ?_
  refine dmv rfl ?_
  have hch : Chg [b'] h2 (h2.put b' (.cells (l.map bv) (.tip S (max fz l.length) (some 5)))) := Chg.put g.wf (Wf.lt g.wf r5) _
  refine WD.nil trivial (WC.ret ⟨trivial, _, rfl, fun n => ⟨rfl, ⟨a, _, ?_, q2, .inr ⟨b', S, max fz l.length, rfl, r2, r3, by omega, ?_, rfl⟩⟩, ((hch.mono (by simp)).of_same hsz hge).low n⟩⟩)
  ·exact ((get_put _ _ _ _).trans (if_neg (fun e => r3 e.symm))).trans q1
  ·exact (get_put _ _ _ _).trans (if_pos rfl)
end
end Abs
end Go.Proofs.YtdebiolekbldiaaGreatDoor
namespace Go.Proofs.YtdebiolekbldiaaGreatDoor
namespace Abs
set_option linter.unusedVariables false
set_option linter.unusedSimpArgs false
open Go.RowKit
attribute [local irreducible] WO WC WD StepK Ans Does Runs DoesD
/-! ### The digest, as a Lean function -/
def begN : List Nat := [1779033703, 3144134277, 1013904242, 2773480762, 1359893119, 2600822924, 528734635, 1541459225]
def absF : Nat → List Nat → List Nat → List Nat × List Nat
 | 0, H, t => (H, t)
 | k + 1, H, t => absF k (behindN rootsN H (t.take 64)) (t.drop 64)
def be8 (n : Nat) : List Nat := [n / 72057594037927936 % 256, n / 281474976710656 % 256, n / 1099511627776 % 256, n / 4294967296 % 256, n / 16777216 % 256, n / 65536 % 256, n / 256 % 256, n % 256]
def be4 (n : Nat) : List Nat := [n / 16777216 % 256, n / 65536 % 256, n / 256 % 256, n % 256]
def tailF (k n : Nat) : List Nat := 128 :: (repL [0] ((119 - k) % 64) ++ be8 (8 * n))
def sumF (H rest : List Nat) (n : Nat) : List Nat :=
 let t := rest ++ tailF rest.length n
 ((absF (t.length / 64) H t).1.map be4).flatten
def ofF (s : List Nat) : List Nat :=
 let r := absF (s.length / 64) begN s
 sumF r.1 r.2 s.length
def Words (H : List Nat) : Prop := H.length = 8 ∧ ∀ x ∈ H, x < 4294967296
theorem upN_words {H v : List Nat} (hH : H.length = 8) (hv : v.length = 8) : Words (upN H v) := by
 have : ∀ (a b : List Nat), a.length = b.length → (upN a b).length = a.length ∧ ∀ x ∈ upN a b, x < 4294967296 := by
  intro a
  induction a with
  | nil => intro b h; simp [upN]
  | cons x a ih =>
   intro b h
   cases b with
   | nil => simp at h
   | cons y b =>
    obtain ⟨q1, q2⟩ := ih b (by simpa using h)
    simp only [upN, frc_eq, List.length_cons, q1, true_and]
    intro z hz
    rcases List.mem_cons.1 hz with rfl | hz
    ·exact lt_add _ _
    ·exact q2 z hz
 have := this H v (by omega)
 exact ⟨by omega, this.2⟩
theorem behindN_words {H s : List Nat} (hH : H.length = 8) : Words (behindN rootsN H s) := by
 match H, hH with
 | [a, b, c, d, e, f, g, h], _ =>
  obtain ⟨a', b', c', d', e', f', g', h', q⟩ := rndN_length rootsN (schedN s) a b c d e f g h
  simp only [behindN, q]
  exact upN_words rfl rfl
theorem absF_words : ∀ (k : Nat) {H t : List Nat}, Words H → Words (absF k H t).1
 | 0, _, _, h => h
 | k + 1, _, _, h => absF_words k (behindN_words h.1)
theorem absF_rest : ∀ (k : Nat) (H t : List Nat), (absF k H t).2 = t.drop (64 * k)
 | 0, _, _ => rfl
 | k + 1, H, t => by
  unfold absF; rw [absF_rest k, List.drop_drop, Nat.mul_succ]; congr 1; omega
theorem absF_snoc : ∀ (k : Nat) (H t : List Nat), absF (k + 1) H t = (behindN rootsN (absF k H t).1 ((absF k H t).2.take 64), (absF k H t).2.drop 64)
 | 0, _, _ => rfl
 | k + 1, H, t => by
  have h1 : absF (k + 1 + 1) H t = absF (k + 1) (behindN rootsN H (t.take 64)) (t.drop 64) := rfl
  rw [h1, absF_snoc k]; rfl
theorem repL_len (n : Nat) : (repL [0] n).length = n := by
 induction n with
 | zero => rfl
 | succ n ih => simp [repL, ih] <;> omega
theorem be4_byt (n : Nat) : Byt (be4 n) := by
 intro b hb; simp only [be4, List.mem_cons, List.not_mem_nil, or_false] at hb; omega
theorem flat4_byt : ∀ l : List Nat, Byt ((l.map be4).flatten)
 | [] => Byt.nil
 | a :: l => (be4_byt a).app (flat4_byt l)
theorem flat4_len : ∀ l : List Nat, ((l.map be4).flatten).length = 4 * l.length
 | [] => rfl
 | a :: l => by simp only [List.map_cons, List.flatten_cons, List.length_append, flat4_len l, List.length_cons]; simp [be4] <;> omega
theorem begN_words : Words begN := ⟨rfl, by decide⟩
theorem ofF_len (s : List Nat) : (ofF s).length = 32 := by
 unfold ofF sumF
 rw [flat4_len, (absF_words _ (absF_words _ begN_words)).1]
theorem ofF_byt (s : List Nat) : Byt (ofF s) := flat4_byt _
/-! ### The writer -/
def WrAt (h : Heap) (b : Nat) (H rest : List Nat) (n : Nat) : Prop := Cl h b (H.map un ++ [.str rest, iv n])
def Ro (h : Heap) : Prop := rootsOk h = true
theorem Ro.get {h : Heap} (r : Ro h) : ∃ cs, h.get 0 = some (.cells cs .ro) ∧ V.beqs cs ((rootsN.map iN).map uv) = true := by
 unfold Ro rootsOk at r
 split at r
 ·rename_i cs hg; exact ⟨cs, hg, r⟩
 ·cases r
theorem Ro.mk {h : Heap} {cs : List V} (hg : h.get 0 = some (.cells cs .ro)) (hb : V.beqs cs ((rootsN.map iN).map uv) = true) : Ro h := by
 unfold Ro rootsOk; rw [hg]; exact hb
theorem Ro.grow {h h' : Heap} (r : Ro h) (g : Grow h h') : Ro h' := by
 obtain ⟨cs, q1, q2⟩ := r.get; exact Ro.mk (g.ext _ _ q1) q2
theorem Ro.same {h h2 : Heap} (r : Ro h) (hg : ∀ b, h2.get b = h.get b) : Ro h2 := by
 obtain ⟨cs, q1, q2⟩ := r.get; exact Ro.mk (by rw [hg]; exact q1) q2
theorem Cl.ne_roots {h : Heap} {b : Nat} {cs : List V} (a : Cl h b cs) (r : Ro h) : b ≠ 0 := by
 rintro rfl
 obtain ⟨ty, q⟩ := a
 obtain ⟨cs', q1, _⟩ := r.get
 rw [q1] at q; cases q
theorem Ro.chg {F : List Nat} {h h' : Heap} (r : Ro h) (g : Chg F h h') (hF : 0 ∉ F) : Ro h' := by
 obtain ⟨cs, q1, q2⟩ := r.get; exact Ro.mk (g.keep _ _ hF q1) q2
theorem un_one (l : List Nat) : (l.map un).all V.one = true := by
 rw [List.all_eq_true]; intro v hv
 obtain ⟨x, _, rfl⟩ := List.mem_map.1 hv
 rfl
theorem splice_head {us cs ds : List V} (hl : us.length = cs.length) : splice (cs ++ ds) 0 us = us ++ ds := by
 rw [splice_cat us (cs ++ ds) 0 (by simp; omega)]
 simp [hl]
theorem wr_rds {h : Heap} {b : Nat} {H : List Nat} {rest : List Nat} {n : Nat} (a : WrAt h b H rest n) (hH : H.length = 8) : h.rds b 0 8 = some (H.map un) := by
 have := Cl.rdsAt a (o := 0) (n := 8) (by simp; omega)
 rw [this, List.drop_zero, List.take_append_of_le_length (by simp; omega), List.take_of_length_le (by simp; omega)]
theorem wr_rest {h : Heap} {b : Nat} {H : List Nat} {rest : List Nat} {n : Nat} (a : WrAt h b H rest n) (hH : H.length = 8) : h.rd b (0 + 8) = some (.str rest) :=
 Cl.rd a (by rw [List.getElem?_append_right (by simp; omega)]; simp [hH])
theorem wr_num {h : Heap} {b : Nat} {H : List Nat} {rest : List Nat} {n : Nat} (a : WrAt h b H rest n) (hH : H.length = 8) : h.rd b (0 + 9) = some (iv n) :=
 Cl.rd a (by rw [List.getElem?_append_right (by simp; omega)]; simp [hH])
theorem byte_shr (n : Nat) (k m : Nat) (hk : (k : Int).toNat ≤ 64) (hm : 2 ^ k = m) : IntKind.u8.wrap ((n : Int).fdiv (2 ^ (min (k : Int).toNat IntKind.i64.bits))) = Int.ofNat (n / m % 256) := by
 have e1 : min (k : Int).toNat IntKind.i64.bits = k := by
  rw [Int.toNat_natCast] at *
  exact Nat.min_eq_left (by show k ≤ 64; omega)
 rw [e1, fdiv_pow, hm]
 generalize n / m = x
 show ((x : Int) % 256) = ((x % 256 : Nat) : Int)
 omega
theorem byte_shr32 (n : Nat) (k m : Nat) (hk : k ≤ 32) (hm : 2 ^ k = m) : IntKind.u8.wrap ((Int.ofNat n).fdiv (2 ^ (min (k : Int).toNat IntKind.u32.bits))) = Int.ofNat (n / m % 256) := by
 have e1 : min (k : Int).toNat IntKind.u32.bits = k := by
  rw [Int.toNat_natCast]
  exact Nat.min_eq_left (by show k ≤ 32; omega)
 rw [e1]
 show IntKind.u8.wrap ((n : Int).fdiv (2 ^ k)) = _
 rw [fdiv_pow, hm]
 generalize n / m = x
 show ((x : Int) % 256) = ((x % 256 : Nat) : Int)
 omega
section
variable {C : Cfg} (S : StdL C)
include S
theorem sbegin_ans (h : Heap) (hw : Wf h) : Ans C 139 [] h fun v h' => v = .agg (begN.map un) ∧ Grow h h' := by
 have hF : C.F 139 = some a139 := S.f rfl
 unfold a139 at hF
 refine Ans.val (fun _ _ => S.s _ _ _ rfl) hF rfl rfl hw fun h2 g => ?_
 clear hF
 refine WC.seqO (WO.ops StepK.alloc (WO.nil (WC.seqO ?_)))
 have a0 := Cl.new h2 (List.replicate 8 (un 0)) none
 have g3 := g.push (.cells (List.replicate 8 (un 0)) (.tip [] 0 none))
 have hs := g.size
 change WO C _ _ (h2.push (.cells (List.replicate 8 (un 0)) (.tip [] 0 none))) _
 generalize h2.push (.cells (List.replicate 8 (un 0)) (.tip [] 0 none)) = h3 at *
 obtain ⟨h4, q1, q2, q3, q4⟩ := a0.sets g3.wf (i := 0) (us := begN.map un) (by simp [begN]) (un_one _)
 refine obu rfl rfl ?_
 refine WO.op (StepK.store rfl rfl rfl q1) ?_
 refine WO.nil (WC.ret ⟨trivial, Chg.newGrow g3 q3 hw (by simpa using hs), ?_⟩)
 have r := q2.rds (k := 8) (by rfl)
 exact retE_cells rfl r
theorem snew_ans (h : Heap) (hw : Wf h) : Ans C 121 [] h fun v h' => ∃ b, v = .ptr (some (b, 0)) ∧ h.size ≤ b ∧ WrAt h' b begN [] 0 ∧ Grow h h' := by
 have hF : C.F 121 = some a121 := S.f rfl
 unfold a121 at hF
 refine Ans.loc S.hm (S.s _ _ _ rfl) hF rfl rfl hw (fun h2 g hsz hge => ?_) ?_
 ·refine WC.seqO ?_
  refine omv rfl ?_
  refine WO.nil (WC.seqO ?_)
  refine WO.call rfl rfl (sbegin_ans S h2 g.wf) ?_
  rintro v h3 ⟨rfl, g3⟩
  refine obu rfl rfl <| WO.ops (StepK.box rfl) <| omv rfl ?_
  refine WO.nil (WC.ret ⟨trivial, _, rfl, fun n => ⟨_, rfl, ?_, Cl.new h3 _ none, ((g.trans g3).push _).low1 n⟩⟩)
  have := g3.size; omega
 ·rintro v h1 _ ⟨b, rfl, hb, _⟩ hv
  simp [V.scopd] at hv; omega
theorem swrite_ans (h : Heap) (hw : Wf h) (hr : Ro h) (b : Nat) (H rest s : List Nat) (n : Nat) (a : WrAt h b H rest n) (hH : Words H) (hl : rest.length + s.length ≤ 1000000000) (hn : n ≤ 1000000000000) :
  Ans C 122 [.ptr (some (b, 0)), .str s] h fun v h' => WrAt h' b (absF ((rest ++ s).length / 64) H (rest ++ s)).1 (absF ((rest ++ s).length / 64) H (rest ++ s)).2 (n + s.length) ∧ Chg [b] h h' := by
 have hF : C.F 122 = some a122 := S.f rfl
 unfold a122 at hF
 have hbl := Cl.lt a hw
 refine Ans.loc S.hm (S.s _ _ _ rfl) hF rfl rfl hw (fun h2 g hsz hge => ?_) ?_
 rotate_left
 ·exact fun v h1 hg q _ => ⟨Cl.of_get q.1 (hg b hbl), Chg.refl hw⟩
 clear hF
 have a2 : WrAt h2 b H rest n := Cl.grow a g
 have r2 := hr.same hge
 have hbr := Cl.ne_roots a2 r2
 have hH8 := hH.1
 refine WC.seq (WC.seqO ?_)
 refine omv rfl <| oeq rfl rfl rfl ?_
 refine WO.nil (WC.condF rfl (WC.skip (WC.seqO ?_)))
 obtain ⟨h3, p1, p2, p3, p4⟩ := Cl.set g.wf a2 (i := 9) (v := iv ((n : Int) + s.length)) (by simp; omega) rfl
 have a3 : WrAt h3 b H rest (n + s.length) := by
  have : (H.map un ++ [V.str rest, iv n]).set 9 (iv ((n : Int) + s.length)) = H.map un ++ [V.str rest, iv ((n + s.length : Nat) : Int)] := by
   rw [List.set_append_right _ _ (by simp; omega)]
   simp [hH8]
  rw [this] at p2; exact p2
 refine omv rfl <| onk rfl <| ofa rfl <| old rfl (wr_num a2 hH8) ?_
 refine omv rfl <| olt rfl <| oad rfl rfl (by omega) <| onk rfl <| ofa rfl ?_
 refine WO.op (StepK.store rfl rfl rfl (by rw [Nat.zero_add]; exact p1)) ?_
 refine WO.nil (WC.seqO ?_)
 refine omv rfl <| onk rfl <| ofa rfl <| old rfl (wr_rest a3 hH8) ?_
 refine omv rfl <| obn rfl rfl (add_str (by omega)) <| omv rfl ?_
 refine WO.nil (WC.seq (WC.block ?_))
 have r3 := r2.chg p3 (by simpa using fun e => hbr e.symm)
 generalize ht : rest ++ s = t at *
 have htl : t.length ≤ 1000000000 := by rw [← ht, List.length_append]; omega
 refine WC.loop (σ := Nat) (fun k => [(0, .ptr (some (b, 0))), (1, .str (absF k H t).2)]) (fun k h' => WrAt h' b (absF k H t).1 rest (n + s.length) ∧ Chg [b] h2 h' ∧ Ro h' ∧ 64 * k ≤ t.length) (fun k => t.length - 64 * k) 0 (Cov.cons rfl (Cov.cons rfl (Cov.nil _))) ⟨a3, p3, r3, by omega⟩ ?_
 rintro k h4 ⟨a4, c4, r4, hk⟩
 have hrest := absF_rest k H t
 have hw4 := absF_words k (t := t) hH
 have hlen : (absF k H t).2.length = t.length - 64 * k := by rw [hrest, List.length_drop]
 have hsn := absF_snoc k H t
 generalize hp : absF k H t = p at *
 obtain ⟨H4, t4⟩ := p
 simp only at hrest hw4 hlen hsn a4
 refine WC.seq (WC.seqO ?_)
 refine omv rfl <| olt rfl <| obn rfl rfl rfl ?_
 refine WO.nil ?_
 refine WC.cond rfl (fun hc => WC.skip ?_) (fun hc => WC.exit ?_)
 ·have hc : (t4.length : Int) ≥ 64 := of_decide_eq_true hc
  have hc : 64 ≤ t4.length := by omega
  have hw48 := hw4.1
  refine WC.block (WC.draw ?_)
  have rh := wr_rds a4 hw4.1
  refine dmv rfl <| dmv rfl <| dnk rfl <| dfa rfl ?_
  refine WD.loadN rfl rh ?_
  refine dmv rfl <| WD.pure (StepK.sliceStr rfl rfl rfl (str_lo (n := 64) (by omega) (by omega))) rfl ?_
  refine dmv rfl <| WD.pure (StepK.sliceStr rfl rfl rfl (str_hi (n := 64) (by omega) (by omega))) rfl ?_
  refine WD.call ⟨rh, trivial⟩ rfl rfl (Ans.sum (R := fun v h' => v = .agg ((behindN rootsN H4 (t4.take 64)).map un) ∧ h' = h4) (S.bh h4 H4 (t4.take 64) hw4.1 hw4.2 (by rw [List.length_take]; omega) r4) ⟨rfl, rfl⟩) ?_
  rintro v h5 ⟨rfl, rfl⟩
  have hbw := behindN_words (H := H4) (s := t4.take 64) hw4.1
  obtain ⟨h6, q1, q2, q3, q4⟩ := Cl.sets c4.wf a4 (i := 0) (us := (behindN rootsN H4 (t4.take 64)).map un) (by simp [hbw.1]; omega) (un_one _)
  rw [splice_head (by simp [hbw.1, hw4.1])] at q2
  refine dnk rfl <| dfa rfl ?_
  refine WD.opC (by repeat (first | exact trivial | refine ⟨by with_reducible assumption, ?_⟩)) rfl (StepK.store rfl rfl (by simp [V.cellsOf, hbw.1]) q1) ?_
  refine dmv rfl ?_
  refine WD.nil (by repeat (first | exact trivial | refine ⟨by with_reducible assumption, ?_⟩)) ?_
  refine ⟨k + 1, ?_, ⟨?_, c4.trans q3 g.wf (Comes.refl _ _), r4.chg q3 (by simpa using fun e => hbr e.symm), by omega⟩, by omega⟩
  ·rw [hsn]; exact Cov.cons rfl (Cov.cons rfl (Cov.nil _))
  ·rw [hsn]; exact q2
 ·have hc : ¬ (t4.length : Int) ≥ 64 := of_decide_eq_false hc
  have hw48 := hw4.1
  have hk2 : t.length / 64 = k := by omega
  rw [hk2, hp]
  obtain ⟨h5, q1, q2, q3, q4⟩ := Cl.set c4.wf a4 (i := 8) (v := .str t4) (by simp; omega) rfl
  refine WC.ops ?_
  refine omv rfl <| omv rfl <| onk rfl <| ofa rfl ?_
  refine WO.op (StepK.store rfl rfl rfl (by rw [Nat.zero_add]; exact q1)) ?_
  refine WO.nil ⟨trivial, _, rfl, fun m => ⟨?_, ((c4.trans q3 g.wf (Comes.refl _ _)).of_same hsz hge).low m⟩⟩
  have : (H4.map un ++ [V.str rest, iv ((n + s.length : Nat) : Int)]).set 8 (.str t4) = H4.map un ++ [V.str t4, iv ((n + s.length : Nat) : Int)] := by
   rw [List.set_append_right _ _ (by simp; omega)]
   simp [hw48]
  rw [this] at q2; exact q2
def tailUp (n : Nat) : Nat → List Nat
 | 0 => []
 | k + 1 => tailUp n k ++ [n / 2 ^ (56 - 8 * k) % 256]
theorem ssum_ans (h : Heap) (hw : Wf h) (hr : Ro h) (b : Nat) (H rest : List Nat) (n : Nat) (a : WrAt h b H rest n) (hH : Words H) (hl : rest.length < 64) (hn : n ≤ 1000000000000) :
  Ans C 123 [.ptr (some (b, 0))] h fun v h' => v = .str (sumF H rest n) ∧ Grow h h' := by
 have hF : C.F 123 = some a123 := S.f rfl
 unfold a123 at hF
 refine Ans.val (fun _ _ => S.s _ _ _ rfl) hF rfl rfl hw fun h2 g => ?_
 clear hF
 have a2 : WrAt h2 b H rest n := Cl.grow a g
 have r2 := hr.grow g
 have hH8 := hH.1
 refine WC.seqO ?_
 refine omv rfl ?_
 refine WO.nil (WC.seq (WC.seqO ?_))
 refine omv rfl <| oeq rfl rfl rfl ?_
 refine WO.nil (WC.condF rfl (WC.skip (WC.seqO ?_)))
 refine omv rfl <| onk rfl <| ofa rfl <| old rfl (wr_rest a2 hH8) ?_
 have hrem : binA .rem (iv ((119 : Int) - rest.length)) (iv 64) = some (iv (((119 - rest.length) % 64 : Nat) : Int)) := by
  simp only [binA]
  rw [if_pos ⟨trivial, by decide⟩]
  congr 2
  rw [show (119 : Int) - rest.length = ((119 - rest.length : Nat) : Int) by omega]
  rfl
 refine olt rfl <| osb rfl rfl (by omega) <| obn rfl rfl hrem ?_
 refine WO.call rfl rfl (Ans.sum (R := fun v h' => v = .str (repL [0] ((119 - rest.length) % 64)) ∧ h' = h2) (S.rep h2 [0] _ (by simp; omega) (by omega)) ⟨rfl, rfl⟩) ?_
 rintro v h3 ⟨rfl, rfl⟩
 generalize hz : repL [0] ((119 - rest.length) % 64) = z at *
 have hzl : z.length ≤ 63 := by rw [← hz, repL_len]; omega
 refine obn rfl rfl (add_str (by simp; omega)) <| omv rfl ?_
 refine WO.nil (WC.seq (WC.seqO ?_))
 refine omv rfl ?_
 refine WO.nil (WC.block ?_)
 refine WC.loop (σ := Nat) (fun k => [(0, .ptr (some (b, 0))), (3, .str ([128] ++ z ++ tailUp (8 * n) k)), (4, iv (56 - 8 * (k : Int)))]) (fun k h' => Grow h3 h' ∧ k ≤ 8) (fun k => 8 - k) 0 (Cov.cons rfl (Cov.cons (by simp [tailUp, Env.get]) (Cov.cons rfl (Cov.nil _)))) ⟨Grow.refl g.wf, by omega⟩ ?_
 rintro k h4 ⟨g4, hk⟩
 have htu : ∀ m, (tailUp (8 * n) m).length = m := by
  intro m
  induction m with
  | zero => rfl
  | succ m ih => simp [tailUp, ih]
 refine WC.seq (WC.seqO ?_)
 refine omv rfl <| obn rfl rfl rfl ?_
 refine WO.nil ?_
 refine WC.cond rfl (fun hc => WC.skip ?_) (fun hc => WC.exit ?_)
 ·have hc := of_decide_eq_true hc
  have hk7 : k ≤ 7 := by omega
  have a4 : WrAt h4 b H rest n := Cl.grow a2 g4
  refine WC.seq (WC.block (WC.ops ?_))
  have hmul : binA .mul (iv 8) (iv n) = some (iv ((8 * n : Nat) : Int)) := by
   rw [bin_mul (by omega)]; rfl
  have hk8 : (56 : Int) - 8 * (k : Int) = ((56 - 8 * k : Nat) : Int) := by omega
  have hby := byte_shr (8 * n) (56 - 8 * k) (2 ^ (56 - 8 * k)) (by omega) rfl
  rw [hk8]
  refine omv rfl <| omv rfl <| onk rfl <| ofa rfl <| old rfl (wr_num a4 hH8) ?_
  refine obn rfl rfl hmul <| omv rfl <| obn rfl rfl (bin_shr (by omega)) <| WO.ops (StepK.toInt rfl hby) <| WO.ops (StepK.buildSl rfl rfl) ?_
  have ab := Cl.new h4 ([8 * n / 2 ^ (56 - 8 * k) % 256].map bv) (some 5)
  have g5 := (Grow.refl g4.wf).push (.cells ([8 * n / 2 ^ (56 - 8 * k) % 256].map bv) (.tip [] 0 (some 5)))
  have hts := toStr_cl (n := 1) (c := 1) ab rfl (fun x hx => by simp at hx; omega)
  change WO C _ _ (h4.push (.cells ([8 * n / 2 ^ (56 - 8 * k) % 256].map bv) (.tip [] 0 (some 5)))) _
  generalize h4.push (.cells ([8 * n / 2 ^ (56 - 8 * k) % 256].map bv) (.tip [] 0 (some 5))) = h5 at *
  refine WO.ops (StepK.toStr rfl hts) ?_
  refine obn rfl rfl (add_str (by simp [htu]; omega)) <| omv rfl ?_
  refine WO.nil (WC.ops ?_)
  refine omv rfl <| osb rfl rfl (by omega) <| omv rfl ?_
  refine WO.nil ⟨k + 1, ?_, ⟨g4.trans g5, by omega⟩, by omega⟩
  refine Cov.cons rfl (Cov.cons ?_ (Cov.cons ?_ (Cov.nil _)))
  ·simp [Env.get, tailUp]
  ·simp only [Env.get, if_true]; congr 2; omega
 have hc := of_decide_eq_false hc
 obtain rfl : k = 8 := by omega
 have htl : [128] ++ z ++ tailUp (8 * n) 8 = tailF rest.length n := by
  unfold tailF; rw [hz]; simp [tailUp, be8]
 rw [htl]
 refine WC.seqO ?_
 have a4 : WrAt h4 b H rest n := Cl.grow a2 g4
 have ra := Cl.rds a4 (k := 10) (by simp; omega)
 refine omv rfl <| onk rfl <| WO.ops (StepK.loadN rfl ra) <| WO.ops StepK.alloc ?_
 have ab := Cl.new h4 (List.replicate 8 (un 0) ++ [.str [], iv 0]) none
 have g5 := (g.trans g4).push (.cells (List.replicate 8 (un 0) ++ [.str [], iv 0]) (.tip [] 0 none))
 have gs5 := (Grow.refl g4.wf).push (.cells (List.replicate 8 (un 0) ++ [.str [], iv 0]) (.tip [] 0 none))
 change WO C _ _ (h4.push (.cells (List.replicate 8 (un 0) ++ [.str [], iv 0]) (.tip [] 0 none))) _
 generalize hh5 : h4.push (.cells (List.replicate 8 (un 0) ++ [.str [], iv 0]) (.tip [] 0 none)) = h5 at *
 have hc4 : h.size ≤ h4.size := Nat.le_trans g.size g4.size
 generalize h4.size = c at *
 obtain ⟨h6, q1, q2, q3, q4⟩ := ab.sets g5.wf (i := 0) (us := H.map un ++ [.str rest, iv n]) (by simp; omega) (by rw [List.all_append, un_one]; rfl)
 have a6 : WrAt h6 c H rest n := by
  have := splice_head (us := H.map un ++ [.str rest, iv n]) (cs := List.replicate 8 (un 0) ++ [.str [], iv 0]) (ds := []) (by simp; omega)
  rw [List.append_nil, List.append_nil] at this
  rw [this] at q2; exact q2
 refine WO.op (StepK.store rfl rfl (by simp [V.cellsOf]; omega) q1) ?_
 refine WO.nil (WC.seqO ?_)
 have g6 := Chg.newGrow g5 q3 hw (by simpa using hc4)
 have r6 := hr.grow g6
 refine omv rfl ?_
 have htb : (tailF rest.length n).length ≤ 73 := by simp [tailF, repL_len, be8]; omega
 refine WO.call rfl rfl (swrite_ans S h6 g6.wf r6 c H rest (tailF rest.length n) n a6 hH (by omega) hn) ?_
 rintro v h7 ⟨a7, c7⟩
 have g7 := Chg.newGrow g6 c7 hw (by simpa using hc4)
 have hval : sumF H rest n = ((absF ((rest ++ tailF rest.length n).length / 64) H (rest ++ tailF rest.length n)).1.map be4).flatten := rfl
 rw [hval]
 have hw7 := absF_words ((rest ++ tailF rest.length n).length / 64) (t := rest ++ tailF rest.length n) hH
 generalize absF ((rest ++ tailF rest.length n).length / 64) H (rest ++ tailF rest.length n) = p at *
 obtain ⟨H7, t7⟩ := p
 simp only at a7 hw7 ⊢
 refine WO.nil (WC.seqO (WO.ops StepK.alloc ?_))
 have d0 := Bld.new h7
 have g8 := g7.push (.cells [.ptr none, .slice none 0 0] (.tip [] 0 (some 177)))
 have a8 : WrAt (h7.push (.cells [.ptr none, .slice none 0 0] (.tip [] 0 (some 177)))) c H7 t7 (n + (tailF rest.length n).length) := Cl.grow a7 ((Grow.refl g7.wf).push _)
 have hs7 := g7.size
 generalize h7.push (.cells [.ptr none, .slice none 0 0] (.tip [] 0 (some 177))) = h8 at *
 generalize h7.size = d at *
 refine WO.nil (WC.seq (WC.seqO ?_))
 refine ofa rfl <| WO.ops (StepK.loadN rfl (wr_rds a8 hw7.1)) <| omv rfl ?_
 refine WO.nil (WC.block ?_)
 refine WC.loop (σ := Nat) (fun k => [(6, .ptr (some (d, 0))), (43, .agg (H7.map un)), (44, iv k)]) (fun k h' => (∃ F, Bld h' F d (((H7.take k).map be4).flatten) ∧ ∀ x ∈ F, h.size ≤ x) ∧ Grow h h' ∧ k ≤ 8) (fun k => 8 - k) 0 (Cov.cons rfl (Cov.cons rfl (Cov.cons rfl (Cov.nil _)))) ⟨⟨[d], d0, by simpa using hs7⟩, g8, by omega⟩ ?_
 rintro k h9 ⟨⟨F, d9, hF9⟩, g9, hk9⟩
 have hw78 := hw7.1
 refine WC.seqO (obn rfl rfl rfl (WO.nil (WC.seq ?_)))
 refine WC.cond rfl (fun hc => WC.skip ?_) (fun hc => WC.exit ?_)
 ·have hc := of_decide_eq_true hc
  have hk7 : k < 8 := by omega
  have hat : atArrA 8 1 none (.agg (H7.map un)) (iv k) = some (un (H7.getD k 0)) := by
   simp only [atArrA, intV]
   rw [if_pos ⟨by omega, by omega⟩]
   simp only [aggOf, Int.toNat_natCast, Nat.mul_one, List.getElem?_map, List.getD_eq_getElem?_getD]
   rw [List.getElem?_eq_getElem (by omega)]; rfl
  refine WC.seq (WC.block (WC.seqO ?_))
  refine WO.ops (StepK.atArr rfl rfl hat) <| omv rfl ?_
  refine WO.nil (WC.ops ?_)
  generalize hx : H7.getD k 0 = x at *
  refine omv rfl <| obn rfl rfl (bin_shr (by omega)) <| WO.ops (StepK.toInt rfl (byte_shr32 x 24 16777216 (by omega) rfl)) <| omv rfl <| obn rfl rfl (bin_shr (by omega)) <| WO.ops (StepK.toInt rfl (byte_shr32 x 16 65536 (by omega) rfl)) <| omv rfl <| obn rfl rfl (bin_shr (by omega)) <| WO.ops (StepK.toInt rfl (byte_shr32 x 8 256 (by omega) rfl)) <| omv rfl <| WO.ops (StepK.toInt (m := Int.ofNat (x % 256)) rfl (by show ((x : Int) % 256) = ((x % 256 : Nat) : Int); omega)) <| WO.ops (StepK.buildSl rfl rfl) ?_
  have ac := Cl.new h9 ((be4 x).map bv) (some 5)
  have g10 := (Grow.refl g9.wf).push (.cells ((be4 x).map bv) (.tip [] 0 (some 5)))
  have d10 := d9.grow g10
  have hlF := d9.lows g9.wf
  change WO C _ _ (h9.push (.cells ((be4 x).map bv) (.tip [] 0 (some 5)))) _
  generalize h9.push (.cells ((be4 x).map bv) (.tip [] 0 (some 5))) = h10 at *
  have hb10 : (((H7.take k).map be4).flatten).length ≤ 32 := by rw [flat4_len, List.length_take]; omega
  refine WO.call rfl rfl (bwrite_ans S h10 g10.wf F d _ (be4 x) (.slice (some (h9.size, 0)) 4 4) d10 (by simp only [be4, List.length_cons, List.length_nil]; omega) rfl (fun h' c' => ?_)) ?_
  ·have hnF : h9.size ∉ F := fun q => by have := hlF _ q; omega
   have := Cl.rds (Cl.chg ac c' hnF) (k := 4) rfl
   simp only [slCells]
   exact this
  rintro v h11 ⟨F', d11, c11, cm⟩
  have g11 := Chg.newGrow (g9.trans g10) c11 hw hF9
  refine WO.nil (WC.ops ?_)
  refine oad rfl rfl (by omega) <| omv rfl ?_
  refine WO.nil ⟨k + 1, Cov.cons rfl (Cov.cons rfl (Cov.cons rfl (Cov.nil _))), ⟨⟨F', ?_, fun y hy => ?_⟩, g11, by omega⟩, by omega⟩
  ·have : H7.take (k + 1) = H7.take k ++ [x] := by
    rw [List.take_succ_eq_append_getElem (by omega)]
    rw [List.getD_eq_getElem?_getD, List.getElem?_eq_getElem (by omega)] at hx
    rw [← hx]; rfl
   rw [this, List.map_append, List.flatten_append]
   simpa using d11
  ·rcases cm y hy with q | q
   ·exact hF9 y q
   ·have := (g9.trans g10).size; omega
 have hc := of_decide_eq_false hc
 obtain rfl : k = 8 := by omega
 rw [List.take_of_length_le (by omega)] at d9
 refine WC.seqO ?_
 refine WO.call rfl rfl (bstr_ans S h9 g9.wf F d _ d9 (flat4_byt _) (by rw [flat4_len]; omega)) ?_
 rintro v h11 ⟨rfl, d11, c11⟩
 refine omv rfl ?_
 exact WO.nil (WC.ret ⟨trivial, Chg.newGrow g9 c11 hw hF9, rfl⟩)
theorem of_ans (ho : ∀ args h, C.S 97 args h = none) (h : Heap) (hw : Wf h) (hr : Ro h) (s : List Nat) (hs : s.length ≤ 1000000) : Ans C 97 [.str s] h fun v h' => v = .str (ofF s) ∧ Grow h h' := by
 have hF : C.F 97 = some a97 := S.f rfl
 unfold a97 at hF
 refine Ans.val (fun _ _ => ho _ _) hF rfl rfl hw fun h2 g => ?_
 clear hF
 refine WC.seqO ?_
 refine omv rfl ?_
 refine WO.nil (WC.seqO ?_)
 refine WO.call rfl rfl (snew_ans S h2 g.wf) ?_
 rintro v h3 ⟨b, rfl, hb, a3, g3⟩
 have hs2 := g.size
 have g3 := g.trans g3
 refine omv rfl ?_
 refine WO.nil (WC.seqO ?_)
 refine omv rfl <| omv rfl ?_
 refine WO.call rfl rfl (swrite_ans S h3 g3.wf (hr.grow g3) b begN [] s 0 a3 begN_words (by simp; omega) (by omega)) ?_
 rintro v h4 ⟨a4, c4⟩
 have g4 := Chg.newGrow g3 c4 hw (by simp; omega)
 rw [List.nil_append, Nat.zero_add] at a4
 refine WO.nil (WC.seqO ?_)
 refine omv rfl ?_
 refine WO.call rfl rfl (ssum_ans S h4 g4.wf (hr.grow g4) b _ _ _ a4 (absF_words _ begN_words) (by rw [absF_rest, List.length_drop]; omega) (by omega)) ?_
 rintro v h5 ⟨rfl, g5⟩
 refine omv rfl ?_
 exact WO.nil (WC.ret ⟨trivial, g4.trans g5, rfl⟩)
end
end Abs
end Go.Proofs.YtdebiolekbldiaaGreatDoor
namespace Go.Proofs.YtdebiolekbldiaaGreatDoor
namespace Abs
set_option linter.unusedVariables false
set_option linter.unusedSimpArgs false
open Go.RowKit
attribute [local irreducible] WO WC WD StepK Ans Does Runs DoesD
noncomputable def sumO (f : Nat) (args : List V) (h : Heap) : Option (Option (V × Heap)) :=
 if f = 97 then match args with
  | [.str s] => if Nat.ble s.length 1000000 = true ∧ rootsOk h = true then some (some (.str (ofF s), h)) else some none
  | _ => some none
 else sumB f args h
noncomputable def cfg2 : Cfg := { F := tab, S := sumO }
structure StdO (C : Cfg) : Prop extends StdL C where
 of : ∀ (h : Heap) (s : List Nat), s.length ≤ 1000000 → Ro h → C.S 97 [.str s] h = some (some (.str (ofF s), h))
end Abs
end Go.Proofs.YtdebiolekbldiaaGreatDoor
namespace Go.Proofs.YtdebiolekbldiaaGreatDoor
namespace Abs
set_option linter.unusedVariables false
set_option linter.unusedSimpArgs false
open Go.RowKit
attribute [local irreducible] WO WC WD StepK Ans Does Runs DoesD
structure Ent where
 key : List Nat
 sum : List Nat
 len : Int
 loc : Int
def Ent.v (e : Ent) : List V := [.str e.key, .str e.sum, iv e.len, iv e.loc]
def Ents (h : Heap) (x : V) (es : List Ent) : Prop := Sl h 4 x (es.map Ent.v)
def Ent.enc (e : Ent) : List Nat := textF e.key 1 ++ e.sum ++ putF e.len 2 ++ putF e.loc 2
theorem Ents.grow {h h' : Heap} {x : V} {es : List Ent} (s : Ents h x es) (g : Grow h h') : Ents h' x es := Sl.grow s g
theorem Ents.at {h : Heap} {x : V} {es : List Ent} (s : Ents h x es) {i : Nat} (hi : i < es.length) : ∃ b o, idxSlA 4 x (iv i) = some (.ptr (some (b, o))) ∧ h.rds b o 4 = some es[i].v ∧ h.rd b (o + 0) = some (.str es[i].key) ∧ h.rd b (o + 1) = some (.str es[i].sum) ∧ h.rd b (o + 2) = some (iv es[i].len) ∧ h.rd b (o + 3) = some (iv es[i].loc) := by
 obtain ⟨b, o, q1, q2⟩ := Sl.at s (i := i) (by simpa using hi)
 rw [List.getElem_map] at q2
 exact ⟨b, o, q1, q2, rds_rd q2 (j := 0) rfl, rds_rd q2 (j := 1) rfl, rds_rd q2 (j := 2) rfl, rds_rd q2 (j := 3) rfl⟩
theorem putF_len {n w : Int} (h0 : 0 ≤ n) (h : n ≤ mostF w) : (putF n w).length = w.toNat := by
 unfold putF; rw [if_neg (by omega), leB_len]
section
variable {C : Cfg} (S : StdO C)
include S
end
end Abs
end Go.Proofs.YtdebiolekbldiaaGreatDoor
namespace Go.Proofs.YtdebiolekbldiaaGreatDoor
namespace Abs
set_option linter.unusedVariables false
set_option linter.unusedSimpArgs false
open Go.RowKit
attribute [local irreducible] WO WC WD StepK Ans Does Runs DoesD
structure Dec where
 seq : Int
 es : List Ent
 code : Int
section
variable {C : Cfg} (S : StdO C)
include S
end
end Abs
end Go.Proofs.YtdebiolekbldiaaGreatDoor
namespace Go.Proofs.YtdebiolekbldiaaGreatDoor
namespace Abs
set_option linter.unusedVariables false
set_option linter.unusedSimpArgs false
theorem takeF_app (a r : List Nat) {n : Int} (hn : n = a.length) : takeF (a ++ r) 0 n 0 = (a, r, 0) := by
 subst hn
 unfold takeF
 simp only [ne_eq, not_true_eq_false, if_false]
 rw [if_neg (by simp; omega)]
 simp
theorem bytesF_app (a r : List Nat) {n : Int} (hn : n = a.length) : bytesF (a ++ r) 0 n = (a, r, 0) := by
 unfold bytesF
 rw [if_neg (by omega)]
 exact takeF_app a r hn
theorem leV_app (a b : List Nat) : leV (a ++ b) = leV a + 256 ^ a.length * leV b := by
 induction a with
 | nil => simp [leV]
 | cons x a ih =>
  simp only [List.cons_append, leV, ih, List.length_cons, Nat.pow_succ, Nat.mul_add]
  rw [Nat.mul_comm (256 ^ a.length) 256, Nat.mul_assoc]; omega
theorem leV_leB : ∀ (w n : Nat), leV (leB w n) = n % 256 ^ w
 | 0, n => by simp [leB, leV, Nat.mod_one]
 | w + 1, n => by
  rw [leB, leV_app, leV_leB w n, leB_len]
  simp only [leV, Nat.mul_zero, Nat.add_zero]
  rw [Nat.pow_succ, Nat.mod_mul]
theorem numberF_app {n w : Int} (h0 : 0 ≤ n) (h1 : n ≤ mostF w) (r : List Nat) : numberF (putF n w ++ r) 0 w = (n.toNat, r, 0) := by
 have hp := most_pos (n := n) (w := w) (by omega) (by omega)
 have hm : ¬ mostF w < 0 := by omega
 have hput : putF n w = leB w.toNat n.toNat := by unfold putF; rw [if_neg (by omega)]
 unfold numberF
 rw [if_neg hm, takeF_app _ _ (by rw [hput, leB_len]; omega), hput]
 simp only [leV_leB]
 congr 1
 refine Nat.mod_eq_of_lt ?_
 rw [← pow256]
 have : (n.toNat : Int) < (2 ^ (8 * w.toNat) : Int) := by omega
 exact_mod_cast this
end Abs
end Go.Proofs.YtdebiolekbldiaaGreatDoor
