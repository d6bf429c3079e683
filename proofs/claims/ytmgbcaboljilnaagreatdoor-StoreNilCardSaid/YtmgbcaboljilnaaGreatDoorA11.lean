/- The abstract machine's makes, conversions and maps are the model's. -/
import Derived.Test.YtmgbcaboljilnaaGreatDoorA10
import Derived.MapKept
namespace Go.Proofs.YtmgbcaboljilnaaGreatDoor
namespace Abs
set_option linter.unusedVariables false
set_option linter.unusedSimpArgs false
open Go.RowKit

section
variable {P : Program} {B : Nat} {w0 w : World} {ρ : Rho} {h : Heap}

/-- An abstract block is given a place: the new one of a world that has one block more. -/
theorem Rel.lay' (r : Rel P B w0 ρ h w) {b : Nat} {o : Obj} (hb : ρ b = none) (hlt : b < h.size) (hg : h.get b = some o) (ob : Go.Obj) (lim : Nat) {w' : World}
    (hsz : w'.heap.size = w.heap.size + 1) (hold : ∀ k, k < w.heap.size → w'.heap[k]? = w.heap[k]?) (hnew : w'.heap[w.heap.size]? = some ob) (hbel : Below w.heap.size w w')
    (hrel : ORel P B (Rho.with_ ρ b ⟨w.heap.size, 0, lim⟩) w' ⟨w.heap.size, 0, lim⟩ o) : Rel P B w0 (Rho.with_ ρ b ⟨w.heap.size, 0, lim⟩) h w' := by
  have e1 : ∀ k : Nat, w'.heap[k]? = (w.alloc ob).heap[k]? := by
    intro k
    show _ = (w.heap.push ob)[k]?
    rw [Array.getElem?_push]
    by_cases hk : k = w.heap.size
    · rw [if_pos hk, hk]; exact hnew
    · rw [if_neg hk]
      by_cases hlt : k < w.heap.size
      · exact hold k hlt
      · rw [Array.getElem?_eq_none (by omega), Array.getElem?_eq_none (by omega)]
  have r1 := r.lay hb hlt hg ob lim (hrel.heap (e1 _).symm)
  exact ⟨r1.dom, fun x e hx => let ⟨o', q1, q2⟩ := r1.obj x e hx; ⟨o', q1, q2.heap (e1 _)⟩, r1.sep,
    fun x e o' h1 h2 h3 => by have := r1.live x e o' h1 h2 h3; simp at this; omega, r1.fresh,
    r.below.trans ⟨hbel.os, hbel.tape, hbel.output, hbel.size, fun k hk => hbel.block k (Nat.lt_of_lt_of_le hk r.base)⟩, by have := r.base; omega, r1.glob⟩

theorem makeSl_sound (r : Rel P B w0 ρ h w) {t e : TypeId} {sz bytes : Nat} {zs : List V} (ht : P.underlying t = some (.slice e)) (hs : sizeC P e = some sz) (hb : bytesC P e = some bytes) (hz : zeroC P e = some zs) (hzl : zs.length = sz)
    {l c v : V} {h' : Heap} (hv : makeSlA h sz bytes zs l c = some (v, h')) {ul uc : Value} (hl : VR ρ l ul) (hc : VR ρ c uc) :
    ∃ n m : Nat, v = .slice (some (h.size, 0)) n m ∧ h' = h.push (.cells (reps m zs) (.tip [] 0 none)) ∧ n ≤ m ∧
      ∃ (C : Array Value), (Instr.makeSlice t ul uc).run P w = .ok (.slice (some ⟨w.heap.size, 0, none⟩) n m) (w.alloc (.cells C e)) ∧ VRs ρ (reps m zs) C.toList := by
  cases l with
  | int kl l =>
    cases c with
    | int kc c =>
      cases hl
      cases hc
      unfold makeSlA at hv
      simp only at hv
      by_cases hk : 0 ≤ l ∧ l ≤ c ∧ c ≤ 1099511627776 ∧ c * bytes ≤ 140737488355328
      · rw [if_pos hk] at hv
        cases hv
        obtain ⟨z, hzv, hzr⟩ := zeroC_val hz
        obtain ⟨i, hi, rfl, rfl⟩ := info_of hs hb
        have hiz : i.zero = some z := by unfold zeroVal at hzv; rw [hi] at hzv; simpa using hzv
        have hzs : z.cells.size = i.size := by
          have := (hzr ρ).length
          simp only [Array.length_toList] at this
          omega
        refine ⟨l.toNat, c.toNat, rfl, rfl, by omega, madeCells z.cells (c.toNat * i.size), ?_, ?_⟩
        · exact run_make w t e i z ht hi hiz kl kc l c hk.1 hk.2.1 (by rw [Int.mul_comm]; omega) (by omega)
        · have : (madeCells z.cells (c.toNat * i.size)).toList = (List.replicate c.toNat z.cells.toList).flatten := by
            rw [← zeroCells_toList, ← hzs]; rfl
          rw [this]
          exact reps_sound (hzr ρ) _
      · rw [if_neg hk] at hv; cases hv
    | _ => simp [makeSlA] at hv
  | _ => simp [makeSlA] at hv

theorem bytesV_sound (s : ByteArray) : VRs ρ (bytesV (strOf s)) (s.data.map fun b => Value.int .u8 b.toNat).toList := by
  simp only [bytesV, strOf, List.map_map, Array.toList_map]
  generalize s.data.toList = l
  induction l with
  | nil => exact .nil
  | cons x l ih => exact .cons _ _ _ _ (.int _ _) ih

theorem toBytes_sound (r : Rel P B w0 ρ h w) {src dst e : TypeId} {b : Nat} (hs : P.underlying src = some .string) (hd : P.underlying dst = some (.slice e)) (he : P.underlying e = some (.int .u8)) {s : List Nat} {us : Value} (hx : VR ρ (.str s) us)
    (hb : ρ b = none) (hlt : b < h.size) (hg : h.get b = some (.cells (bytesV s) (.tip [] 0 none))) :
    ∃ (u : Value) (w' : World) (em : Emb), (convert src dst us).run P w = .ok u w' ∧ VR (Rho.with_ ρ b em) (.oslice b 0 s.length s.length 0) u ∧ Rel P B w0 (Rho.with_ ρ b em) h w' := by
  cases hx with
  | str sb _ hs' =>
  subst hs'
  have hrun := Lib.run_convert_string_bytes w src dst e sb hs hd he
  have hle : RLe ρ (Rho.with_ ρ b ⟨w.heap.size, 0, (Lib.bytesCells w e sb).size⟩) := with_le hb
  have hlen : (strOf sb).length = sb.size := by simp [strOf]
  have hcap : sb.size ≤ grownCap w sb.size 0 e := grownCap_ge _ _ _ _
  refine ⟨_, _, ⟨w.heap.size, 0, (Lib.bytesCells w e sb).size⟩, hrun, ?_, ?_⟩
  · rw [hlen]
    exact .oslice _ _ _ _ _ _ _ _ with_same (fun _ => ⟨by simp [at_], .inl rfl⟩) (Nat.le_refl _) hcap
  · refine r.lay' hb hlt hg _ _ (Lib.bytesWorld_size w e sb) (fun k hk => Lib.bytesWorld_at_old w e sb k hk) (Lib.bytesWorld_at_new w e sb)
      ⟨?_, ?_, ?_, by rw [Lib.bytesWorld_size]; omega, fun k hk => Lib.bytesWorld_at_old w e sb k hk⟩ ⟨r.base, ?_, ⟨⟨_, _, _, Lib.bytesWorld_at_new w e sb, rfl, .inr (.inr ⟨rfl, by simp only [Lib.bytesCells]; simp⟩), fun t ht => by cases ht⟩, ?_⟩⟩
    · unfold Lib.bytesWorld World.freeze; split <;> rfl
    · unfold Lib.bytesWorld World.freeze; split <;> rfl
    · unfold Lib.bytesWorld World.freeze; split <;> rfl
    · intro i v hi
      obtain ⟨u, q1, q2⟩ := (bytesV_sound (ρ := ρ) sb).get i v hi
      refine ⟨u, ?_, q2.mono hle⟩
      have hin : i < sb.size := by
        have := (List.getElem?_eq_some_iff.1 hi).1
        simpa [bytesV, strOf] using this
      unfold World.cell?
      have : (Lib.bytesWorld w e sb).heap[(at_ ⟨w.heap.size, 0, (Lib.bytesCells w e sb).size⟩ i).block]? = _ := Lib.bytesWorld_at_new w e sb
      rw [this]
      show (Lib.bytesCells w e sb)[0 + i]? = some u
      rw [Nat.zero_add]
      unfold Lib.bytesCells
      rw [Array.getElem?_append_left (by simpa using hin)]
      simpa using q1
    · simp only [bytesV, List.length_map, hlen, Nat.zero_add]
      unfold Lib.bytesCells
      simp

theorem u8s_sound : ∀ {cs : List V} {l : List Nat}, u8s cs = some l → ∀ {us : List Value}, VRs ρ cs us → ∃ ns : List Int, us = ns.map (Value.int .u8) ∧ l = ns.map fun n => n.toNat % 256
  | [], l, h, us, hv => by cases h; cases hv; exact ⟨[], rfl, rfl⟩
  | .int .u8 n :: r, l, h, us, hv => by
    unfold u8s at h
    split at h
    · rename_i l' hl'
      cases h
      cases hv with
      | cons _ u _ us hu ht =>
      cases hu
      obtain ⟨ns, q1, q2⟩ := u8s_sound hl' ht
      exact ⟨n :: ns, by rw [q1]; rfl, by rw [q2]; rfl⟩
    · cases h
  | .int .i8 _ :: _, _, h, _, _ | .int .i16 _ :: _, _, h, _, _ | .int .i32 _ :: _, _, h, _, _ | .int .i64 _ :: _, _, h, _, _ | .int .u16 _ :: _, _, h, _, _ | .int .u32 _ :: _, _, h, _, _ | .int .u64 _ :: _, _, h, _, _
  | .bool _ :: _, _, h, _, _ | .str _ :: _, _, h, _, _ | .ptr _ :: _, _, h, _, _ | .slice .. :: _, _, h, _, _ | .oslice .. :: _, _, h, _, _ | .map _ :: _, _, h, _, _ | .func .. :: _, _, h, _, _ | .nilFunc :: _, _, h, _, _ | .iface .. :: _, _, h, _, _ | .nilIface :: _, _, h, _, _
  | .agg _ :: _, _, h, _, _ | .tuple _ :: _, _, h, _, _ => by simp [u8s] at h

theorem push_strOf : ∀ (ns : List Int) (s : ByteArray), strOf (ns.foldl (fun r n => r.push (UInt8.ofNat n.toNat)) s) = strOf s ++ ns.map fun n => n.toNat % 256
  | [], s => by simp
  | n :: ns, s => by
    rw [List.foldl_cons, push_strOf ns]
    simp [strOf, ByteArray.push]

theorem toStr_sound (r : Rel P B w0 ρ h w) {src dst e : TypeId} (hs : P.underlying src = some (.slice e)) (he : P.underlying e = some (.int .u8)) (hd : P.underlying dst = some .string) {x v : V} (hv : toStrA h x = some v) {ux : Value} (hx : VR ρ x ux) :
    ∃ u, (convert src dst ux).run P w = .ok u w ∧ VR ρ v u := by
  unfold toStrA at hv
  split at hv
  · rename_i n hn
    split at hv
    · rename_i cs hc
      split at hv
      · rename_i l hl
        cases hv
        obtain ⟨us, q1, q2⟩ := slCells_sound (P := P) r hc hx ⟨n, hn, Nat.le_refl _⟩
        obtain ⟨ns, g1, g2⟩ := u8s_sound hl q1
        obtain ⟨A, c, rfl⟩ := slLen_of hn hx
        rw [run_convert_bytes_string w src dst e A n c hs he hd]
        cases A with
        | none =>
          refine ⟨.string .empty, rfl, .str _ _ ?_⟩
          have : us = [] := by
            simp only [Builtin.firstCells, Sem.run_pure, Result.ok.injEq, and_true] at q2
            have := congrArg Array.toList q2
            simpa using this.symm
          subst this
          have : ns = [] := List.map_eq_nil_iff.1 g1.symm
          subst this
          rw [g2]; rfl
        | some a =>
          simp only [Builtin.firstCells, Nat.mul_one] at q2
          rw [g1] at q2
          rw [run_bytesToString w a n c ns q2]
          refine ⟨_, rfl, .str _ _ ?_⟩
          rw [push_strOf, g2]
          rfl
      · cases hv
    · cases hv
  · cases hv

/-! ### Maps -/
def FKfits (k : FK) (d : TypeDesc) : Prop :=
  match k with
  | .int => ∃ i, d = .int i
  | .str => d = .string
  | .bool => d = .bool
  | _ => False
theorem keyC_of {t : TypeId} {kk : FK} (hk : keyC P t = some kk) : ∃ d, P.underlying t = some d ∧ FKfits kk d := by
  unfold keyC at hk
  split at hk
  · rename_i i hu; cases hk; exact ⟨_, hu, ⟨i, rfl⟩⟩
  · rename_i hu; cases hk; exact ⟨_, hu, rfl⟩
  · rename_i hu; cases hk; exact ⟨_, hu, rfl⟩
  · cases hk

theorem same_sound {kk : FK} {d : TypeDesc} (hd : FKfits kk d) {x y : V} (hs : sameKind kk x y = true) {ux uy : Value} (hx : VR ρ x ux) (hy : VR ρ y uy) : Instr.sameNow d ux uy = some (V.beq x y) := by
  unfold sameKind at hs
  split at hs
  · obtain ⟨i, rfl⟩ := hd
    cases hx; cases hy
    have hk := of_decide_eq_true hs
    subst hk
    simp [Instr.sameNow, V.beq]
  · cases hd
    cases hx with
    | str s _ hs1 =>
    cases hy with
    | str s' _ hs2 =>
    subst hs1 hs2
    simp only [Instr.sameNow, V.beq]
    rw [beq_toListBytes, strEq]
  · cases hd
    cases hx; cases hy
    simp [Instr.sameNow, V.beq]
  · cases hs

theorem find_sound {kk : FK} {d : TypeDesc} (hd : FKfits kk d) {k : V} {uk : Value} (hk : VR ρ k uk) : ∀ {es : List (V × V)} {ces : List MapEntry} (hm : MR ρ es ces) (hok : (es.all fun e => sameKind kk k e.1) = true) (n : Nat),
    (findM k es = none ∧ Instr.findNow d uk ces n = some none ∧ (∀ v, updM k v es = es ++ [(k, v)]) ∧ delM k es = es ∧ ∀ bs, delB k es bs = bs) ∨
    (∃ i m a v, Instr.findNow d uk ces n = some (some (n + i, m.val)) ∧ ces[i]? = some m ∧ es[i]? = some (a, v) ∧ V.beq k a = true ∧ findM k es = some v ∧ VR ρ v m.val ∧ (∀ v', updM k v' es = es.set i (k, v')) ∧ delM k es = es.eraseIdx i ∧ ∀ bs, delB k es bs = bs.eraseIdx i ∧ bornM k es bs = bs[i]?)
  | [], [], hm, hok, n => .inl ⟨rfl, rfl, fun _ => rfl, rfl, fun bs => by simp [delB]⟩
  | (a, v) :: es, m :: ces, hm, hok, n => by
    obtain ⟨h1, h2, h3⟩ := hm
    simp only [List.all_cons, Bool.and_eq_true] at hok
    have hs := same_sound hd hok.1 hk h1
    cases hb : V.beq k a with
    | true =>
      rw [hb] at hs
      refine .inr ⟨0, m, a, v, ?_, rfl, rfl, hb, ?_, h2, fun v' => ?_, ?_, fun bs => ?_⟩
      · simp [Instr.findNow, hs]
      · simp [findM, hb]
      · simp [updM, hb]
      · simp [delM, hb]
      · cases bs <;> simp [delB, bornM, hb]
    | false =>
      rw [hb] at hs
      rcases find_sound hd hk h3 hok.2 (n + 1) with ⟨q1, q2, q3, q4, q9⟩ | ⟨i, m', a', v', q1, q2, q3, q4, q5, q6, q7, q8, q9⟩
      · refine .inl ⟨by simp [findM, hb, q1], by simp [Instr.findNow, hs, q2], fun v' => by simp [updM, hb, q3], by simp [delM, hb, q4], fun bs => by cases bs <;> simp [delB, hb, q9]⟩
      · refine .inr ⟨i + 1, m', a', v', ?_, by simpa using q2, by simpa using q3, q4, by simp [findM, hb, q5], q6, fun v'' => by simp [updM, hb, q7], by simp [delM, hb, q8], fun bs => by cases bs <;> simp [delB, bornM, hb, q9]⟩
        rw [show n + (i + 1) = n + 1 + i by omega]
        simp [Instr.findNow, hs, q1]
  | [], _ :: _, hm, _, _ => hm.elim
  | _ :: _, [], hm, _, _ => hm.elim

theorem check_key {kk : FK} {kt : TypeId} {d : TypeDesc} (hu : P.underlying kt = some d) (hd : FKfits kk d) (em : Bool) (n : Nat) (k : Value) : (Instr.checkKey em (n + 1) kt k).run P w = .ok () w := by
  unfold FKfits at hd
  split at hd
  · obtain ⟨i, rfl⟩ := hd
    simp only [Instr.checkKey, Sem.run_bind, run_und hu, Result.andThen_ok, Sem.run_pure]
  · subst hd
    simp only [Instr.checkKey, Sem.run_bind, run_und hu, Result.andThen_ok, Sem.run_pure]
  · subst hd
    simp only [Instr.checkKey, Sem.run_bind, run_und hu, Result.andThen_ok, Sem.run_pure]
  · exact hd.elim

theorem map_of (r : Rel P B w0 ρ h w) {b : Nat} {e : Emb} {es : List (V × V)} {bs : List Nat} {cl : Nat} (hb : ρ b = some e) (hg : h.get b = some (.map es bs cl)) : ∃ ces, w.heap[e.blk]? = some (.map ces cl) ∧ MR ρ es ces.toList ∧ bs = ces.toList.map MapEntry.born := by
  obtain ⟨o, h1, h2⟩ := r.obj b e hb
  rw [hg] at h1
  cases h1
  exact h2.2

theorem run_getObj {b : Nat} {ces : Array MapEntry} {clock : Nat} (hh : w.heap[b]? = some (.map ces clock)) : (getObj b).run P w = .ok (.map ces clock) w := by
  simp only [getObj, Sem.run, hh]
theorem run_setObj {b : Nat} {ces : Array MapEntry} {clock : Nat} (hh : w.heap[b]? = some (.map ces clock)) (o : Go.Obj) : (setObj b o).run P w = .ok () { w with heap := w.heap.setIfInBounds b o } := by
  simp only [setObj, Sem.run, hh]

theorem lookup_sound (r : Rel P B w0 ρ h w) {t kt et : TypeId} {kk : FK} {z : Value} {zv : V} {ok : Bool} (ht : P.underlying t = some (.map kt et)) (hk : keyC P kt = some kk) (hz : zeroVal P et = some z) (hzv : ofV z = some zv)
    {m k v : V} (hv : lookupA h kk zv ok m k = some v) {um uk : Value} (hm : VR ρ m um) (hkr : VR ρ k uk) : ∃ u, (Instr.lookup t um uk ok).run P w = .ok u w ∧ VR ρ v u := by
  obtain ⟨d, hu, hd⟩ := keyC_of hk
  have fin : ∀ (es : List (V × V)) (ces : List MapEntry), MR ρ es ces → keysOk kk k es = true →
      ((Instr.findKey kt uk ces).run P w = .ok none w ∧ findM k es = none) ∨ (∃ i u v, (Instr.findKey kt uk ces).run P w = .ok (some (i, u)) w ∧ findM k es = some v ∧ VR ρ v u) := by
    intro es ces hmr hok
    unfold keysOk at hok
    simp only [Bool.and_eq_true] at hok
    rcases find_sound hd hkr hmr hok.2 0 with ⟨q1, q2, _, _, _⟩ | ⟨i, m', a', v', q1, q2, q3, q4, q5, q6, _, _, _⟩
    · exact .inl ⟨by simp only [Instr.findKey, Sem.run_bind, run_und hu, Result.andThen_ok, q2, Sem.run_pure], q1⟩
    · exact .inr ⟨0 + i, _, _, by simp only [Instr.findKey, Sem.run_bind, run_und hu, Result.andThen_ok, q1, Sem.run_pure], q5, q6⟩
  have out : ∀ (v : V) (u : Value) (b : Bool), VR ρ v u → VR ρ (if ok = true then V.tuple [v, .bool b] else v) (if ok = true then Value.tuple #[u, .bool b] else u) := by
    intro v u b hvu
    cases ok
    · exact hvu
    · exact .tuple _ _ (.cons _ _ _ _ hvu (.cons _ _ _ _ (.bool _) .nil))
  unfold lookupA at hv
  split at hv
  · rename_i es hes
    split at hv
    · rename_i hok
      cases hv
      unfold mapOf at hes
      split at hes
      · cases hes
        cases hm
        rcases fin [] [] trivial hok with ⟨q1, q2⟩ | ⟨i, u, v, q1, q2, q3⟩
        · refine ⟨_, ?_, by rw [q2]; exact out _ _ _ (ofV_sound ρ hzv)⟩
          simp only [Instr.lookup, Sem.run_bind, run_und ht, Result.andThen_ok, Sem.run_pure, check_key hu hd, q1, run_zero hz]
          rfl
        · cases q2
      · rename_i b
        split at hes
        · rename_i es' bs cl hg
          cases hes
          cases hm with
          | map _ e rr he hr =>
          subst hr
          obtain ⟨ces, g1, g2, _⟩ := map_of r he hg
          rcases fin es ces.toList g2 hok with ⟨q1, q2⟩ | ⟨i, u, v, q1, q2, q3⟩
          · refine ⟨_, ?_, by rw [q2]; exact out _ _ _ (ofV_sound ρ hzv)⟩
            simp only [Instr.lookup, Sem.run_bind, run_und ht, Result.andThen_ok, run_getObj g1, Sem.run_pure, check_key hu hd, q1, run_zero hz]
            rfl
          · refine ⟨_, ?_, by rw [q2]; exact out _ _ _ q3⟩
            simp only [Instr.lookup, Sem.run_bind, run_und ht, Result.andThen_ok, run_getObj g1, Sem.run_pure, check_key hu hd, q1]
            rfl
        · cases hes
      · cases hes
    · cases hv
  · cases hv

theorem MR.append : ∀ {x : List (V × V)} {y : List MapEntry} {k v : V} {m : MapEntry}, MR ρ x y → VR ρ k m.key → VR ρ v m.val → MR ρ (x ++ [(k, v)]) (y ++ [m])
  | [], [], _, _, _, _, h1, h2 => ⟨h1, h2, trivial⟩
  | (a, b) :: x, n :: y, _, _, _, h, h1, h2 => ⟨h.1, h.2.1, MR.append h.2.2 h1 h2⟩
  | [], _ :: _, _, _, _, h, _, _ => h.elim
  | _ :: _, [], _, _, _, h, _, _ => h.elim
theorem MR.set : ∀ {x : List (V × V)} {y : List MapEntry} {k v : V} {m : MapEntry} (i : Nat), MR ρ x y → VR ρ k m.key → VR ρ v m.val → MR ρ (x.set i (k, v)) (y.set i m)
  | [], [], _, _, _, _, _, _, _ => trivial
  | (a, b) :: x, n :: y, _, _, _, 0, h, h1, h2 => ⟨h1, h2, h.2.2⟩
  | (a, b) :: x, n :: y, _, _, _, i + 1, h, h1, h2 => ⟨h.1, h.2.1, MR.set i h.2.2 h1 h2⟩
  | [], _ :: _, _, _, _, _, h, _, _ => h.elim
  | _ :: _, [], _, _, _, _, h, _, _ => h.elim
theorem MR.erase : ∀ {x : List (V × V)} {y : List MapEntry} (i : Nat), MR ρ x y → MR ρ (x.eraseIdx i) (y.eraseIdx i)
  | [], [], _, _ => trivial
  | (a, b) :: x, n :: y, 0, h => h.2.2
  | (a, b) :: x, n :: y, i + 1, h => ⟨h.1, h.2.1, MR.erase i h.2.2⟩
  | [], _ :: _, _, h => h.elim
  | _ :: _, [], _, h => h.elim
theorem MR.length : ∀ {x : List (V × V)} {y : List MapEntry}, MR ρ x y → x.length = y.length
  | [], [], _ => rfl
  | (a, b) :: x, n :: y, h => by simp [MR.length h.2.2]
  | [], _ :: _, h => h.elim
  | _ :: _, [], h => h.elim
theorem MR.key : ∀ {x : List (V × V)} {y : List MapEntry} {i : Nat} {a v : V} {m : MapEntry}, MR ρ x y → x[i]? = some (a, v) → y[i]? = some m → VR ρ a m.key
  | (a, b) :: x, n :: y, 0, _, _, _, h, h1, h2 => by simp at h1 h2; obtain ⟨rfl, rfl⟩ := h1; subst h2; exact h.1
  | (a, b) :: x, n :: y, i + 1, _, _, _, h, h1, h2 => by simp at h1 h2; exact MR.key h.2.2 h1 h2
  | [], [], _, _, _, _, _, h1, _ => by simp at h1
  | [], _ :: _, _, _, _, _, h, _, _ => h.elim
  | _ :: _, [], _, _, _, _, h, _, _ => h.elim

theorem keeps_sound {kk : FK} {x y : V} (hs : sameKind kk x y = true) (hb : V.beq x y = true) {ux uy : Value} (hx : VR ρ x ux) (hy : VR ρ y uy) : (Instr.keyThatStays uy ux).run P w = .ok ux w := by
  have := V.beq_eq x y hb
  subst this
  have hsb : Instr.sameBits 10000 uy ux = true := by
    unfold sameKind at hs
    split at hs
    · cases hx; cases hy; simp [Instr.sameBits]
    · cases hx with
      | str s _ h1 =>
      cases hy with
      | str s' _ h2 =>
      simp only [Instr.sameBits]
      rw [beq_toListBytes, strEq, ← h1, ← h2, beqL_refl]
    · cases hx; cases hy; simp [Instr.sameBits]
    · cases hs
  simp only [Instr.keyThatStays, hsb, if_true, Sem.run_pure]

theorem erase_map {α β : Type} (f : α → β) : ∀ (l : List α) (i : Nat), (l.map f).eraseIdx i = (l.eraseIdx i).map f
  | [], _ => rfl
  | a :: l, 0 => rfl
  | a :: l, i + 1 => by simp [erase_map f l i]
theorem born_modify (ces : Array MapEntry) (i : Nat) (uk uv : Value) : (ces.modify i fun e => { e with key := uk, val := uv }).toList.map MapEntry.born = ces.toList.map MapEntry.born := by
  rw [Array.toList_modify]
  generalize ces.toList = l
  induction l generalizing i with
  | nil => simp
  | cons a l ih => cases i <;> simp_all [List.modify_cons]
theorem born_modifyV (ces : Array MapEntry) (i : Nat) (uv : Value) : (ces.modify i fun e => { e with val := uv }).toList.map MapEntry.born = ces.toList.map MapEntry.born := by
  rw [Array.toList_modify]
  generalize ces.toList = l
  induction l generalizing i with
  | nil => simp
  | cons a l ih => cases i <;> simp_all [List.modify_cons]
theorem born_modifyK (ces : Array MapEntry) (i : Nat) (uk : Value) : (ces.modify i fun e => { e with key := uk }).toList.map MapEntry.born = ces.toList.map MapEntry.born := by
  rw [Array.toList_modify]
  generalize ces.toList = l
  induction l generalizing i with
  | nil => simp
  | cons a l ih => cases i <;> simp_all [List.modify_cons]

theorem mapUpd_sound (r : Rel P B w0 ρ h w) {t kt et : TypeId} {kk : FK} (ht : P.underlying t = some (.map kt et)) (hk : keyC P kt = some kk) {m k v : V} {h' : Heap} (hv : mapUpdA h kk m k v = some h') {um uk uv : Value}
    (hm : VR ρ m um) (hkr : VR ρ k uk) (hvr : VR ρ v uv) : ∃ w', (Instr.mapUpdate t um uk uv).run P w = .ok () w' ∧ Rel P B w0 ρ h' w' := by
  obtain ⟨d, hu, hd⟩ := keyC_of hk
  unfold mapUpdA at hv
  split at hv
  · rename_i b
    split at hv
    · rename_i es bs cl hg
      split at hv
      · rename_i hok
        cases hv
        cases hm with
        | map _ e rr he hr =>
        subst hr
        obtain ⟨ces, g1, g2, g3⟩ := map_of r he hg
        unfold keysOk at hok
        simp only [Bool.and_eq_true] at hok
        rcases find_sound hd hkr g2 hok.2 0 with ⟨q1, q2, q3, _⟩ | ⟨i, m', a', v', q1, q2, q3, q4, q5, q6, q7, _⟩
        · rw [q1]
          refine ⟨_, ?_, r.setMap he hg (ces.push { key := uk, val := uv, born := cl }) _ (cl + 1) ?_ ?_⟩
          · simp only [Instr.mapUpdate, Sem.run_bind, run_und ht, Result.andThen_ok, run_getObj g1, check_key hu hd, Instr.findKey, run_und hu, q2, Sem.run_pure, run_setObj g1]
          · rw [q3, Array.toList_push]; exact g2.append hkr hvr
          · rw [g3, Array.toList_push, List.map_append]; rfl
        · rw [q5]
          have hsk : sameKind kk k a' = true := List.all_eq_true.1 hok.2 _ (List.mem_of_getElem? q3)
          have hkey := keeps_sound (P := P) (w := w) hsk q4 hkr (g2.key q3 q2)
          have hget : ces[i]? = some m' := by simpa using q2
          refine ⟨_, ?_, r.setMap he hg (ces.modify i fun e => { e with key := uk, val := uv }) _ cl ?_ (by rw [born_modify]; exact g3)⟩
          · simp only [Instr.mapUpdate, Sem.run_bind, run_und ht, Result.andThen_ok, run_getObj g1, check_key hu hd, Instr.findKey, run_und hu, q1, Sem.run_pure, Nat.zero_add, hget, Option.map_some, Option.getD_some, hkey, run_setObj g1]
          · rw [q7]
            have : (ces.modify i fun e => { e with key := uk, val := uv }).toList = ces.toList.set i { m' with key := uk, val := uv } := by
              rw [Array.toList_modify, List.modify_eq_set, q2]
              rfl
            rw [this]
            exact MR.set i g2 hkr hvr
      · cases hv
    · cases hv
  · cases hv

theorem MR.val : ∀ {x : List (V × V)} {y : List MapEntry} {i : Nat} {a v : V} {m : MapEntry}, MR ρ x y → x[i]? = some (a, v) → y[i]? = some m → VR ρ v m.val
  | (a, b) :: x, n :: y, 0, _, _, _, h, h1, h2 => by simp at h1 h2; obtain ⟨rfl, rfl⟩ := h1; subst h2; exact h.2.1
  | (a, b) :: x, n :: y, i + 1, _, _, _, h, h1, h2 => by simp at h1 h2; exact MR.val h.2.2 h1 h2
  | [], [], _, _, _, _, _, h1, _ => by simp at h1
  | [], _ :: _, _, _, _, _, h, _, _ => h.elim
  | _ :: _, [], _, _, _, _, h, _, _ => h.elim

theorem mapEnt_sound (r : Rel P B w0 ρ h w) {t kt et : TypeId} {kk : FK} {z : Value} {zv : V} (ht : P.underlying t = some (.map kt et)) (hk : keyC P kt = some kk) (hz : zeroVal P et = some z) (hzv : ofV z = some zv) {m k v : V} {h' : Heap} (hv : mapEntA h kk zv m k = some (v, h')) {um uk : Value}
    (hm : VR ρ m um) (hkr : VR ρ k uk) : ∃ u w', (Instr.mapEntry t um uk).run P w = .ok u w' ∧ VR ρ v u ∧ Rel P B w0 ρ h' w' := by
  obtain ⟨d, hu, hd⟩ := keyC_of hk
  unfold mapEntA at hv
  split at hv
  · rename_i b
    split at hv
    · rename_i es bs cl hg
      split at hv
      · rename_i hok
        cases hm with
        | map _ e rr he hr =>
        subst hr
        obtain ⟨ces, g1, g2, g3⟩ := map_of r he hg
        unfold keysOk at hok
        simp only [Bool.and_eq_true] at hok
        rcases find_sound hd hkr g2 hok.2 0 with ⟨q1, q2, q3, _⟩ | ⟨i, m', a', v', q1, q2, q3, q4, q5, q6, q7, _, q8⟩
        · rw [q1] at hv
          simp only [Option.some.injEq, Prod.mk.injEq] at hv
          obtain ⟨rfl, rfl⟩ := hv
          refine ⟨_, _, ?_, .tuple _ _ (.cons _ _ _ _ (ofV_sound ρ hzv) (.cons _ _ _ _ (.int _ _) .nil)), r.setMap he hg (ces.push { key := uk, val := z, born := cl }) _ (cl + 1) ?_ ?_⟩
          · simp only [Instr.mapEntry, Sem.run_bind, run_und ht, Result.andThen_ok, run_getObj g1, check_key hu hd, Instr.findKey, run_und hu, q2, Sem.run_pure, run_zero hz, run_setObj g1, goInt]
          · rw [q3, Array.toList_push]; exact g2.append hkr (ofV_sound ρ hzv)
          · rw [g3, Array.toList_push, List.map_append]; rfl
        · have hget : ces[i]? = some m' := by simpa using q2
          have hbn : bornM k es bs = some m'.born := by
            rw [(q8 bs).2, g3, List.getElem?_map, q2]; rfl
          rw [q5, hbn] at hv
          simp only [Option.some.injEq, Prod.mk.injEq] at hv
          obtain ⟨rfl, rfl⟩ := hv
          have hsk : sameKind kk k a' = true := List.all_eq_true.1 hok.2 _ (List.mem_of_getElem? q3)
          have hkey := keeps_sound (P := P) (w := w) hsk q4 hkr (g2.key q3 q2)
          refine ⟨_, _, ?_, .tuple _ _ (.cons _ _ _ _ q6 (.cons _ _ _ _ (.int _ _) .nil)), r.setMap he hg (ces.modify i fun e => { e with key := uk }) _ cl ?_ (by rw [born_modifyK]; exact g3)⟩
          · simp only [Instr.mapEntry, Sem.run_bind, run_und ht, Result.andThen_ok, run_getObj g1, check_key hu hd, Instr.findKey, run_und hu, q1, Sem.run_pure, Nat.zero_add, hget, Option.map_some, Option.getD_some, hkey, run_setObj g1, goInt]
          · rw [q7]
            have : (ces.modify i fun e => { e with key := uk }).toList = ces.toList.set i { m' with key := uk } := by
              rw [Array.toList_modify, List.modify_eq_set, q2]
              rfl
            rw [this]
            exact MR.set i g2 hkr q6
      · cases hv
    · cases hv
  · cases hv

theorem setB_sound {n : Nat} {x : V} {ux : Value} (hx : VR ρ x ux) : ∀ {es : List (V × V)} {ces : List MapEntry} {es' : List (V × V)}, MR ρ es ces → setB n x es (ces.map MapEntry.born) = some es' →
    ∃ i m, ces.findIdx? (fun e => (e.born : Int) == (n : Int)) = some i ∧ ces[i]? = some m ∧ MR ρ es' (ces.set i { m with val := ux })
  | [], [], _, _, hs => by simp [setB] at hs
  | (a, v) :: es, m :: ces, es', hm, hs => by
    simp only [List.map_cons, setB] at hs
    by_cases hb : m.born = n
    · rw [if_pos hb] at hs
      cases hs
      exact ⟨0, m, by simp [List.findIdx?_cons, hb], rfl, hm.1, hx, hm.2.2⟩
    · rw [if_neg hb] at hs
      split at hs
      · rename_i l hl
        cases hs
        obtain ⟨i, m', q1, q2, q3⟩ := setB_sound hx hm.2.2 hl
        refine ⟨i + 1, m', ?_, by simpa using q2, hm.1, hm.2.1, q3⟩
        rw [List.findIdx?_cons, q1]
        have : ((m.born : Int) == (n : Int)) = false := by simp; omega
        rw [this]; rfl
      · cases hs
  | [], _ :: _, _, hm, _ => hm.elim
  | _ :: _, [], _, hm, _ => hm.elim

theorem entSt_sound (r : Rel P B w0 ρ h w) {t : TypeId} {m s x : V} {h' : Heap} (hv : entStA h m s x = some h') {um us ux : Value} (hm : VR ρ m um) (hsr : VR ρ s us) (hxr : VR ρ x ux) :
    ∃ w', (Instr.entryStore t um us ux).run P w = .ok () w' ∧ Rel P B w0 ρ h' w' := by
  unfold entStA at hv
  split at hv
  · rename_i b k n
    split at hv
    · rename_i es bs cl hg
      split at hv
      · rename_i hn
        split at hv
        · rename_i es' hes
          cases hv
          cases hm with
          | map _ e rr he hr =>
          subst hr
          cases hsr
          obtain ⟨ces, g1, g2, g3⟩ := map_of r he hg
          rw [g3] at hes
          obtain ⟨i, m', q1, q2, q3⟩ := setB_sound hxr g2 hes
          have hnn : ((n.toNat : Nat) : Int) = n := by omega
          rw [hnn] at q1
          have hf : ces.findIdx? (fun e => (e.born : Int) == n) = some i := by
            obtain ⟨l⟩ := ces
            simpa using q1
          refine ⟨_, ?_, r.setMap he hg (ces.modify i fun e => { e with val := ux }) _ cl ?_ (by rw [born_modifyV]; exact g3)⟩
          · simp only [Instr.entryStore, Sem.run_bind, Result.andThen_ok, run_getObj g1, asInt, asIntOf, Sem.run_pure, hf, run_setObj g1]
          · have : (ces.modify i fun e => { e with val := ux }).toList = ces.toList.set i { m' with val := ux } := by
              rw [Array.toList_modify, List.modify_eq_set, q2]
              rfl
            rw [this]
            exact q3
        · cases hv
      · cases hv
    · cases hv
  · cases hv

theorem mapDel_sound (r : Rel P B w0 ρ h w) {t u kt et ty : TypeId} {kk : FK} (ht : P.underlying t = some (.map kt et)) (hk : keyC P kt = some kk) {m k : V} {h' : Heap} (hv : mapDelA h kk m k = some h') {um uk : Value}
    (hm : VR ρ m um) (hkr : VR ρ k uk) : ∃ w', (Builtin.delete_ #[t, u] ty #[um, uk]).run P w = .ok (.tuple #[]) w' ∧ Rel P B w0 ρ h' w' := by
  obtain ⟨d, hu, hd⟩ := keyC_of hk
  unfold mapDelA at hv
  split at hv
  · cases hv
    cases hm
    refine ⟨w, ?_, r⟩
    simp [Builtin.delete_, run_und ht, check_key hu hd]
  · rename_i b
    split at hv
    · rename_i es bs cl hg
      split at hv
      · rename_i hok
        cases hv
        cases hm with
        | map _ e rr he hr =>
        subst hr
        obtain ⟨ces, g1, g2, g3⟩ := map_of r he hg
        unfold keysOk at hok
        simp only [Bool.and_eq_true] at hok
        rcases find_sound hd hkr g2 hok.2 0 with ⟨q1, q2, _, q3, q8⟩ | ⟨i, m', a', v', q1, q2, q3, q4, q5, q6, _, q7, q8⟩
        · refine ⟨_, ?_, r.setMap he hg ces _ cl (by rw [q3]; exact g2) (by rw [q8]; exact g3)⟩
          simp [Builtin.delete_, run_und ht, run_getObj g1, check_key hu hd, Instr.findKey, run_und hu, q2, run_setObj g1]
        · have : (ces.eraseIdxIfInBounds i).toList = ces.toList.eraseIdx i := by
            rw [Array.toList_eraseIdxIfInBounds]
          refine ⟨_, ?_, r.setMap he hg (ces.eraseIdxIfInBounds i) _ cl ?_ (by rw [(q8 bs).1, this, g3]; exact erase_map _ _ _)⟩
          · simp [Builtin.delete_, run_und ht, run_getObj g1, check_key hu hd, Instr.findKey, run_und hu, q1, run_setObj g1]
          · rw [q7, this]
            exact MR.erase i g2
      · cases hv
    · cases hv
  · cases hv
end
end Abs
end Go.Proofs.YtmgbcaboljilnaaGreatDoor
