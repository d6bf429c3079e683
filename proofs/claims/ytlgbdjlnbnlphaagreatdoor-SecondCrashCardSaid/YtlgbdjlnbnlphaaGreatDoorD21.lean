/- The second level: what a Second has; tell's loop over the sectors of a group. The second level: tell. The second level: Feed's loop over the sectors of a group. The second level: the round of Feed's loop that feeds. The second level: Feed. -/
import Derived.Test.YtlgbdjlnbnlphaaGreatDoorD16
import Derived.Test.YtlgbdjlnbnlphaaGreatDoorA41
import Derived.Test.YtlgbdjlnbnlphaaGreatDoorB14
namespace Go.Proofs.YtlgbdjlnbnlphaaGreatDoor
namespace Abs
set_option linter.unusedVariables false
set_option linter.unusedSimpArgs false
open Go.RowKit
attribute [local irreducible] WO WC WD StepK Ans Does Runs DoesD

/-- A Second: its region, what is kept where, its number, its hand. -/
structure XS where
  f : Nat
  n : Nat
  A : List (Int × Ent)
  seq : Int
  hand : Int
structure XAt (nb : Nat) (h : Heap) (s mb b b0 b1 : Nat) (wv : V) (X : XS) : Prop where
  cs : Cl h s [.ptr (some (b, 0)), iv X.f, iv X.n, .map (some mb), iv X.seq, iv X.hand]
  mp : MapI entV h mb X.A
  ns : nb ≤ s
  nm : nb ≤ mb
  sm : s ≠ mb
  sb : s ∉ [b, b0, b1]
  mbb : mb ∉ [b, b0, b1]
  os : Off wv s
  om : Off wv mb
theorem XAt.grow {nb : Nat} {h h' : Heap} {s mb b b0 b1 : Nat} {wv : V} {X : XS} (x : XAt nb h s mb b b0 b1 wv X) (g : Grow h h') : XAt nb h' s mb b b0 b1 wv X :=
  { x with cs := x.cs.grow g, mp := x.mp.grow g }
theorem XAt.low {nb : Nat} {h : Heap} {s mb b b0 b1 : Nat} {wv : V} {X : XS} (x : XAt nb h s mb b b0 b1 wv X) (n : Nat) : XAt nb { h with low := n } s mb b b0 b1 wv X :=
  { x with cs := x.cs.low n, mp := x.mp }
theorem DFr.chg {h h' : Heap} {F : List Nat} {wv wv' : V} {b : Nat} {cs : List V} (d : DFr h h' F wv wv') (c : Cl h b cs) (hb : b ∉ F) (ho : Off wv b) : Cl h' b cs := c.imp fun _ q => d.keep _ _ q hb ho
theorem DFr.mp {h h' : Heap} {F : List Nat} {wv wv' : V} {b : Nat} {A : List (Int × Ent)} (d : DFr h h' F wv wv') (c : MapI entV h b A) (hb : b ∉ F) (ho : Off wv b) : MapI entV h' b A := by
  obtain ⟨c1, bs, cl, c2, c3⟩ := c
  exact ⟨c1, bs, cl, d.keep _ _ c2 hb ho, c3⟩
theorem DFr.refl {h : Heap} {F : List Nat} {wv : V} : DFr h h F wv wv := ⟨Nat.le_refl _, fun _ _ q _ _ => q, fun _ _ q => q⟩
theorem DFr.trans {h h1 h2 : Heap} {F : List Nat} {wv wv1 wv2 : V} (hw : Wf h) (a : DFr h h1 F wv wv1) (c : DFr h1 h2 F wv1 wv2) : DFr h h2 F wv wv2 :=
  ⟨Nat.le_trans a.size c.size, fun x o q1 q2 q3 => c.keep x o (a.keep x o q1 q2 q3) q2 (a.off x (Wf.lt hw q1) q3), fun x q1 q2 => c.off x (Nat.lt_of_lt_of_le q1 a.size) (a.off x q1 q2)⟩
theorem DFr.mono {h h1 : Heap} {F G : List Nat} {wv wv1 : V} (a : DFr h h1 F wv wv1) (hs : ∀ x ∈ F, x ∈ G) : DFr h h1 G wv wv1 :=
  ⟨a.size, fun x o q1 q2 q3 => a.keep x o q1 (fun q => q2 (hs x q)) q3, a.off⟩
theorem DFr.ofChg {h h1 : Heap} {F : List Nat} {wv : V} (c : Chg F h h1) : DFr h h1 F wv wv := ⟨c.size, fun x o q1 q2 _ => c.keep x o q2 q1, fun _ _ q => q⟩

/-- The entries of a group's first places. -/
def grpE (A : List (Int × Ent)) (k : Nat) : Nat → List Ent
  | 0 => []
  | i + 1 => match findI ((7 * k + i : Nat) : Int) A with
    | some e => grpE A k i ++ [e]
    | none => grpE A k i
theorem grpE_len (A : List (Int × Ent)) (k : Nat) : ∀ m, (grpE A k m).length ≤ m
  | 0 => Nat.le_refl _
  | m + 1 => by
    have := grpE_len A k m
    simp only [grpE]
    split
    · rw [List.length_append]; simp; omega
    · omega
theorem findI_some_mem {k : Int} {v : Ent} : ∀ {A : List (Int × Ent)}, findI k A = some v → (k, v) ∈ A
  | (a, w) :: r, h => by
    simp only [findI] at h
    by_cases q : k = a
    · rw [if_pos q] at h; cases h; subst q; simp
    · rw [if_neg q] at h; exact List.mem_cons_of_mem _ (findI_some_mem h)
theorem grpE_mem (A : List (Int × Ent)) (k : Nat) : ∀ (m : Nat) (e : Ent), e ∈ grpE A k m → ∃ i < m, findI ((7 * k + i : Nat) : Int) A = some e
  | 0, e, h => by cases h
  | m + 1, e, h => by
    simp only [grpE] at h
    split at h
    · rename_i x hx
      rcases List.mem_append.1 h with q | q
      · obtain ⟨i, hi, q⟩ := grpE_mem A k m e q
        exact ⟨i, by omega, q⟩
      · obtain rfl := List.mem_singleton.1 q
        exact ⟨m, by omega, hx⟩
    · obtain ⟨i, hi, q⟩ := grpE_mem A k m e h
      exact ⟨i, by omega, q⟩

def tlAsg : AC := .ops [⟨(some 5), none, .mv (.t 25)⟩]
def tlBody : AC := .block 1 (.seq (.ops [⟨(some 28), none, .load none (.t 2)⟩,
       ⟨(some 29), none, .nilck (.t 28)⟩,
       ⟨(some 30), none, .fieldAddr 3 (.t 29)⟩,
       ⟨(some 31), none, .load none (.t 30)⟩,
       ⟨(some 32), none, .mv (.t 5)⟩,
       ⟨(some 33), none, .lookup .int (.agg [(.str []), (.str []), (.int .i64 (0)), (.int .i64 (0))]) true (.t 31) (.t 32)⟩,
       ⟨(some 27), none, .mv (.t 33)⟩,
       ⟨(some 34), none, .extract 0 (.t 27)⟩,
       ⟨(some 35), none, .extract 1 (.t 27)⟩,
       ⟨(some 6), none, .alloc none [(.str []), (.str []), (.int .i64 (0)), (.int .i64 (0))]⟩,
       ⟨none, none, .store 4 (.t 6) (.t 34)⟩,
       ⟨(some 7), none, .mv (.t 35)⟩])
     (.seq (.ops [⟨(some 36), none, .mv (.t 7)⟩])
     (.cond (.t 36)
      (.ops [⟨(some 37), none, .fieldAddr 1 (.t 4)⟩,
        ⟨(some 38), none, .load none (.t 37)⟩,
        ⟨(some 39), none, .load (some 4) (.t 6)⟩,
        ⟨(some 40), none, .buildSl none [(.str []), (.str []), (.int .i64 (0)), (.int .i64 (0))] 1 [(0, 4, (.t 39))]⟩,
        ⟨(some 41), none, .append 4 48 none (.t 38) (.t 40)⟩,
        ⟨(some 42), none, .fieldAddr 1 (.t 4)⟩,
        ⟨none, none, .store 1 (.t 42) (.t 41)⟩])
      (.skip))))
structure TlJ (hB h8 : Heap) (m p4 : Nat) (sq : Int) (e : List (Nat × V)) (es : List Ent) (h : Heap) : Prop where
  gr : Grow hB h
  ch : Chg [p4, m + 1] h8 h
  x : ∃ w, Cl h p4 [iv sq, w] ∧ Grown h hB.size 4 w (es.map Ent.v) ∧ ∀ b, b < h8.size → Off w b
  lp : LoopAt h (m + 1) e [25, 26] tlAsg tlBody
theorem tl_step {C : Cfg} {hB h8 h : Heap} {m p2 p4 s mb b : Nat} {sq : Int} {e : List (Nat × V)} {es : List Ent} {A : List (Int × Ent)} {c1 c2 c4 c5 : V} (hw0 : Wf hB) (w8 : Wf h8) (J : TlJ hB h8 m p4 sq e es h) (x y : Int) (hes : es.length ≤ 1000)
    (he2 : Env.get e 2 = some (.ptr (some (p2, 0)))) (he4 : Env.get e 4 = some (.ptr (some (p4, 0)))) (cp2 : Cl h8 p2 [.ptr (some (s, 0))]) (cs : Cl h8 s [.ptr (some (b, 0)), c1, c2, .map (some mb), c4, c5]) (M : MapI entV h8 mb A)
    (n2 : p2 ∉ [p4, m + 1]) (n3 : s ∉ [p4, m + 1]) (n4 : mb ∉ [p4, m + 1]) (nm : p4 ≠ m + 1) (hp4 : hB.size ≤ p4) (hm : hB.size ≤ m) (l4 : p4 < h8.size) (lm : m + 1 < h8.size) :
    Yld C (m + 1) [iv x, iv y] h fun r h' => r = .bool true ∧ TlJ hB h8 m p4 sq e (match findI x A with | some t => es ++ [t] | none => es) h' := by
  obtain ⟨nt, tm, hg, hs⟩ := J.lp
  have lmh := Wf.lt J.gr.wf hg
  refine Yld.body hg hs rfl ?_
  refine WC.ops (omv rfl (WO.nil ⟨rfl, rfl, ?_⟩))
  have gB : Grow hB (h.put (m + 1) (.loop .busy none nt tm [25, 26] tlAsg tlBody)) := J.gr.put (by omega) lmh hw0 _
  have cB : Chg [p4, m + 1] h8 (h.put (m + 1) (.loop .busy none nt tm [25, 26] tlAsg tlBody)) := by
    refine ⟨gB.wf, J.ch.size, fun b o hb hq => ?_⟩
    rw [get_put, if_neg (by rintro rfl; exact hb (by simp))]
    exact J.ch.keep b o hb hq
  obtain ⟨w, cw, gw, ow⟩ := J.x
  have cwB := cw.putNe (c := m + 1) nm (.loop .busy none nt tm [25, 26] tlAsg tlBody)
  have bz : (h.put (m + 1) (.loop .busy none nt tm [25, 26] tlAsg tlBody)).get (m + 1) = some (.loop .busy none nt tm [25, 26] tlAsg tlBody) := by rw [get_put, if_pos rfl]
  have gwB : Grown (h.put (m + 1) (.loop .busy none nt tm [25, 26] tlAsg tlBody)) hB.size 4 w (es.map Ent.v) := gw.frame fun b' o q o2 l k z e => by
    rw [get_put, if_neg (fun e2 => ow (m + 1) lm b' o2 l k z e e2)]; exact q
  clear cw gw
  generalize h.put (m + 1) (.loop .busy none nt tm [25, 26] tlAsg tlBody) = h1 at *
  have w1 := gB.wf
  have r2 : h1.rd p2 0 = some (.ptr (some (s, 0))) := (cp2.chg cB n2).rd rfl
  have rm : h1.rd s (0 + 3) = some (.map (some mb)) := (cs.chg cB n3).rd rfl
  have M1 := M.chg cB n4
  have hlk := M1.look x (.agg [(.str []), (.str []), (.int .i64 (0)), (.int .i64 (0))])
  obtain ⟨ev, t, hev, hlk, hfx⟩ : ∃ (ev : List V) (t : Bool), ev.length = 4 ∧ lookupA h1 .int (.agg [(.str []), (.str []), (.int .i64 (0)), (.int .i64 (0))]) true (.map (some mb)) (iv x) = some (.tuple [.agg ev, .bool t]) ∧ (ev.all V.one = true ∧ match findI x A with | some y => t = true ∧ ev = y.v | none => t = false) := by
    cases hf : findI x A with
    | some y => rw [hf] at hlk; exact ⟨y.v, true, rfl, hlk, by simp [Ent.v, V.one, iv], rfl, rfl⟩
    | none => rw [hf] at hlk; exact ⟨_, false, rfl, hlk, rfl, rfl⟩
  obtain ⟨hone, hfx⟩ := hfx
  refine WC.block (WC.seqO ?_)
  refine old he2 r2 <| onk rfl <| ofa rfl <| old rfl rm <| omv rfl <| WO.ops (StepK.lookup rfl rfl hlk) <| omv rfl <| oex rfl rfl <| oex rfl rfl <| WO.ops (StepK.alloc) ?_
  have gp := (Grow.refl w1).push (.cells [.str [], .str [], iv 0, iv 0] (.tip [] 0 none))
  have c6 : Cl (h1.push (.cells [.str [], .str [], iv 0, iv 0] (.tip [] 0 none))) h1.size [.str [], .str [], iv 0, iv 0] := Cl.new _ _ _
  change WO C _ _ (h1.push (.cells [.str [], .str [], iv 0, iv 0] (.tip [] 0 none))) _
  generalize h1.push (.cells [.str [], .str [], iv 0, iv 0] (.tip [] 0 none)) = h2 at *
  obtain ⟨h3, u1, u2, u3, u4⟩ := c6.sets gp.wf (i := 0) (us := ev) (by simp [hev]) hone
  have u2' : Cl h3 h1.size ev := by
    have := splice_head (us := ev) (cs := [.str [], .str [], iv 0, iv 0]) (ds := []) (by simp [hev])
    rw [List.append_nil, List.append_nil] at this; rw [this] at u2; exact u2
  have g13 : Grow h1 h3 := u3.newGrow gp w1 (fun x hx => by obtain rfl := List.mem_singleton.1 hx; omega)
  refine WO.op (StepK.store (v := .agg ev) rfl rfl (by simp [V.cellsOf, hev]) u1) <| omv rfl <| WO.nil <| WC.seqO <| omv rfl <| WO.nil ?_
  have g3 := gB.trans g13
  have c3 : Chg [p4, m + 1] h8 h3 := cB.growr g13
  have s8 := J.ch.size
  have s3 := g13.size
  have bz3 := g13.ext _ _ bz
  have cw3 := cwB.grow g13
  have gw3 := gwB.grow g13
  have fin : ∀ h4 es', Grow hB h4 → Chg [p4, m + 1] h8 h4 → (∃ w, Cl h4 p4 [iv sq, w] ∧ Grown h4 hB.size 4 w (es'.map Ent.v) ∧ ∀ b, b < h8.size → Off w b) → h4.get (m + 1) = some (.loop .busy none nt tm [25, 26] tlAsg tlBody) →
      TlJ hB h8 m p4 sq e es' (h4.put (m + 1) (.loop .ready none nt tm [25, 26] tlAsg tlBody)) := by
    rintro h4 es' g4 c4 ⟨w4, k1, k2, k3⟩ bz4
    have l4 := Wf.lt g4.wf bz4
    have gq : Grow hB (h4.put (m + 1) (.loop .ready none nt tm [25, 26] tlAsg tlBody)) := g4.put (by omega) l4 hw0 _
    refine ⟨gq, ⟨gq.wf, c4.size, fun b o hb hq => ?_⟩, ⟨w4, k1.putNe nm _, k2.frame fun b' o q o2 l k z e => ?_, k3⟩, nt, tm, by rw [get_put, if_pos rfl], hs⟩
    · rw [get_put, if_neg (by rintro rfl; exact hb (by simp))]
      exact c4.keep b o hb hq
    · rw [get_put, if_neg (fun e2 => k3 (m + 1) lm b' o2 l k z e e2)]; exact q
  cases t with
  | false =>
    refine WC.cond rfl (fun hc => by cases hc) (fun hc => WC.skip ⟨bz3, rfl, ?_⟩)
    have : findI x A = none := by
      cases hf : findI x A with
      | some y => rw [hf] at hfx; cases hfx.1
      | none => rfl
    rw [this]
    exact fin h3 es g3 c3 ⟨w, cw3, gw3, ow⟩ bz3
  | true =>
    obtain ⟨y, hf, rfl⟩ : ∃ y, findI x A = some y ∧ ev = y.v := by
      cases hf : findI x A with
      | some y => rw [hf] at hfx; exact ⟨y, rfl, hfx.2⟩
      | none => rw [hf] at hfx; cases hfx
    rw [hf]
    refine WC.cond rfl (fun hc => WC.ops ?_) (fun hc => by cases hc)
    refine ofa he4 <| old rfl (cw3.rd (i := 1) rfl) <| WO.ops (StepK.loadN rfl (u2'.rds rfl)) <| WO.ops (StepK.buildSl rfl rfl) ?_
    have gp5 := (Grow.refl g13.wf).push (.cells y.v (.tip [] 0 none))
    have hnew : (h3.push (.cells y.v (.tip [] 0 none))).get h3.size = some (.cells y.v (.tip [] 0 none)) := get_push_self _ _
    change WO C _ _ (h3.push (.cells y.v (.tip [] 0 none))) _
    have g5 := g3.trans gp5
    have gw5 := gw3.grow gp5
    have cw5 := cw3.grow gp5
    have c5 := c3.growr gp5
    have bz5 := gp5.ext _ _ bz3
    have s5 := gp5.size
    have s58 := c5.size
    generalize h3.push (.cells y.v (.tip [] 0 none)) = h5 at *
    obtain ⟨w', h6, a1, a2, a3, a4, a5⟩ := Grown.append2 (bytes := 48) (tyK := none) hw0 g5 gw5 (sl_one hnew rfl) (by decide) (by decide) (roomy48 (by simp; omega)) (fun c hc x hx => by
      obtain rfl := List.mem_singleton.1 hc
      exact ent_one y x hx)
    refine WO.op (StepK.append rfl rfl a1) <| ofa he4 ?_
    have cw6 := cw5.frm a4 (ow _ l4)
    obtain ⟨h7, b1, b2, b3, b4⟩ := cw6.set a3.wf (i := 1) (by simp) (v := w') a2.one
    have b1' : h6.wr p4 (0 + 1) w'.cellsOf = some h7 := by rw [one_cells a2.one]; exact b1
    refine WO.op (StepK.store rfl rfl (by rw [one_cells a2.one]; rfl) b1') <| WO.nil ?_
    have ow' : ∀ b, b < h8.size → Off w' b := fun b hb => a5 b (by omega) (ow b hb)
    have bz7 := b3.keep _ _ (by simpa using fun e => nm e.symm) (a4 _ _ bz5 (ow _ lm))
    refine ⟨bz7, rfl, fin h7 _ (b3.newGrow a3 hw0 (fun x hx => by obtain rfl := List.mem_singleton.1 hx; exact hp4)) ?_ ⟨w', b2, ?_, ow'⟩ bz7⟩
    · refine ⟨b3.wf, ?_, fun b o hb hq => ?_⟩
      · have q1 := c5.size
        have q2 := append_size a1
        have q3 := b3.size
        omega
      · refine b3.keep _ _ (fun q => hb (by simp at q; simp [q])) (a4 _ _ (c5.keep b o hb hq) (ow b (Wf.lt w8 hq)))
    · rw [List.map_append]
      exact a2.chg b3 (fun x hx => by obtain rfl := List.mem_singleton.1 hx; exact ow' _ l4)
end Abs
end Go.Proofs.YtlgbdjlnbnlphaaGreatDoor
namespace Go.Proofs.YtlgbdjlnbnlphaaGreatDoor
namespace Abs
set_option linter.unusedVariables false
set_option linter.unusedSimpArgs false
open Go.RowKit
attribute [local irreducible] WO WC WD StepK Ans Does Runs DoesD

theorem Cl.inj {h : Heap} {b : Nat} {cs ds : List V} (a : Cl h b cs) (c : Cl h b ds) : cs = ds := by
  obtain ⟨t1, q1⟩ := a
  obtain ⟨t2, q2⟩ := c
  rw [q1] at q2; cases q2; rfl
theorem Grown.nilE {h : Heap} {low sz : Nat} {es : List (List V)} (g : Grown h low sz (.slice none 0 0) es) : es = [] := by
  obtain ⟨_, ⟨_, q⟩ | ⟨b, S, ty, q, _⟩⟩ := g
  · exact q
  · cases q
theorem Grown.offNew {h : Heap} {low sz : Nat} {x : V} {es : List (List V)} (g : Grown h low sz x es) (hw : Wf h) {c : Nat} (hc : h.size ≤ c) : Off x c := by
  obtain ⟨_, ⟨rfl, _⟩ | ⟨b', S, ty, rfl, _, _, q⟩⟩ := g
  · exact Off.nil c
  · intro b2 o l k z e; cases e; have := Wf.lt hw q; omega
theorem DevAt.chg {n : Nat} {h h' : Heap} {b b0 b1 : Nat} {wv : V} {D : Dv} {F : List Nat} (d : DevAt n h b b0 b1 wv D) (c : Chg F h h') (hF : ∀ x ∈ F, x ∉ [b, b0, b1] ∧ Off wv x) : DevAt n h' b b0 b1 wv D :=
  { d with B := Cl.chg d.B c (fun q => (hF _ q).1 (by simp)), S0 := d.S0.chg c (fun q => (hF _ q).1 (by simp)), S1 := d.S1.chg c (fun q => (hF _ q).1 (by simp)), W := d.W.chg c (fun x hx => (hF x hx).2) }
theorem XAt.chg {nb : Nat} {h h' : Heap} {s mb b b0 b1 : Nat} {wv : V} {X : XS} {F : List Nat} (x : XAt nb h s mb b b0 b1 wv X) (c : Chg F h h') (hs : s ∉ F) (hm : mb ∉ F) : XAt nb h' s mb b b0 b1 wv X :=
  { x with cs := x.cs.chg c hs, mp := x.mp.chg c hm }
theorem DevAt.lt {n : Nat} {h : Heap} {b b0 b1 : Nat} {wv : V} {D : Dv} (d : DevAt n h b b0 b1 wv D) (hw : Wf h) : b < h.size ∧ b0 < h.size ∧ b1 < h.size :=
  ⟨Cl.lt d.B hw, d.S0.lt hw, d.S1.lt hw⟩
theorem XAt.lt {nb : Nat} {h : Heap} {s mb b b0 b1 : Nat} {wv : V} {X : XS} (x : XAt nb h s mb b b0 b1 wv X) (hw : Wf h) : s < h.size ∧ mb < h.size :=
  ⟨x.cs.lt hw, x.mp.lt hw⟩

theorem tl_feeds {C : Cfg} {hB h8 : Heap} {m p2 p4 s mb b : Nat} {sq : Int} {e : List (Nat × V)} {A : List (Int × Ent)} {c1 c2 c4 c5 : V} (k f n : Nat) (hn : n ≤ 7) (hw0 : Wf hB) (w8 : Wf h8) (J : TlJ hB h8 m p4 sq e [] h8) (cn : Cl h8 p4 [iv sq, .slice none 0 0])
    (he2 : Env.get e 2 = some (.ptr (some (p2, 0)))) (he4 : Env.get e 4 = some (.ptr (some (p4, 0)))) (cp2 : Cl h8 p2 [.ptr (some (s, 0))]) (cs : Cl h8 s [.ptr (some (b, 0)), c1, c2, .map (some mb), c4, c5]) (M : MapI entV h8 mb A)
    (n2 : p2 ∉ [p4, m + 1]) (n3 : s ∉ [p4, m + 1]) (n4 : mb ∉ [p4, m + 1]) (nm : p4 ≠ m + 1) (hp4 : hB.size ≤ p4) (hm : hB.size ≤ m) (l4 : p4 < h8.size) (lm : m + 1 < h8.size) :
    Feeds C h8 (m + 1) n (fun i => [iv ((7 * k + i : Nat) : Int), iv ((f + 8 * k + 1 + i : Nat) : Int)]) (fun i h' => TlJ hB h8 m p4 sq e (grpE A k i) h') (fun _ => False) := by
  refine ⟨J, ?_, ?_, ?_, ?_, ?_, ?_⟩
  · intro i hi h' j
    have hl := grpE_len A k i
    obtain ⟨r, h2, q1, q2, q3⟩ := tl_step (C := C) hw0 w8 j ((7 * k + i : Nat) : Int) ((f + 8 * k + 1 + i : Nat) : Int) (by omega) he2 he4 cp2 cs M n2 n3 n4 nm hp4 hm l4 lm
    exact ⟨r, h2, q1, .inl ⟨q2, q3⟩⟩
  · exact fun i h1 h2 j g => ⟨j.gr.trans g, j.ch.growr g, by obtain ⟨w, q1, q2, q3⟩ := j.x; exact ⟨w, q1.grow g, q2.grow g, q3⟩, by obtain ⟨nt, tm, q1, q2⟩ := j.lp; exact ⟨nt, tm, g.ext _ _ q1, q2⟩⟩
  · exact fun i h1 n j => ⟨j.gr.low1 n, ⟨j.ch.wf, j.ch.size, j.ch.keep⟩, j.x, j.lp⟩
  · exact fun h1 n q => q
  · intro i h1 j hl
    refine ⟨J.gr, Chg.refl w8, ?_, J.lp⟩
    obtain ⟨w, q1, q2, q3⟩ := j.x
    have := (q1.of_get (hl _ l4)).inj cn
    obtain rfl : w = .slice none 0 0 := by simpa using this
    have e0 := q2.nilE
    refine ⟨_, cn, ?_, q3⟩
    rw [e0]; exact Grown.nil _ _ _
  · exact fun h1 q _ => q

section
variable {C : Cfg} (S : StdX C)
include S
theorem tell_ans (hSm : ∀ f args h v h', C.S f args h = some (some (v, h')) → HM h h') (hB h : Heap) (hw0 : Wf hB) (gB : Grow hB h) (ro : Ro hB) (s mb b b0 b1 : Nat) (wv : V) (D : Dv) (X : XS) (d : DevAt hB.size h b b0 b1 wv D) (x : XAt hB.size h s mb b b0 b1 wv X)
    (k : Nat) (hk : X.f + 8 * k < D.s1.length) (hz : D.s1.length ≤ 1000) (hl : D.l1 = false) (hws : D.ws.length ≤ 1000) (hn : X.n ≤ 1000) (hq : 0 ≤ X.seq ∧ X.seq ≤ 1000000000000) (hby : ∀ p ∈ X.A, p.2.byt) :
    Ans C 20 [.ptr (some (s, 0)), iv k] h fun r h' => Grow hB h' ∧ ∃ wv', DevAt hB.size h' b b0 b1 wv' { D with ws := D.ws ++ [(1, ((X.f + 8 * k : Nat) : Int), encF (X.seq + 1) (grpE X.A k (min 7 (roomN X.n - 7 * k))))] } ∧
      XAt hB.size h' s mb b b0 b1 wv' { X with seq := X.seq + 1 } ∧ DFr h h' [s, b] wv wv' := by
  have hw := gB.wf
  obtain ⟨ls, lm⟩ := x.lt hw
  obtain ⟨lb, lb0, lb1⟩ := d.lt hw
  have nb1 : hB.size ≤ h.size := gB.size
  have hF : C.F 20 = some a20 := S.f rfl
  unfold a20 at hF
  refine Ans.rngL hSm (S.s _ _ _ rfl) hF rfl (by decide) ?_
  clear hF
  have g2 : Grow h { h with low := h.size } := (Grow.refl hw).low1 _
  have z2 : ({ h with low := h.size } : Heap).size = h.size := rfl
  generalize { h with low := h.size } = h2 at *
  refine WX.seqP (WC.ops (WO.ops (StepK.box rfl) ?_))
  have c2 : Cl (h2.push (.cells [.ptr (some (s, 0))] (.tip [] 0 none))) h2.size [.ptr (some (s, 0))] := Cl.new _ _ _
  have g3 := g2.push (.cells [.ptr (some (s, 0))] (.tip [] 0 none))
  have z3 : (h2.push (.cells [.ptr (some (s, 0))] (.tip [] 0 none))).size = h2.size + 1 := rfl
  change WO C _ _ (h2.push (.cells [.ptr (some (s, 0))] (.tip [] 0 none))) _
  generalize h2.push (.cells [.ptr (some (s, 0))] (.tip [] 0 none)) = h3 at *
  generalize h2.size = p2 at *
  have cs3 := x.cs.grow g3
  obtain ⟨h4, a1, a2, a3, a4⟩ := cs3.set g3.wf (i := 4) (by simp) (v := iv (X.seq + 1)) rfl
  have a2' : Cl h4 s [.ptr (some (b, 0)), iv X.f, iv X.n, .map (some mb), iv (X.seq + 1), iv X.hand] := a2
  have c4 := c2.chg a3 (by simp; omega)
  have ch4 : Chg [s] h h4 := Chg.growl g3 a3
  refine WO.nil (ThenX.on (WX.seqP (WC.ops ?_)))
  refine old rfl (c2.rd (i := 0) rfl) <| onk rfl <| ofa rfl <| old rfl (cs3.rd (i := 4) rfl) <| oad rfl rfl (by omega) <| onk rfl <| ofa rfl <| WO.op (StepK.store rfl rfl rfl a1) <| WO.nil (ThenX.on (WX.seqP (WC.ops ?_)))
  refine old rfl (c4.rd (i := 0) rfl) <| onk rfl <| ofa rfl <| old rfl (a2'.rd (i := 4) rfl) <| obu rfl rfl <| WO.ops (StepK.alloc) ?_
  have gp := (Grow.refl a3.wf).push (.cells [iv 0, .slice none 0 0] (.tip [] 0 none))
  have k4 : Cl (h4.push (.cells [iv 0, .slice none 0 0] (.tip [] 0 none))) h4.size [iv 0, .slice none 0 0] := Cl.new _ _ _
  have z5 : (h4.push (.cells [iv 0, .slice none 0 0] (.tip [] 0 none))).size = h4.size + 1 := rfl
  change WO C _ _ (h4.push (.cells [iv 0, .slice none 0 0] (.tip [] 0 none))) _
  generalize h4.push (.cells [iv 0, .slice none 0 0] (.tip [] 0 none)) = h5 at *
  obtain ⟨h6, b1', b2', b3, b4⟩ := k4.sets gp.wf (i := 0) (us := [iv (X.seq + 1), .slice none 0 0]) (by simp) rfl
  have k6 : Cl h6 h4.size [iv (X.seq + 1), .slice none 0 0] := b2'
  have g46 : Grow h4 h6 := b3.newGrow gp a3.wf (fun x hx => by obtain rfl := List.mem_singleton.1 hx; omega)
  have lp4 : h4.size < h6.size := k6.lt g46.wf
  have s4 := a3.size
  refine WO.op (StepK.store (v := .agg [iv (X.seq + 1), .slice none 0 0]) rfl rfl rfl b1') <| WO.nil (ThenX.on (WX.seq (WX.seqP (WC.ops ?_))))
  have n4 : p2 < h4.size := c4.lt a3.wf
  have n5 : s < h4.size := a2'.lt a3.wf
  generalize h4.size = p4 at *
  refine old rfl ((c4.grow g46).rd (i := 0) rfl) <| omv rfl ?_
  refine WO.call rfl rfl (sectors_ans S.toStdO h6 g46.wf s k) ?_
  rintro _ h7 ⟨p, q, rfl, g67, cp, cq, lp6, lpq⟩
  have g47 := g46.trans g67
  have ch7 := ch4.growr g47
  have x7 : Cl h7 s [.ptr (some (b, 0)), iv X.f, iv X.n, .map (some mb), iv (X.seq + 1), iv X.hand] := a2'.grow g47
  have m7 := x.mp.chg ch7 (by simp; exact x.sm.symm)
  have c7 := c4.grow g47
  have k7 := k6.grow g67
  have hm4 : mb < p2 := by omega
  clear a2 a2' c4 k6 k4 cs3 c2
  have lq7 : q < h7.size := cq.lt g67.wf
  have s67 := g67.size
  have hr7 : roomN X.n ≤ 1000 := by unfold roomN; omega
  refine WO.nil (ThenX.on (WX.block ?_))
  refine WX.range g47.wf rfl rfl (fun h8 g8 z8 m8 l8 same8 _ => ?_)
  have w8 := g8.wf
  have ch8 := ch7.growr g8
  have gB8 : Grow hB h8 := ch8.newGrow gB hw0 (fun y hy => by obtain rfl := List.mem_singleton.1 hy; exact x.ns)
  have J0 : TlJ hB h8 h7.size p4 (X.seq + 1) _ [] h8 := ⟨gB8, Chg.refl w8, ⟨_, k7.grow g8, Grown.nil _ _ _, fun _ _ => Off.nil _⟩, l8⟩
  have feeds := tl_feeds (C := C) k X.f (min 7 (roomN X.n - 7 * k)) (by omega) hw0 w8 J0 (k7.grow g8) rfl rfl (c7.grow g8) (x7.grow g8) (m7.grow g8) (by simp; omega) (by simp; omega) (by simp; omega) (by omega) (by omega) (by omega) (by omega) (by omega)
  refine (sectors1_ans S.toStdO hSm h8 w8 (h7.size + 1) p q s k X.f X.n (by omega) (by omega) (by omega) feeds (fun i h' j => ⟨j.gr.wf, ((cq.grow g8).chg j.ch (by simp; omega)).rd rfl, ((cp.grow g8).chg j.ch (by simp; omega)).rd rfl, ((x7.grow g8).chg j.ch (by simp; omega)).rd rfl, ((x7.grow g8).chg j.ch (by simp; omega)).rd rfl⟩)).mono (fun r h9 hr => ?_)
  clear feeds J0
  rcases hr with j | hr
  rotate_left
  · exact hr.elim
  obtain ⟨nt, tm, hg, hs⟩ := j.lp
  refine ⟨none, ⟨_, _, _, _, _, _, hg, fun hc => by cases hc⟩, ?_⟩
  have ch9 : Chg [p4, h7.size + 1] h8 (h9.put (h7.size + 1) .dead) := by
    have gq := j.gr.put (b := h7.size + 1) (by omega) (Wf.lt j.gr.wf hg) hw0 .dead
    refine ⟨gq.wf, j.ch.size, fun b o hb hq => ?_⟩
    rw [get_put, if_neg (by rintro rfl; exact hb (by simp))]
    exact j.ch.keep b o hb hq
  have gB9 : Grow hB (h9.put (h7.size + 1) .dead) := j.gr.put (by omega) (Wf.lt j.gr.wf hg) hw0 _
  obtain ⟨w, e1, e2, e3⟩ := j.x
  have e1' := e1.putNe (c := h7.size + 1) (by omega) .dead
  have e2' : Grown (h9.put (h7.size + 1) .dead) hB.size 4 w ((grpE X.A k (min 7 (roomN X.n - 7 * k))).map Ent.v) := e2.frame fun b' o q o2 l k z e => by
    rw [get_put, if_neg (fun e9 => e3 (h7.size + 1) (by omega) b' o2 l k z e e9)]; exact q
  clear e1 e2 j hg
  generalize h9.put (h7.size + 1) .dead = hA at *
  have chA : Chg [s] h hA := ch8.trans ch9 hw (fun y hy => by simp at hy; rcases hy with rfl | rfl <;> right <;> omega)
  have mA : hA.get h7.size = some .dfr := ch9.keep _ _ (by simp; omega) m8
  have c2A := (c7.grow g8).chg ch9 (by simp; omega)
  have xsA := (x7.grow g8).chg ch9 (by simp; omega)
  have mpA := (m7.grow g8).chg ch9 (by simp; omega)
  have wA := gB9.wf
  have lmA : h7.size < hA.size := Wf.lt wA mA
  rw [show exOf none = Ex.normal from rfl]
  unfold AtX
  dsimp only
  refine ThenX.on ?_
  refine WX.plain ?_
  refine WC.seqO ?_
  generalize hG : grpE X.A k (min 7 (roomN X.n - 7 * k)) = es at *
  have hes : es.length ≤ 7 := by
    have := grpE_len X.A k (min 7 (roomN X.n - 7 * k))
    rw [hG] at this; omega
  have hbe : ∀ e ∈ es, e.byt := fun e he => by
    rw [← hG] at he
    obtain ⟨i, _, q⟩ := grpE_mem _ _ _ _ he
    exact hby _ (findI_some_mem q)
  refine WO.ops (StepK.loadN rfl (e1'.rds rfl)) ?_
  refine WO.call rfl rfl (cencode_ans S.toStdO hA wA (ro.grow gB9) (X.seq + 1) w es e2'.sl (by omega) hbe) ?_
  rintro _ hC ⟨rfl, gC⟩
  refine omv rfl <| oex rfl rfl <| oex rfl rfl <| omv rfl <| omv rfl <| WO.nil <| WC.draw ?_
  have rp2 := (c2A.grow gC).rd (i := 0) rfl
  have rs0 := (xsA.grow gC).rd (i := 0) rfl
  have rs1 := (xsA.grow gC).rd (i := 1) rfl
  refine WD.load1 rfl rp2 <| dnk rfl <| dfa rfl <| WD.load1 rfl rs0 <| WD.load1 rfl rp2 <| dmv rfl <| dmv rfl ?_
  refine WD.call (by repeat (first | exact trivial | refine ⟨by with_reducible assumption, ?_⟩)) rfl rfl (log_ans S.toStdO hC gC.wf s X.f k rs1 (by omega) (by omega)) ?_
  rintro _ hE ⟨rfl, gE⟩
  have gCE := gC.trans gE
  have rp2' := gE.rd rp2
  have rs0' := gE.rd rs0
  have chE := chA.growr gCE
  have gBE := gB9.trans gCE
  have dE : DevAt hB.size hE b b0 b1 wv D := d.chg chE (fun y hy => by obtain rfl := List.mem_singleton.1 hy; exact ⟨x.sb, x.os⟩)
  have hlen : (encF (X.seq + 1) es).length ≤ 1000 := by
    unfold encF
    split
    · rename_i ho
      have := encT_len ho
      rw [List.length_append, ofF_len]; omega
    · simp
  have hmay : D.may 1 ((X.f : Int) + 8 * k) (encF (X.seq + 1) es).length = 0 := by
    unfold Dv.may
    rw [if_neg, if_neg]
    · simp [Dv.l, hl]
    · simp only [isDev, Dv.s]
      simp
      omega
  refine WD.call (by repeat (first | exact trivial | refine ⟨by with_reducible assumption, ?_⟩)) rfl rfl (write_ok S.toStdO hB hE hw0 gBE b b0 b1 wv D dE 1 ((X.f : Int) + 8 * k) (encF (X.seq + 1) es) hmay (by omega)) ?_
  rintro _ hF ⟨rfl, gF, wv', dF, fr⟩
  have gmE : hE.get h7.size = some .dfr := gCE.ext _ _ mA
  have owm : Off wv h7.size := d.W.offNew hw (by omega)
  have lmb : h7.size ∉ [b] := by simp; omega
  have mF : hF.get h7.size = some .dfr := fr.keep _ _ gmE lmb owm
  have lmF : h7.size < hF.size := Wf.lt gF.wf mF
  have owm' : Off wv' h7.size := fr.off _ (Wf.lt gBE.wf gmE) owm
  have cF : Chg [h7.size] hF (hF.put h7.size .dead) := Chg.put gF.wf lmF _
  have gG : Grow hB (hF.put h7.size .dead) := gF.put (by omega) lmF hw0 _
  have xsF := fr.chg (xsA.grow gCE) (fun q => x.sb (by simp at q; simp [q])) x.os
  have mpF := fr.mp (mpA.grow gCE) (fun q => x.mbb (by simp at q; simp [q])) x.om
  have xsG := xsF.chg cF (by simp; omega)
  have mpG := mpF.chg cF (by simp; omega)
  have out : ∀ m, DevAt hB.size { hF.put h7.size .dead with low := m } b b0 b1 wv' { D with ws := D.ws ++ [(1, ((X.f + 8 * k : Nat) : Int), encF (X.seq + 1) es)] } ∧
      XAt hB.size { hF.put h7.size .dead with low := m } s mb b b0 b1 wv' { X with seq := X.seq + 1 } ∧ DFr h { hF.put h7.size .dead with low := m } [s, b] wv wv' := by
    intro m
    have dd := dF.chg cF (fun y hy => by obtain rfl := List.mem_singleton.1 hy; exact ⟨by simp; omega, owm'⟩)
    refine ⟨?_, ?_, ?_⟩
    · have e : (((X.f + 8 * k : Nat) : Int)) = (X.f : Int) + 8 * k := by omega
      rw [e]
      exact { dd with B := dd.B, S0 := dd.S0, S1 := dd.S1, W := dd.W }
    · exact ⟨xsG, mpG, x.ns, x.nm, x.sm, x.sb, x.mbb, fr.off _ (by have := chE.size; omega) x.os, fr.off _ (by have := chE.size; omega) x.om⟩
    · have t1 : DFr h hE [s, b] wv wv := (DFr.ofChg chE).mono (by simp)
      have t2 := t1.trans hw (fr.mono (G := [s, b]) (by simp))
      refine ⟨t2.size, fun y o q1 q2 q3 => ?_, t2.off⟩
      have := Wf.lt hw q1
      show (hF.put h7.size .dead).get y = some o
      rw [get_put, if_neg (by omega)]
      exact t2.keep y o q1 q2 q3
  refine WD.nil (by repeat (first | exact trivial | refine ⟨by with_reducible assumption, ?_⟩)) ⟨fun id hc => Ex.noConfusion hc, hF.put h7.size .dead, ?_, [], rfl, ⟨gG.low1 _, wv', out _⟩, fun hc _ => ?_⟩
  · simp only [runMarks, mF]
  · exfalso
    have := (xsG.of_get (hc s ls)).inj x.cs
    simp [iv] at this
    omega
end
end Abs
end Go.Proofs.YtlgbdjlnbnlphaaGreatDoor
namespace Go.Proofs.YtlgbdjlnbnlphaaGreatDoor
namespace Abs
set_option linter.unusedVariables false
set_option linter.unusedSimpArgs false
open Go.RowKit
attribute [local irreducible] WO WC WD StepK Ans Does Runs DoesD

def Dv.w (D : Dv) (a : Int) (t : List Nat) : Dv := { D with ws := D.ws ++ [(1, a, t)] }
def Dv.fl (D : Dv) : Dv := D.done fun _ => true
theorem fl_alk (D : Dv) (kp : Nat → Bool) : (D.done kp).s0.length = D.s0.length ∧ (D.done kp).s1.length = D.s1.length ∧ (D.done kp).l0 = D.l0 ∧ (D.done kp).l1 = D.l1 ∧ (D.done kp).ws = [] := by
  have a := Alk.steps kp D.ws 0 D D (Alk.refl D)
  exact ⟨a.z0, a.z1, a.l0, a.l1, rfl⟩
theorem WsOk.w {D : Dv} (o : WsOk D) {a : Int} {t : List Nat} (h0 : 0 ≤ a) (h1 : a < D.s1.length) : WsOk (D.w a t) := by
  intro w hw
  rcases List.mem_append.1 hw with q | q
  · exact o w q
  · obtain rfl := List.mem_singleton.1 q
    exact ⟨rfl, h0, h1⟩
theorem WsOk.nil {D : Dv} (h : D.ws = []) : WsOk D := by
  intro w hw; rw [h] at hw; cases hw
theorem may_ok {D : Dv} {a : Int} {n : Nat} (h0 : 0 ≤ a) (h1 : a < D.s1.length) (hn : n ≤ 1024) (hl : D.l1 = false) : D.may 1 a n = 0 := by
  unfold Dv.may
  rw [if_neg, if_neg]
  · simp [Dv.l, hl]
  · simp only [isDev, Dv.s]
    simp
    omega
theorem mem_delI {β : Type} {k : Int} {p : Int × β} : ∀ {A : List (Int × β)}, p ∈ delI k A → p ∈ A
  | (a, w) :: r, h => by
    simp only [delI] at h
    by_cases q : k = a
    · rw [if_pos q] at h; exact List.mem_cons_of_mem _ h
    · rw [if_neg q] at h
      rcases List.mem_cons.1 h with e | e
      · rw [e]; exact List.mem_cons_self
      · exact List.mem_cons_of_mem _ (mem_delI e)
theorem mem_updI {β : Type} {k : Int} {v : β} {p : Int × β} : ∀ {A : List (Int × β)}, p ∈ updI k v A → p = (k, v) ∨ p ∈ A
  | [], h => .inl (List.mem_singleton.1 h)
  | (a, w) :: r, h => by
    simp only [updI] at h
    by_cases q : k = a
    · rw [if_pos q] at h
      rcases List.mem_cons.1 h with e | e
      · exact .inl e
      · exact .inr (List.mem_cons_of_mem _ e)
    · rw [if_neg q] at h
      rcases List.mem_cons.1 h with e | e
      · rw [e]; exact .inr List.mem_cons_self
      · rcases mem_updI e with e | e
        · exact .inl e
        · exact .inr (List.mem_cons_of_mem _ e)

/-- A group's log, as tell writes it. -/
def logT (X : XS) (A : List (Int × Ent)) (q : Int) (k : Nat) : List Nat := encF q (grpE A k (min 7 (roomN X.n - 7 * k)))
def fdEnt (key ld : List Nat) (a : Int) : Ent := ⟨key, ofF ld, ld.length, a⟩
def fdA1 (X : XS) : List (Int × Ent) := delI X.hand X.A
def fdA2 (X : XS) (key ld : List Nat) (a : Int) : List (Int × Ent) := updI X.hand (fdEnt key ld a) (fdA1 X)
/-- What a Second has, and the devices, behind the loop's one round that does something. -/
def fdX (X : XS) (key ld : List Nat) (a : Int) : XS := { X with A := fdA2 X key ld a, seq := X.seq + 2 }
def fdD1 (D : Dv) (X : XS) (k : Nat) : Dv := D.w ((X.f + 8 * k : Nat) : Int) (logT X (fdA1 X) (X.seq + 1) k)
def fdD2 (D : Dv) (X : XS) (k : Nat) (ld : List Nat) (a : Int) : Dv := (fdD1 D X k).fl.w a ld
def fdD (D : Dv) (X : XS) (k : Nat) (key ld : List Nat) (a : Int) : Dv := (fdD2 D X k ld a).fl.w ((X.f + 8 * k : Nat) : Int) (logT X (fdA2 X key ld a) (X.seq + 2) k)

def fdAsg : AC := .seq (.ops [⟨(some 10), none, .mv (.t 50)⟩]) (.ops [⟨(some 11), none, .mv (.t 51)⟩])
def fdBody : AC := .block 1 (.seq (.seq (.ops [⟨(some 52), none, .mv (.t 10)⟩,
       ⟨(some 53), none, .load none (.t 3)⟩,
       ⟨(some 54), none, .nilck (.t 53)⟩,
       ⟨(some 55), none, .fieldAddr 5 (.t 54)⟩,
       ⟨(some 56), none, .load none (.t 55)⟩,
       ⟨(some 57), none, .bin .neq (.t 52) (.t 56)⟩])
     (.cond (.t 57)
      (.exit 1)
      (.skip)))
     (.seq (.ops [⟨(some 58), none, .load none (.t 3)⟩,
       ⟨(some 59), none, .nilck (.t 58)⟩,
       ⟨(some 60), none, .fieldAddr 3 (.t 59)⟩,
       ⟨(some 61), none, .load none (.t 60)⟩,
       ⟨(some 62), none, .mv (.t 10)⟩,
       ⟨none, none, .mapDel .int (.t 61) (.t 62)⟩])
     (.seq (.ops [⟨(some 63), none, .load none (.t 3)⟩,
       ⟨(some 64), none, .load none (.t 9)⟩,
       ⟨(some 65), none, .call (.c (.func (.func 20) [] [])) [(.t 63), (.t 64)]⟩])
     (.seq (.ops [⟨(some 66), none, .load none (.t 3)⟩,
       ⟨(some 67), none, .nilck (.t 66)⟩,
       ⟨(some 68), none, .fieldAddr 0 (.t 67)⟩,
       ⟨(some 69), none, .load none (.t 68)⟩,
       ⟨(some 70), none, .call (.c (.func (.func 13) [] [])) [(.t 69)]⟩])
     (.seq (.draw [⟨⟨(some 71), none, .load none (.t 3)⟩, 0, []⟩,
       ⟨⟨(some 72), none, .nilck (.t 71)⟩, 1, [0]⟩,
       ⟨⟨(some 73), none, .fieldAddr 0 (.t 72)⟩, 2, [0, 1]⟩,
       ⟨⟨(some 74), none, .load none (.t 73)⟩, 3, [0, 1, 2]⟩,
       ⟨⟨(some 75), none, .mv (.t 11)⟩, 4, []⟩,
       ⟨⟨(some 76), none, .build [(.int .i64 (0)), (.int .i64 (0))] [(0, 1, (.c (.int .i64 (1)))), (1, 1, (.t 75))]⟩, 5, [4]⟩,
       ⟨⟨(some 77), none, .load none (.t 5)⟩, 6, []⟩,
       ⟨⟨(some 78), none, .call (.c (.func (.func 21) [] [])) [(.t 74), (.t 76), (.t 77)]⟩, 7, [0, 1, 2, 3, 4, 5, 6]⟩])
     (.seq (.ops [⟨(some 79), none, .load none (.t 3)⟩,
       ⟨(some 80), none, .nilck (.t 79)⟩,
       ⟨(some 81), none, .fieldAddr 0 (.t 80)⟩,
       ⟨(some 82), none, .load none (.t 81)⟩,
       ⟨(some 83), none, .call (.c (.func (.func 13) [] [])) [(.t 82)]⟩])
     (.seq (.draw [⟨⟨(some 84), none, .load none (.t 3)⟩, 0, []⟩,
       ⟨⟨(some 85), none, .nilck (.t 84)⟩, 1, [0]⟩,
       ⟨⟨(some 86), none, .fieldAddr 3 (.t 85)⟩, 2, [0, 1]⟩,
       ⟨⟨(some 87), none, .load none (.t 86)⟩, 3, [0, 1, 2]⟩,
       ⟨⟨(some 88), none, .mv (.t 10)⟩, 4, []⟩,
       ⟨⟨(some 89), none, .load none (.t 4)⟩, 5, []⟩,
       ⟨⟨(some 90), none, .load none (.t 5)⟩, 6, []⟩,
       ⟨⟨(some 92), none, .load none (.t 5)⟩, 8, []⟩,
       ⟨⟨(some 93), none, .lenStr (.t 92)⟩, 9, [7]⟩,
       ⟨⟨(some 94), none, .mv (.t 11)⟩, 10, []⟩,
       ⟨⟨(some 91), none, .call (.c (.func (.func 22) [] [])) [(.t 90)]⟩, 7, [6]⟩,
       ⟨⟨(some 95), none, .build [(.str []), (.str []), (.int .i64 (0)), (.int .i64 (0))] [(0, 1, (.t 89)), (1, 1, (.t 91)), (2, 1, (.t 93)), (3, 1, (.t 94))]⟩, 11, [5, 6, 7, 8, 9, 10]⟩,
       ⟨⟨none, none, .mapUpd .int (.t 87) (.t 88) (.t 95)⟩, 12, [0, 1, 2, 3, 4, 5, 6, 7, 8, 9, 10, 11]⟩])
     (.ops [⟨(some 96), none, .load none (.t 3)⟩,
       ⟨(some 97), none, .load none (.t 9)⟩,
       ⟨(some 98), none, .call (.c (.func (.func 20) [] [])) [(.t 96), (.t 97)]⟩]))))))))
/-- Feed's variables, as the loop finds them. -/
structure FdE (h8 : Heap) (e : List (Nat × V)) (m s mb b b0 b1 : Nat) (wv8 : V) (p3 p4 p5 p9 : Nat) (key ld : List Nat) (k : Nat) : Prop where
  e3 : Env.get e 3 = some (.ptr (some (p3, 0)))
  e4 : Env.get e 4 = some (.ptr (some (p4, 0)))
  e5 : Env.get e 5 = some (.ptr (some (p5, 0)))
  e9 : Env.get e 9 = some (.ptr (some (p9, 0)))
  c3 : Cl h8 p3 [.ptr (some (s, 0))]
  c4 : Cl h8 p4 [.str key]
  c5 : Cl h8 p5 [.str ld]
  c9 : Cl h8 p9 [iv k]
  n3 : p3 ∉ [s, mb, b, b0, b1, m + 1]
  n4 : p4 ∉ [s, mb, b, b0, b1, m + 1]
  n5 : p5 ∉ [s, mb, b, b0, b1, m + 1]
  n9 : p9 ∉ [s, mb, b, b0, b1, m + 1]
  nm : m + 1 ∉ [s, mb, b, b0, b1]
  o3 : Off wv8 p3
  o4 : Off wv8 p4
  o5 : Off wv8 p5
  o9 : Off wv8 p9
  om : Off wv8 (m + 1)
  lm : m + 1 < h8.size
structure FdJ (hB h8 : Heap) (m s mb b b0 b1 : Nat) (wv8 : V) (e : List (Nat × V)) (D : Dv) (X : XS) (h : Heap) : Prop where
  gr : Grow hB h
  st : ∃ wv, DevAt hB.size h b b0 b1 wv D ∧ XAt hB.size h s mb b b0 b1 wv X ∧ DFr h8 h [s, mb, b, b0, b1, m + 1] wv8 wv
  lp : LoopAt h (m + 1) e [50, 51] fdAsg fdBody
/-- Between rounds, and within one: how a loop's block is set. -/
theorem FdJ.fin {hB h8 h : Heap} {m s mb b b0 b1 : Nat} {wv8 wv : V} {D : Dv} {X : XS} (hw0 : Wf hB) (w8 : Wf h8) (hm : hB.size ≤ m) (gB : Grow hB h) (d : DevAt hB.size h b b0 b1 wv D) (x : XAt hB.size h s mb b b0 b1 wv X)
    (fr : DFr h8 h [s, mb, b, b0, b1, m + 1] wv8 wv) (nm : m + 1 ∉ [s, mb, b, b0, b1]) (om : Off wv (m + 1)) {o : Obj} (hg : h.get (m + 1) = some o) (o' : Obj) :
    Grow hB (h.put (m + 1) o') ∧ DevAt hB.size (h.put (m + 1) o') b b0 b1 wv D ∧ XAt hB.size (h.put (m + 1) o') s mb b b0 b1 wv X ∧ DFr h8 (h.put (m + 1) o') [s, mb, b, b0, b1, m + 1] wv8 wv := by
  have lm := Wf.lt gB.wf hg
  have cc : Chg [m + 1] h (h.put (m + 1) o') := Chg.put gB.wf lm _
  simp only [List.mem_cons, List.not_mem_nil, or_false, not_or] at nm
  obtain ⟨n1, n2, n3, n4, n5⟩ := nm
  refine ⟨gB.put (by omega) lm hw0 _, d.chg cc (fun y hy => ?_), x.chg cc (by simp; omega) (by simp; omega), fr.trans w8 ((DFr.ofChg cc).mono (by simp))⟩
  obtain rfl := List.mem_singleton.1 hy
  exact ⟨by simp; omega, om⟩
theorem fd_skip {C : Cfg} (S : StdX C) {hB h8 h : Heap} {m s mb b b0 b1 p3 p4 p5 p9 k : Nat} {wv8 : V} {e : List (Nat × V)} {D : Dv} {X : XS} {key ld : List Nat} (hw0 : Wf hB) (w8 : Wf h8) (hm : hB.size ≤ m) (E : FdE h8 e m s mb b b0 b1 wv8 p3 p4 p5 p9 key ld k) (J : FdJ hB h8 m s mb b b0 b1 wv8 e D X h)
    (x y : Int) (hx : x ≠ X.hand) : Yld C (m + 1) [iv x, iv y] h fun r h' => r = .bool true ∧ FdJ hB h8 m s mb b b0 b1 wv8 e D X h' := by
  obtain ⟨nt, tm, hg, hs⟩ := J.lp
  obtain ⟨wv, d, x0, fr⟩ := J.st
  have om := fr.off _ E.lm E.om
  refine Yld.body hg hs rfl ?_
  refine WC.seqO (omv rfl (WO.nil (WC.ops (omv rfl (WO.nil ⟨rfl, rfl, ?_⟩)))))
  obtain ⟨gB, d1, x1, f1⟩ := FdJ.fin hw0 w8 hm J.gr d x0 fr E.nm om hg (.loop .busy none nt tm [50, 51] fdAsg fdBody)
  have bz : (h.put (m + 1) (.loop .busy none nt tm [50, 51] fdAsg fdBody)).get (m + 1) = some (.loop .busy none nt tm [50, 51] fdAsg fdBody) := by rw [get_put, if_pos rfl]
  generalize h.put (m + 1) (.loop .busy none nt tm [50, 51] fdAsg fdBody) = h1 at *
  refine WC.block (WC.seq (WC.seqO ?_))
  refine omv rfl <| old E.e3 ((f1.chg E.c3 E.n3 E.o3).rd (i := 0) rfl) <| onk rfl <| ofa rfl <| old rfl (x1.cs.rd (i := 5) rfl) <| obn rfl rfl (neT hx) <| WO.nil <| WC.cond rfl (fun hc => WC.exit ?_) (fun hc => by cases hc)
  refine ⟨bz, rfl, ?_⟩
  obtain ⟨g2, d2, x2, f2⟩ := FdJ.fin hw0 w8 hm gB d1 x1 f1 E.nm om bz (.loop .ready none nt tm [50, 51] fdAsg fdBody)
  exact ⟨g2, ⟨wv, d2, x2, f2⟩, nt, tm, by rw [get_put, if_pos rfl], hs⟩
end Abs
end Go.Proofs.YtlgbdjlnbnlphaaGreatDoor
namespace Go.Proofs.YtlgbdjlnbnlphaaGreatDoor
namespace Abs
set_option linter.unusedVariables false
set_option linter.unusedSimpArgs false
open Go.RowKit
attribute [local irreducible] WO WC WD StepK Ans Does Runs DoesD

theorem XAt.nil {nb : Nat} {h h' : Heap} {s mb b b0 b1 : Nat} {wv : V} {X : XS} (x : XAt nb h s mb b b0 b1 wv X) (c : Chg [b, b0, b1] h h') : XAt nb h' s mb b b0 b1 (.slice none 0 0) X :=
  { x with cs := x.cs.chg c x.sb, mp := x.mp.chg c x.mbb, os := Off.nil _, om := Off.nil _ }
theorem DFr.toNil {h h' : Heap} {F : List Nat} {wv : V} (c : Chg F h h') : DFr h h' F wv (.slice none 0 0) := ⟨c.size, fun x o q1 q2 _ => c.keep x o q2 q1, fun _ _ _ => Off.nil _⟩
section
variable {C : Cfg} (S : StdX C)
include S
theorem fd_take (hSm : ∀ f args h v h', C.S f args h = some (some (v, h')) → HM h h') {hB h8 h : Heap} {m s mb b b0 b1 p3 p4 p5 p9 k : Nat} {wv8 : V} {e : List (Nat × V)} {D : Dv} {X : XS} {key ld : List Nat} (hw0 : Wf hB) (w8 : Wf h8) (ro : Ro hB) (hm : hB.size ≤ m) (E : FdE h8 e m s mb b b0 b1 wv8 p3 p4 p5 p9 key ld k) (J : FdJ hB h8 m s mb b b0 b1 wv8 e D X h)
    (a : Int) (ha0 : 0 ≤ a) (ha : a < D.s1.length) (hk : X.f + 8 * k < D.s1.length) (hz : D.s1.length ≤ 1000) (hl : D.l1 = false) (hws : D.ws.length ≤ 900) (hok : WsOk D) (hn : X.n ≤ 1000) (hq : 0 ≤ X.seq ∧ X.seq ≤ 100000000000) (hby : ∀ p ∈ X.A, p.2.byt) (hkb : Byt key) (hll : ld.length ≤ 1024) :
    Yld C (m + 1) [iv X.hand, iv a] h fun r h' => r = .bool true ∧ FdJ hB h8 m s mb b b0 b1 wv8 e (fdD D X k key ld a) (fdX X key ld a) h' := by
  obtain ⟨nt, tm, hg, hs⟩ := J.lp
  obtain ⟨wv, d, x0, fr⟩ := J.st
  have om := fr.off _ E.lm E.om
  have lp3 := E.c3.lt w8
  have lp4 := E.c4.lt w8
  have lp5 := E.c5.lt w8
  have lp9 := E.c9.lt w8
  refine Yld.body hg hs rfl ?_
  refine WC.seqO (omv rfl (WO.nil (WC.ops (omv rfl (WO.nil ⟨rfl, rfl, ?_⟩)))))
  obtain ⟨gB, d1, x1, f1⟩ := FdJ.fin hw0 w8 hm J.gr d x0 fr E.nm om hg (.loop .busy none nt tm [50, 51] fdAsg fdBody)
  have bz : (h.put (m + 1) (.loop .busy none nt tm [50, 51] fdAsg fdBody)).get (m + 1) = some (.loop .busy none nt tm [50, 51] fdAsg fdBody) := by rw [get_put, if_pos rfl]
  have sz1 := f1.size
  generalize h.put (m + 1) (.loop .busy none nt tm [50, 51] fdAsg fdBody) = h1 at *
  have w1 := gB.wf
  have L3 := f1.chg E.c3 E.n3 E.o3
  have L4 := f1.chg E.c4 E.n4 E.o4
  have L5 := f1.chg E.c5 E.n5 E.o5
  have L9 := f1.chg E.c9 E.n9 E.o9
  have O3 := f1.off _ lp3 E.o3
  have O4 := f1.off _ lp4 E.o4
  have O5 := f1.off _ lp5 E.o5
  have O9 := f1.off _ lp9 E.o9
  have N3 : p3 ∉ [s, mb, b, b0, b1] := fun q => E.n3 (by simp only [List.mem_cons, List.not_mem_nil, or_false] at q ⊢; omega)
  have N4 : p4 ∉ [s, mb, b, b0, b1] := fun q => E.n4 (by simp only [List.mem_cons, List.not_mem_nil, or_false] at q ⊢; omega)
  have N5 : p5 ∉ [s, mb, b, b0, b1] := fun q => E.n5 (by simp only [List.mem_cons, List.not_mem_nil, or_false] at q ⊢; omega)
  have N9 : p9 ∉ [s, mb, b, b0, b1] := fun q => E.n9 (by simp only [List.mem_cons, List.not_mem_nil, or_false] at q ⊢; omega)
  refine WC.block (WC.seq (WC.seqO ?_))
  refine omv rfl <| old E.e3 (L3.rd (i := 0) rfl) <| onk rfl <| ofa rfl <| old rfl (x1.cs.rd (i := 5) rfl) <| obn rfl rfl (neF rfl) <| WO.nil <| WC.cond rfl (fun hc => by cases hc) (fun hc => WC.skip (WC.seqO ?_))
  -- the old entry is struck
  obtain ⟨h2, u1, u2, u3, u4⟩ := x1.mp.del w1 X.hand
  refine old E.e3 (L3.rd (i := 0) rfl) <| onk rfl <| ofa rfl <| old rfl (x1.cs.rd (i := 3) rfl) <| omv rfl <| WO.op (StepK.mapDel rfl rfl u1) <| WO.nil (WC.seqO ?_)
  have gB2 := u3.newGrow gB hw0 (fun x hx => by obtain rfl := List.mem_singleton.1 hx; exact x1.nm)
  have d2 := d1.chg u3 (fun y hy => by obtain rfl := List.mem_singleton.1 hy; exact ⟨x1.mbb, x1.om⟩)
  have x2 : XAt hB.size h2 s mb b b0 b1 _ { X with A := fdA1 X } := { x1 with cs := x1.cs.chg u3 (by simpa using x1.sm), mp := u2 }
  have F2 : DFr h1 h2 [s, mb, b, b0, b1] wv wv := (DFr.ofChg u3).mono (by simp)
  have L3' := F2.chg L3 N3 O3
  have L9' := F2.chg L9 N9 O9
  -- tell
  have hby1 : ∀ p ∈ fdA1 X, p.2.byt := fun p hp => hby p (mem_delI hp)
  refine old E.e3 (L3'.rd (i := 0) rfl) <| old E.e9 (L9'.rd (i := 0) rfl) ?_
  refine WO.call rfl rfl (tell_ans S hSm hB h2 hw0 gB2 ro s mb b b0 b1 _ D { X with A := fdA1 X } d2 x2 k hk hz hl (by omega) hn ⟨by show 0 ≤ X.seq; omega, by show X.seq ≤ _; omega⟩ hby1) ?_
  rintro _ h3 ⟨gB3, wv3, d3, x3, f3⟩
  have F3 := F2.trans w1 (f3.mono (G := [s, mb, b, b0, b1]) (by simp))
  have d3 : DevAt hB.size h3 b b0 b1 wv3 (fdD1 D X k) := d3
  refine WO.nil (WC.seqO ?_)
  -- Flush
  refine old E.e3 ((F3.chg L3 N3 O3).rd (i := 0) rfl) <| onk rfl <| ofa rfl <| old rfl (x3.cs.rd (i := 0) rfl) ?_
  have ok1 : WsOk (fdD1 D X k) := hok.w (by omega) (by omega)
  have hw1 : (fdD1 D X k).ws.length ≤ 1000 := by show (D.ws ++ [_]).length ≤ _; rw [List.length_append]; simp; omega
  refine WO.call rfl rfl (dflush_ans S.toStdO hSm hB.size h3 gB3.wf b b0 b1 wv3 _ d3 ok1 (by omega)) ?_
  rintro _ h4 ⟨rfl, c4, d4⟩
  have x4 := x3.nil c4
  have F4 := F3.trans w1 ((DFr.toNil (wv := wv3) c4).mono (G := [s, mb, b, b0, b1]) (by simp))
  have gB4 := c4.newGrow gB3 hw0 (fun x hx => by simp only [List.mem_cons, List.not_mem_nil, or_false] at hx; rcases hx with rfl | rfl | rfl <;> first | exact d3.nb | exact d3.n0 | exact d3.n1)
  obtain ⟨k1, k2, k3, k4, k5⟩ := fl_alk (fdD1 D X k) fun _ => true
  have k2 : (fdD1 D X k).fl.s1.length = D.s1.length := k2
  have k4 : (fdD1 D X k).fl.l1 = false := k4.trans hl
  have k5 : (fdD1 D X k).fl.ws = [] := k5
  have d4 : DevAt hB.size h4 b b0 b1 (.slice none 0 0) (fdD1 D X k).fl := d4
  refine WO.nil (WC.seqD ?_)
  -- the text
  have hmay : (fdD1 D X k).fl.may 1 a ld.length = 0 := may_ok ha0 (by omega) hll k4
  refine WD.load1 E.e3 ((F4.chg L3 N3 O3).rd (i := 0) rfl) <| dnk rfl <| dfa rfl <| WD.load1 rfl (x4.cs.rd (i := 0) rfl) <| dmv rfl <| dbu rfl rfl <| WD.load1 E.e5 ((F4.chg L5 N5 O5).rd (i := 0) rfl) ?_
  refine WD.call ⟨(F4.chg L5 N5 O5).rd (i := 0) rfl, x4.cs.rd (i := 0) rfl, (F4.chg L3 N3 O3).rd (i := 0) rfl, trivial⟩ rfl rfl (write_ok S.toStdO hB h4 hw0 gB4 b b0 b1 _ _ d4 1 a ld hmay (by rw [k5]; simp)) ?_
  rintro _ h5 ⟨rfl, gB5, wv5, d5, f5⟩
  have d5 : DevAt hB.size h5 b b0 b1 wv5 (fdD2 D X k ld a) := d5
  have F5 := F4.trans w1 (f5.mono (G := [s, mb, b, b0, b1]) (by simp))
  have x5 : XAt hB.size h5 s mb b b0 b1 wv5 { X with A := fdA1 X, seq := X.seq + 1 } :=
    { x4 with cs := f5.chg x4.cs (fun q => x4.sb (by simp at q; simp [q])) x4.os, mp := f5.mp x4.mp (fun q => x4.mbb (by simp at q; simp [q])) x4.om, os := f5.off _ (x4.lt gB4.wf).1 x4.os, om := f5.off _ (x4.lt gB4.wf).2 x4.om }
  refine WD.nil trivial (WC.seqO ?_)
  -- Flush
  refine old E.e3 ((F5.chg L3 N3 O3).rd (i := 0) rfl) <| onk rfl <| ofa rfl <| old rfl (x5.cs.rd (i := 0) rfl) ?_
  have ok2 : WsOk (fdD2 D X k ld a) := (WsOk.nil k5).w ha0 (by omega)
  have hw2 : (fdD2 D X k ld a).ws.length ≤ 1000 := by show ((fdD1 D X k).fl.ws ++ [_]).length ≤ _; rw [k5]; simp
  refine WO.call rfl rfl (dflush_ans S.toStdO hSm hB.size h5 gB5.wf b b0 b1 wv5 _ d5 ok2 (by omega)) ?_
  rintro _ h6 ⟨rfl, c6, d6⟩
  have x6 := x5.nil c6
  have F6 := F5.trans w1 ((DFr.toNil (wv := wv5) c6).mono (G := [s, mb, b, b0, b1]) (by simp))
  have gB6 := c6.newGrow gB5 hw0 (fun x hx => by simp only [List.mem_cons, List.not_mem_nil, or_false] at hx; rcases hx with rfl | rfl | rfl <;> first | exact d3.nb | exact d3.n0 | exact d3.n1)
  obtain ⟨j1, j2, j3, j4, j5⟩ := fl_alk (fdD2 D X k ld a) fun _ => true
  have j2 : (fdD2 D X k ld a).fl.s1.length = D.s1.length := j2.trans k2
  have j4 : (fdD2 D X k ld a).fl.l1 = false := j4.trans k4
  have j5 : (fdD2 D X k ld a).fl.ws = [] := j5
  have d6 : DevAt hB.size h6 b b0 b1 (.slice none 0 0) (fdD2 D X k ld a).fl := d6
  refine WO.nil (WC.seqD ?_)
  -- the entry
  have M3 := (F6.chg L3 N3 O3).rd (i := 0) rfl
  have M4 := (F6.chg L4 N4 O4).rd (i := 0) rfl
  have M5 := (F6.chg L5 N5 O5).rd (i := 0) rfl
  have M6 := x6.cs.rd (i := 3) rfl
  refine WD.load1 E.e3 M3 <| dnk rfl <| dfa rfl <| WD.load1 rfl M6 <| dmv rfl <| WD.load1 E.e4 M4 <| WD.load1 E.e5 M5 <| WD.load1 E.e5 M5 <| dlt rfl <| dmv rfl ?_
  refine WD.call ⟨M5, M5, M4, M6, M3, trivial⟩ rfl rfl (Ans.sum (R := fun v h' => v = .str (ofF ld) ∧ h' = h6) (S.of h6 ld (by omega) (ro.grow gB6)) ⟨rfl, rfl⟩) ?_
  rintro _ _ ⟨rfl, rfl⟩
  refine dbu rfl rfl ?_
  obtain ⟨h7, t1, t2, t3, t4⟩ := x6.mp.upd gB6.wf X.hand (fdEnt key ld a)
  refine WD.opC (by repeat (first | exact trivial | refine ⟨by with_reducible assumption, ?_⟩)) rfl (StepK.mapUpd rfl rfl rfl t1) ?_
  have gB7 := t3.newGrow gB6 hw0 (fun x hx => by obtain rfl := List.mem_singleton.1 hx; exact x6.nm)
  have d7 := d6.chg t3 (fun y hy => by obtain rfl := List.mem_singleton.1 hy; exact ⟨x6.mbb, x6.om⟩)
  have x7 : XAt hB.size h7 s mb b b0 b1 _ { X with A := fdA2 X key ld a, seq := X.seq + 1 } := { x6 with cs := x6.cs.chg t3 (by simpa using x6.sm), mp := t2 }
  have F7 := F6.trans w1 ((DFr.ofChg (wv := .slice none 0 0) t3).mono (G := [s, mb, b, b0, b1]) (by simp))
  refine WD.nil trivial (WC.ops ?_)
  -- tell
  have hby2 : ∀ p ∈ fdA2 X key ld a, p.2.byt := fun p hp => by
    rcases mem_updI hp with rfl | q
    · exact ⟨hkb, ofF_byt ld⟩
    · exact hby1 p q
  refine old E.e3 ((F7.chg L3 N3 O3).rd (i := 0) rfl) <| old E.e9 ((F7.chg L9 N9 O9).rd (i := 0) rfl) ?_
  refine WO.call rfl rfl (tell_ans S hSm hB h7 hw0 gB7 ro s mb b b0 b1 _ _ { X with A := fdA2 X key ld a, seq := X.seq + 1 } d7 x7 k (by show X.f + 8 * k < _; omega) (by omega) j4 (by rw [j5]; simp) hn ⟨by show 0 ≤ X.seq + 1; omega, by show X.seq + 1 ≤ _; omega⟩ hby2) ?_
  rintro _ h8' ⟨gB8, wv9, d9, x9, f9⟩
  have F9 := F7.trans w1 (f9.mono (G := [s, mb, b, b0, b1]) (by simp))
  have om1 : Off wv9 (m + 1) := F9.off _ (by have := E.lm; omega) (f1.off _ E.lm E.om)
  have bz9 : h8'.get (m + 1) = _ := F9.keep _ _ bz E.nm (f1.off _ E.lm E.om)
  refine WO.nil ⟨bz9, rfl, ?_⟩
  have d9 : DevAt hB.size h8' b b0 b1 wv9 (fdD D X k key ld a) := by
    have e : X.seq + 1 + 1 = X.seq + 2 := by omega
    have d9 := d9
    simp only [e] at d9
    exact d9
  have x9 : XAt hB.size h8' s mb b b0 b1 wv9 (fdX X key ld a) := by
    have e : X.seq + 1 + 1 = X.seq + 2 := by omega
    have x9 := x9
    simp only [e] at x9
    exact x9
  have f8 := f1.trans w8 (F9.mono (G := [s, mb, b, b0, b1, m + 1]) (by simp only [List.mem_cons, List.not_mem_nil, or_false]; omega))
  obtain ⟨g2, d2', x2', f2'⟩ := FdJ.fin hw0 w8 hm gB8 d9 x9 f8 E.nm om1 bz9 (.loop .ready none nt tm [50, 51] fdAsg fdBody)
  exact ⟨g2, ⟨wv9, d2', x2', f2'⟩, nt, tm, by rw [get_put, if_pos rfl], hs⟩
end
end Abs
end Go.Proofs.YtlgbdjlnbnlphaaGreatDoor
namespace Go.Proofs.YtlgbdjlnbnlphaaGreatDoor
namespace Abs
set_option linter.unusedVariables false
set_option linter.unusedSimpArgs false
open Go.RowKit
attribute [local irreducible] WO WC WD StepK Ans Does Runs DoesD

theorem FdJ.grow {hB h8 h h' : Heap} {m s mb b b0 b1 : Nat} {wv8 : V} {e : List (Nat × V)} {D : Dv} {X : XS} (w8 : Wf h8) (j : FdJ hB h8 m s mb b b0 b1 wv8 e D X h) (g : Grow h h') : FdJ hB h8 m s mb b b0 b1 wv8 e D X h' := by
  obtain ⟨wv, d, x, fr⟩ := j.st
  obtain ⟨nt, tm, q1, q2⟩ := j.lp
  exact ⟨j.gr.trans g, ⟨wv, d.grow g, x.grow g, fr.trans w8 (DFr.ofChg (g.chg _))⟩, nt, tm, g.ext _ _ q1, q2⟩
theorem FdE.of {h8 : Heap} {e : List (Nat × V)} {m s mb b b0 b1 : Nat} {wv8 : V} {p3 p4 p5 p9 : Nat} {key ld : List Nat} {k bb : Nat} {ps : List Nat} {asg body : AC} (_ : LoopAt h8 bb e ps asg body)
    (e3 : Env.get e 3 = some (.ptr (some (p3, 0)))) (e4 : Env.get e 4 = some (.ptr (some (p4, 0)))) (e5 : Env.get e 5 = some (.ptr (some (p5, 0)))) (e9 : Env.get e 9 = some (.ptr (some (p9, 0))))
    (r : FdE h8 [(3, .ptr (some (p3, 0))), (4, .ptr (some (p4, 0))), (5, .ptr (some (p5, 0))), (9, .ptr (some (p9, 0)))] m s mb b b0 b1 wv8 p3 p4 p5 p9 key ld k) : FdE h8 e m s mb b b0 b1 wv8 p3 p4 p5 p9 key ld k :=
  { r with e3 := e3, e4 := e4, e5 := e5, e9 := e9 }
def fdSt (D : Dv) (X : XS) (k : Nat) (key ld : List Nat) (a : Int) (t : Bool) : Dv × XS := if t then (fdD D X k key ld a, fdX X key ld a) else (D, X)
def fdXn (X : XS) (key ld : List Nat) (a : Int) (hd : Nat) : XS := { fdX X key ld a with hand := (((hd + 1) % roomN X.n : Nat) : Int) }
def fdBad (key ld : List Nat) (l1 : Bool) : Prop := key = [] ∨ 60 < key.length ∨ 960 < ld.length ∨ l1 = true
section
variable {C : Cfg} (S : StdX C)
include S
theorem fd_feeds (hSm : ∀ f args h v h', C.S f args h = some (some (v, h')) → HM h h') {hB h8 : Heap} {m s mb b b0 b1 p3 p4 p5 p9 k : Nat} {wv8 : V} {e : List (Nat × V)} {D : Dv} {X : XS} {key ld : List Nat} (hw0 : Wf hB) (w8 : Wf h8) (ro : Ro hB) (hm : hB.size ≤ m) (E : FdE h8 e m s mb b b0 b1 wv8 p3 p4 p5 p9 key ld k) (J : FdJ hB h8 m s mb b b0 b1 wv8 e D X h8)
    (n hd : Nat) (hh : X.hand = hd) (h7 : 7 * k ≤ hd) (hsz : X.f + 8 * k + 1 + n ≤ D.s1.length) (hz : D.s1.length ≤ 1000) (hl : D.l1 = false) (hws : D.ws.length ≤ 900) (hok : WsOk D) (hn : X.n ≤ 1000) (hq : 0 ≤ X.seq ∧ X.seq ≤ 100000000000) (hby : ∀ p ∈ X.A, p.2.byt) (hkb : Byt key) (hll : ld.length ≤ 1024) :
    Feeds C h8 (m + 1) n (fun i => [iv ((7 * k + i : Nat) : Int), iv ((X.f + 8 * k + 1 + i : Nat) : Int)])
      (fun i h' => FdJ hB h8 m s mb b b0 b1 wv8 e (fdSt D X k key ld ((X.f + 8 * k + 1 + (hd - 7 * k) : Nat) : Int) (decide (hd < 7 * k + i))).1 (fdSt D X k key ld ((X.f + 8 * k + 1 + (hd - 7 * k) : Nat) : Int) (decide (hd < 7 * k + i))).2 h') (fun _ => False) := by
  refine ⟨?_, ?_, ?_, ?_, ?_, ?_, ?_⟩
  · rw [show decide (hd < 7 * k + 0) = false from decide_eq_false (by omega)]
    exact J
  · intro i hi h' j
    by_cases ht : hd = 7 * k + i
    · have e1 : decide (hd < 7 * k + i) = false := decide_eq_false (by omega)
      have e2 : decide (hd < 7 * k + (i + 1)) = true := decide_eq_true (by omega)
      rw [e1] at j
      have e3 : hd - 7 * k = i := by omega
      rw [e3] at j ⊢
      have hx : ((7 * k + i : Nat) : Int) = X.hand := by rw [hh, ht]
      rw [hx]
      obtain ⟨r, h2, q1, q2, q3⟩ := fd_take S hSm hw0 w8 ro hm E j ((X.f + 8 * k + 1 + i : Nat) : Int) (by omega) (by show ((X.f + 8 * k + 1 + i : Nat) : Int) < D.s1.length; omega) (by show X.f + 8 * k < D.s1.length; omega) hz hl hws hok hn hq hby hkb hll
      refine ⟨r, h2, q1, .inl ⟨q2, ?_⟩⟩
      rw [e2]
      exact q3
    · have e0 : decide (hd < 7 * k + (i + 1)) = decide (hd < 7 * k + i) := decide_eq_decide.2 (by omega)
      rw [e0]
      have hX : (fdSt D X k key ld ((X.f + 8 * k + 1 + (hd - 7 * k) : Nat) : Int) (decide (hd < 7 * k + i))).2.hand = X.hand := by
        unfold fdSt; split <;> rfl
      obtain ⟨r, h2, q1, q2, q3⟩ := fd_skip S hw0 w8 hm E j ((7 * k + i : Nat) : Int) ((X.f + 8 * k + 1 + i : Nat) : Int) (by rw [hX, hh]; omega)
      exact ⟨r, h2, q1, .inl ⟨q2, q3⟩⟩
  · exact fun i h1 h2 j g => j.grow w8 g
  · exact fun i h1 n j => j.grow w8 ((Grow.refl j.gr.wf).low1 n)
  · exact fun h1 n q => q
  · intro i h1 j hl'
    cases ht : decide (hd < 7 * k + i) with
    | false => exact J
    | true =>
      exfalso
      rw [ht] at j
      obtain ⟨wv, d, x, fr⟩ := j.st
      obtain ⟨wv', d', x', fr'⟩ := J.st
      have := (x.cs.of_get (hl' s (x'.lt w8).1)).inj x'.cs
      simp [iv, fdSt, fdX] at this
      omega
  · exact fun h1 q _ => q
theorem feed_ans (hSm : ∀ f args h v h', C.S f args h = some (some (v, h')) → HM h h') (hB h : Heap) (hw0 : Wf hB) (gB : Grow hB h) (ro : Ro hB) (s mb b b0 b1 : Nat) (wv : V) (D : Dv) (X : XS) (d : DevAt hB.size h b b0 b1 wv D) (x : XAt hB.size h s mb b b0 b1 wv X) (key ld : List Nat)
    (hd : Nat) (hh : X.hand = hd) (hhr : hd < roomN X.n) (hfn : X.f + X.n ≤ D.s1.length) (hz : D.s1.length ≤ 1000) (hws : D.ws.length ≤ 900) (hok : WsOk D) (hq : 0 ≤ X.seq ∧ X.seq ≤ 100000000000) (hby : ∀ p ∈ X.A, p.2.byt) (hkb : Byt key)
    (hi : ∀ k ∈ X.A.map (·.1), -9223372036854775808 ≤ k ∧ k ≤ 9223372036854775807) (hA : X.A.length ≤ 1000000) :
    Ans C 8 [.ptr (some (s, 0)), .str key, .str ld] h fun r h' =>
      (fdBad key ld D.l1 ∧ r = .bool false ∧ Grow h h') ∨ (¬ fdBad key ld D.l1 ∧ findX X.A key ≠ none ∧ r = .bool true ∧ Grow h h') ∨
      (¬ fdBad key ld D.l1 ∧ findX X.A key = none ∧ r = .bool true ∧ Grow hB h' ∧ ∃ wv', DevAt hB.size h' b b0 b1 wv' (fdD D X (hd / 7) key ld ((X.f + 8 * (hd / 7) + 1 + (hd - 7 * (hd / 7)) : Nat) : Int)) ∧
        XAt hB.size h' s mb b b0 b1 wv' (fdXn X key ld ((X.f + 8 * (hd / 7) + 1 + (hd - 7 * (hd / 7)) : Nat) : Int) hd)) := by
  have hw := gB.wf
  obtain ⟨ls, lm⟩ := x.lt hw
  obtain ⟨lb, lb0, lb1⟩ := d.lt hw
  have nb1 : hB.size ≤ h.size := gB.size
  have hF : C.F 8 = some a8 := S.f rfl
  unfold a8 at hF
  refine Ans.rngL hSm (S.s _ _ _ rfl) hF rfl (by decide) ?_
  clear hF
  have g2 : Grow h { h with low := h.size } := (Grow.refl hw).low1 _
  have z2 : ({ h with low := h.size } : Heap).size = h.size := rfl
  generalize { h with low := h.size } = h2 at *
  refine WX.seqP (WC.ops (WO.ops (StepK.box rfl) ?_))
  have c3 : Cl (h2.push (.cells [.ptr (some (s, 0))] (.tip [] 0 none))) h2.size [.ptr (some (s, 0))] := Cl.new _ _ _
  have g3 := g2.push (.cells [.ptr (some (s, 0))] (.tip [] 0 none))
  have z3 : (h2.push (.cells [.ptr (some (s, 0))] (.tip [] 0 none))).size = h2.size + 1 := rfl
  change WO C _ _ (h2.push (.cells [.ptr (some (s, 0))] (.tip [] 0 none))) _
  generalize h2.push (.cells [.ptr (some (s, 0))] (.tip [] 0 none)) = h3 at *
  generalize h2.size = p3 at *
  refine WO.ops (StepK.box rfl) ?_
  have gp := (Grow.refl g3.wf).push (.cells [.str key] (.tip [] 0 none))
  have c4 : Cl (h3.push (.cells [.str key] (.tip [] 0 none))) h3.size [.str key] := Cl.new _ _ _
  have g4 := g3.trans gp
  replace c3 := c3.grow gp
  have z4 : (h3.push (.cells [.str key] (.tip [] 0 none))).size = h3.size + 1 := rfl
  change WO C _ _ (h3.push (.cells [.str key] (.tip [] 0 none))) _
  clear gp
  generalize h3.push (.cells [.str key] (.tip [] 0 none)) = h4 at *
  generalize h3.size = p4 at *
  refine WO.ops (StepK.box rfl) ?_
  have gp := (Grow.refl g4.wf).push (.cells [.str ld] (.tip [] 0 none))
  have c5 : Cl (h4.push (.cells [.str ld] (.tip [] 0 none))) h4.size [.str ld] := Cl.new _ _ _
  have g5 := g4.trans gp
  replace c3 := c3.grow gp
  replace c4 := c4.grow gp
  have z5 : (h4.push (.cells [.str ld] (.tip [] 0 none))).size = h4.size + 1 := rfl
  change WO C _ _ (h4.push (.cells [.str ld] (.tip [] 0 none))) _
  clear gp
  generalize h4.push (.cells [.str ld] (.tip [] 0 none)) = h5 at *
  generalize h4.size = p5 at *
  have out : ∀ (e' : List (Nat × V)) (h' : Heap) (t : Bool), Env.get e' 6 = some (.bool t) → Grow h h' → ((fdBad key ld D.l1 ∧ t = false) ∨ (¬ fdBad key ld D.l1 ∧ findX X.A key ≠ none ∧ t = true)) →
      (∀ id, Ex.ret ≠ .exit id) ∧ ∃ h2, runMarks [] h' = some h2 ∧ ∃ vs, ressE e' h2 [.tmp 6] = some vs ∧
        ((fdBad key ld D.l1 ∧ oneOf vs = .bool false ∧ Grow h { h2 with low := min h.low h2.low }) ∨ (¬ fdBad key ld D.l1 ∧ findX X.A key ≠ none ∧ oneOf vs = .bool true ∧ Grow h { h2 with low := min h.low h2.low }) ∨ 
          (¬ fdBad key ld D.l1 ∧ findX X.A key = none ∧ oneOf vs = .bool true ∧ Grow hB { h2 with low := min h.low h2.low } ∧ ∃ wv', DevAt hB.size { h2 with low := min h.low h2.low } b b0 b1 wv' (fdD D X (hd / 7) key ld ((X.f + 8 * (hd / 7) + 1 + (hd - 7 * (hd / 7)) : Nat) : Int)) ∧
            XAt hB.size { h2 with low := min h.low h2.low } s mb b b0 b1 wv' (fdXn X key ld ((X.f + 8 * (hd / 7) + 1 + (hd - 7 * (hd / 7)) : Nat) : Int) hd))) ∧
        ((∀ b, b < h.size → h2.get b = h.get b) → (oneOf vs).scopd h.size = true → ((fdBad key ld D.l1 ∧ oneOf vs = .bool false ∧ Grow h h) ∨ (¬ fdBad key ld D.l1 ∧ findX X.A key ≠ none ∧ oneOf vs = .bool true ∧ Grow h h) ∨ 
          (¬ fdBad key ld D.l1 ∧ findX X.A key = none ∧ oneOf vs = .bool true ∧ Grow hB h ∧ ∃ wv', DevAt hB.size h b b0 b1 wv' (fdD D X (hd / 7) key ld ((X.f + 8 * (hd / 7) + 1 + (hd - 7 * (hd / 7)) : Nat) : Int)) ∧
            XAt hB.size h s mb b b0 b1 wv' (fdXn X key ld ((X.f + 8 * (hd / 7) + 1 + (hd - 7 * (hd / 7)) : Nat) : Int) hd)))) := by
    intro e' h' t he g ht
    refine ⟨fun id hc => Ex.noConfusion hc, h', rfl, [.bool t], by simp only [ressE, resE, he], ?_, fun _ _ => ?_⟩
    · rcases ht with ⟨q1, rfl⟩ | ⟨q1, q2, rfl⟩
      · exact .inl ⟨q1, rfl, g.low1 _⟩
      · exact .inr (.inl ⟨q1, q2, rfl, g.low1 _⟩)
    · rcases ht with ⟨q1, rfl⟩ | ⟨q1, q2, rfl⟩
      · exact .inl ⟨q1, rfl, Grow.refl hw⟩
      · exact .inr (.inl ⟨q1, q2, rfl, Grow.refl hw⟩)
  have r3 := c3.rd (i := 0) rfl
  have r4 := c4.rd (i := 0) rfl
  have r5 := c5.rd (i := 0) rfl
  have xs5 := x.cs.grow g5
  refine omv rfl (WO.nil (ThenX.on (WX.seqP (WC.seqO ?_))))
  refine old rfl r3 <| oeq rfl rfl (t := false) rfl <| omv rfl <| WO.run rfl <| old rfl r4 <| WO.run rfl ?_
  by_cases b1' : key = []
  · refine obn rfl rfl (strEqT b1') ?_
    (repeat (first | refine omv rfl ?_ | refine ols rfl (by first | with_reducible assumption | rfl) ?_ | refine ofa rfl ?_ | refine oad rfl rfl (by omega) ?_ | refine osb rfl rfl (by omega) ?_ | refine obn rfl rfl rfl ?_ | refine opt rfl rfl ?_ | refine opf rfl rfl ?_ | refine ont rfl ?_ | refine oeq rfl rfl rfl ?_ | refine oex rfl rfl ?_ | refine obu rfl rfl ?_ | refine ofd rfl rfl ?_ | refine olt rfl ?_ | refine onk rfl ?_ | refine old rfl (by first | with_reducible assumption | rfl) ?_ | refine WO.run rfl ?_ | refine WO.skip rfl rfl ?_ | refine WO.skipu rfl ?_))
    exact WO.nil (WC.cond rfl (fun hc => WC.seqO (omv rfl (WO.nil (WC.ret (out _ _ false rfl g5 (.inl ⟨.inl b1', rfl⟩)))))) (fun hc => by cases hc))
  refine obn rfl rfl (strEqF b1') <| opf rfl rfl <| omv rfl <| WO.run rfl <| old rfl r4 <| WO.run rfl <| olt rfl <| WO.run rfl ?_
  by_cases b2' : (60 : Int) < key.length
  · refine obn rfl rfl (gtT b2') ?_
    (repeat (first | refine omv rfl ?_ | refine ols rfl (by first | with_reducible assumption | rfl) ?_ | refine ofa rfl ?_ | refine oad rfl rfl (by omega) ?_ | refine osb rfl rfl (by omega) ?_ | refine obn rfl rfl rfl ?_ | refine opt rfl rfl ?_ | refine opf rfl rfl ?_ | refine ont rfl ?_ | refine oeq rfl rfl rfl ?_ | refine oex rfl rfl ?_ | refine obu rfl rfl ?_ | refine ofd rfl rfl ?_ | refine olt rfl ?_ | refine onk rfl ?_ | refine old rfl (by first | with_reducible assumption | rfl) ?_ | refine WO.run rfl ?_ | refine WO.skip rfl rfl ?_ | refine WO.skipu rfl ?_))
    exact WO.nil (WC.cond rfl (fun hc => WC.seqO (omv rfl (WO.nil (WC.ret (out _ _ false rfl g5 (.inl ⟨.inr (.inl (by omega)), rfl⟩)))))) (fun hc => by cases hc))
  refine obn rfl rfl (gtF b2') <| opf rfl rfl <| omv rfl <| WO.run rfl <| old rfl r5 <| WO.run rfl <| olt rfl <| WO.run rfl ?_
  by_cases b3' : (960 : Int) < ld.length
  · refine obn rfl rfl (gtT b3') ?_
    (repeat (first | refine omv rfl ?_ | refine ols rfl (by first | with_reducible assumption | rfl) ?_ | refine ofa rfl ?_ | refine oad rfl rfl (by omega) ?_ | refine osb rfl rfl (by omega) ?_ | refine obn rfl rfl rfl ?_ | refine opt rfl rfl ?_ | refine opf rfl rfl ?_ | refine ont rfl ?_ | refine oeq rfl rfl rfl ?_ | refine oex rfl rfl ?_ | refine obu rfl rfl ?_ | refine ofd rfl rfl ?_ | refine olt rfl ?_ | refine onk rfl ?_ | refine old rfl (by first | with_reducible assumption | rfl) ?_ | refine WO.run rfl ?_ | refine WO.skip rfl rfl ?_ | refine WO.skipu rfl ?_))
    exact WO.nil (WC.cond rfl (fun hc => WC.seqO (omv rfl (WO.nil (WC.ret (out _ _ false rfl g5 (.inl ⟨.inr (.inr (.inl (by omega))), rfl⟩)))))) (fun hc => by cases hc))
  refine obn rfl rfl (gtF b3') <| opf rfl rfl <| omv rfl <| WO.run rfl <| old rfl r3 <| WO.run rfl <| onk rfl <| WO.run rfl <| ofa rfl <| WO.run rfl <| old rfl (xs5.rd (i := 0) rfl) <| WO.run rfl ?_
  refine WO.call rfl rfl (lost_ans S.toStdO h5 g5.wf b b0 b1 wv D (Cl.grow d.B g5) 1) ?_
  rintro _ h6 ⟨rfl, g56⟩
  rw [show (isDev 1 && D.l 1) = D.l1 from rfl]
  have g6 := g5.trans g56
  replace c3 := c3.grow g56
  replace c4 := c4.grow g56
  replace c5 := c5.grow g56
  refine opf rfl rfl <| WO.nil ?_
  cases hl : D.l1 with
  | true => exact WC.cond rfl (fun hc => WC.seqO (omv rfl (WO.nil (WC.ret (by rw [hl] at out; exact out _ _ false rfl g6 (.inl ⟨.inr (.inr (.inr rfl)), rfl⟩)))))) (fun hc => by cases hc)
  | false =>
  rw [hl] at out
  have nbad : ¬ fdBad key ld false := by
    rintro (q | q | q | q)
    · exact b1' q
    · omega
    · omega
    · cases q
  refine WC.cond rfl (fun hc => by cases hc) (fun hc => WC.skip (ThenX.on (WX.seqP (WC.seqO ?_))))
  refine old rfl (c3.rd (i := 0) rfl) <| old rfl (c4.rd (i := 0) rfl) ?_
  refine WO.call rfl rfl (xfind_ans S h6 g6.wf s mb X.A key ((x.cs.grow g6).rd (i := 3) rfl) (x.mp.grow g6) hi hA) ?_
  rintro _ h7 ⟨rfl, g67⟩
  have g7 := g6.trans g67
  cases hfx : findX X.A key with
  | some n =>
    rw [hfx] at out
    refine omv rfl <| oex rfl rfl <| oex rfl rfl <| omv rfl <| omv rfl <| WO.nil <| WC.seqO <| omv rfl <| WO.nil <| WC.cond rfl (fun hc => WC.seqO (omv rfl (WO.nil (WC.ret (out _ _ true rfl g7 (.inr ⟨nbad, by simp, rfl⟩)))))) (fun hc => by cases hc)
  | none =>
  clear out
  refine omv rfl <| oex rfl rfl <| oex rfl rfl <| omv rfl <| omv rfl <| WO.nil <| WC.seqO <| omv rfl <| WO.nil <| WC.cond rfl (fun hc => by cases hc) (fun hc => WC.skip (ThenX.on (WX.seqP (WC.ops ?_))))
  replace c3 := c3.grow g67
  replace c4 := c4.grow g67
  replace c5 := c5.grow g67
  have hr5 : h7.rd s (0 + 5) = some (iv hd) := by rw [← hh]; exact (x.cs.grow g7).rd rfl
  have hR : roomN X.n ≤ X.n := by unfold roomN; omega
  refine old rfl (c3.rd (i := 0) rfl) <| onk rfl <| ofa rfl <| old rfl hr5 <| obn rfl rfl (quo_nat hd 7 (by decide) (by omega)) <| WO.ops (StepK.alloc) ?_
  have gp := (Grow.refl g7.wf).push (.cells [iv 0] (.tip [] 0 none))
  have c9 : Cl (h7.push (.cells [iv 0] (.tip [] 0 none))) h7.size [iv 0] := Cl.new _ _ _
  have z8 : (h7.push (.cells [iv 0] (.tip [] 0 none))).size = h7.size + 1 := rfl
  change WO C _ _ (h7.push (.cells [iv 0] (.tip [] 0 none))) _
  generalize h7.push (.cells [iv 0] (.tip [] 0 none)) = h8 at *
  obtain ⟨hC, u1, u2, u3, u4⟩ := c9.set gp.wf (i := 0) (by simp) (v := iv ((hd / 7 : Nat) : Int)) rfl
  have c9' : Cl hC h7.size [iv ((hd / 7 : Nat) : Int)] := u2
  have g7C : Grow h7 hC := u3.newGrow gp g7.wf (fun x hx => by obtain rfl := List.mem_singleton.1 hx; omega)
  have gC := g7.trans g7C
  replace c3 := c3.grow g7C
  replace c4 := c4.grow g7C
  replace c5 := c5.grow g7C
  have l3 := c3.lt gC.wf
  have l9 := c9'.lt gC.wf
  have s56 := g56.size
  have s67 := g67.size
  generalize h7.size = p9 at *
  refine WO.op (StepK.store rfl rfl rfl u1) <| WO.nil (ThenX.on (WX.seq (WX.seqP (WC.ops ?_))))
  refine old rfl (c3.rd (i := 0) rfl) <| old rfl (c9'.rd (i := 0) rfl) ?_
  refine WO.call rfl rfl (sectors_ans S.toStdO hC gC.wf s ((hd / 7 : Nat) : Int)) ?_
  rintro _ hD ⟨p, q, rfl, gCD, cp, cq, lp6, lpq⟩
  have gD := gC.trans gCD
  have lq7 : q < hD.size := cq.lt gCD.wf
  have sCD := gCD.size
  refine WO.nil (ThenX.on (WX.block ?_))
  refine WX.range gD.wf rfl rfl (fun hE gDE zE mE lE sameE _ => ?_)
  have gE := gD.trans gDE
  have gCE := gCD.trans gDE
  have wE := gE.wf
  have gBE := gB.trans gE
  have dE := d.grow gE
  have xE := x.grow gE
  have hoff : ∀ c, h.size ≤ c → Off wv c := fun c hc => d.W.offNew hw hc
  have hk7 : 7 * (hd / 7) ≤ hd := Nat.mul_div_le hd 7
  have hg1 : hd < 7 * (hd / 7) + 7 := by omega
  have E := FdE.of (m := hD.size) (s := s) (mb := mb) (b := b) (b0 := b0) (b1 := b1) (wv8 := wv) (key := key) (ld := ld) (k := hd / 7) lE rfl rfl rfl rfl ⟨rfl, rfl, rfl, rfl, c3.grow gCE, c4.grow gCE, c5.grow gCE, c9'.grow gCE, by simp; omega, by simp; omega, by simp; omega, by simp; omega, by simp; omega,
    hoff _ (by omega), hoff _ (by omega), hoff _ (by omega), hoff _ (by omega), hoff _ (by omega), by omega⟩
  have J0 : FdJ hB hE hD.size s mb b b0 b1 wv _ D X hE := ⟨gBE, ⟨wv, dE, xE, DFr.refl⟩, lE⟩
  have hgs : X.f + 8 * (hd / 7) + 1 + min 7 (roomN X.n - 7 * (hd / 7)) ≤ X.f + X.n := by unfold roomN at *; omega
  have feeds := fd_feeds S hSm hw0 wE ro (by omega) E J0 (min 7 (roomN X.n - 7 * (hd / 7))) hd hh hk7 (by omega) hz hl hws hok (by omega) hq hby hkb (by omega)
  refine (sectors1_ans S.toStdO hSm hE wE (hD.size + 1) p q s (hd / 7) X.f X.n (by omega) (by omega) (by omega) feeds (fun i h' j => ?_)).mono (fun r h9 hr => ?_)
  · obtain ⟨wv', d', x', fr'⟩ := j.st
    have e1 : ∀ t, (fdSt D X (hd / 7) key ld ((X.f + 8 * (hd / 7) + 1 + (hd - 7 * (hd / 7)) : Nat) : Int) t).2.f = X.f ∧ (fdSt D X (hd / 7) key ld ((X.f + 8 * (hd / 7) + 1 + (hd - 7 * (hd / 7)) : Nat) : Int) t).2.n = X.n := by
      intro t; cases t <;> exact ⟨rfl, rfl⟩
    refine ⟨j.gr.wf, (fr'.chg (cq.grow gDE) (by simp; omega) (hoff _ (by omega))).rd rfl, (fr'.chg (cp.grow gDE) (by simp; omega) (hoff _ (by omega))).rd rfl, ?_, ?_⟩
    · rw [← (e1 _).1]; exact x'.cs.rd rfl
    · rw [← (e1 _).2]; exact x'.cs.rd rfl
  clear feeds J0
  rcases hr with j | hr
  rotate_left
  · exact hr.elim
  rw [show decide (hd < 7 * (hd / 7) + min 7 (roomN X.n - 7 * (hd / 7))) = true from decide_eq_true (by omega)] at j
  obtain ⟨nt, tm, hg, hs⟩ := j.lp
  refine ⟨none, ⟨_, _, _, _, _, _, hg, fun hc => by cases hc⟩, ?_⟩
  obtain ⟨wv', d', x', fr'⟩ := j.st
  have om' : Off wv' (hD.size + 1) := fr'.off _ (by omega) (hoff _ (by omega))
  obtain ⟨gB9, d9, x9, f9⟩ := FdJ.fin hw0 wE (by omega) j.gr d' x' fr' (by simp; omega) om' hg .dead
  clear j hg fr' d' x'
  generalize h9.put (hD.size + 1) .dead = hA at *
  have c3A := f9.chg (c3.grow gCE) (by simp; omega) (hoff _ (by omega))
  have mA : hA.get hD.size = some .dfr := f9.keep _ _ mE (by simp; omega) (hoff _ (by omega))
  have wA := gB9.wf
  have lmA : hD.size < hA.size := Wf.lt wA mA
  rw [show exOf none = Ex.normal from rfl]
  unfold AtX
  dsimp only
  refine ThenX.on ?_
  refine WX.plain ?_
  refine WC.seqD ?_
  have q3 := c3A.rd (i := 0) rfl
  have q5 : hA.rd s (0 + 5) = some (iv hd) := by rw [← hh]; exact x9.cs.rd rfl
  have q2 : hA.rd s (0 + 2) = some (iv X.n) := x9.cs.rd rfl
  refine WD.load1 rfl q3 <| WD.load1 rfl q3 <| dnk rfl <| dfa rfl <| WD.load1 rfl q5 <| dad rfl rfl (by omega) <| WD.load1 rfl q3 ?_
  refine WD.call (by repeat (first | exact trivial | refine ⟨by with_reducible assumption, ?_⟩)) rfl rfl (room_ans S.toStdO hA wA s X.n q2 (by omega)) ?_
  rintro _ hG ⟨rfl, gG⟩
  have hc : ((hd : Int) + 1) = ((hd + 1 : Nat) : Int) := by omega
  rw [hc]
  have hr0 : roomN X.n ≠ 0 := by omega
  refine dbn rfl rfl (rem_nat (hd + 1) (roomN X.n) hr0) <| dnk rfl <| dfa rfl ?_
  have xG := x9.grow gG
  have dG := d9.grow gG
  obtain ⟨hH, v1, v2, v3, v4⟩ := xG.cs.set gG.wf (i := 5) (by simp) (v := iv (((hd + 1) % roomN X.n : Nat) : Int)) rfl
  have q3' := gG.rd q3
  have q5' := gG.rd q5
  refine WD.opC (by repeat (first | exact trivial | refine ⟨by with_reducible assumption, ?_⟩)) rfl (StepK.store rfl rfl rfl v1) ?_
  refine WD.nil (by repeat (first | exact trivial | refine ⟨by with_reducible assumption, ?_⟩)) (WC.seqO (omv rfl (WO.nil (WC.ret ?_))))
  have gBG := gB9.trans gG
  have gBH : Grow hB hH := v3.newGrow gBG hw0 (fun y hy => by obtain rfl := List.mem_singleton.1 hy; exact x.ns)
  have mH : hH.get hD.size = some .dfr := v3.keep _ _ (by simp; omega) (gG.ext _ _ mA)
  have lmH : hD.size < hH.size := Wf.lt gBH.wf mH
  have dH := dG.chg v3 (fun y hy => by obtain rfl := List.mem_singleton.1 hy; exact ⟨x.sb, xG.os⟩)
  have cF : Chg [hD.size] hH (hH.put hD.size .dead) := Chg.put gBH.wf lmH _
  have om9 : Off wv' hD.size := f9.off _ (by omega) (hoff _ (by omega))
  have gI : Grow hB (hH.put hD.size .dead) := gBH.put (by omega) lmH hw0 _
  have dI := dH.chg cF (fun y hy => by obtain rfl := List.mem_singleton.1 hy; exact ⟨by simp; omega, om9⟩)
  have xsI := (show Cl hH s _ from v2).chg cF (by simp; omega)
  have mpI := (xG.mp.chg v3 (by simpa using xG.sm.symm)).chg cF (by simp; omega)
  refine ⟨fun id hc => Ex.noConfusion hc, hH.put hD.size .dead, ?_, [.bool true], rfl, .inr (.inr ⟨nbad, rfl, rfl, gI.low1 _, wv', ?_, ?_⟩), fun hcc _ => ?_⟩
  · simp only [runMarks, mH]
  · exact { dI with B := dI.B, S0 := dI.S0, S1 := dI.S1, W := dI.W }
  · exact ⟨xsI, mpI, x.ns, x.nm, x.sm, x.sb, x.mbb, xG.os, xG.om⟩
  · exfalso
    have := (xsI.of_get (hcc s ls)).inj x.cs
    simp [iv, fdSt, fdX] at this
    omega
end
end Abs
end Go.Proofs.YtlgbdjlnbnlphaaGreatDoor
