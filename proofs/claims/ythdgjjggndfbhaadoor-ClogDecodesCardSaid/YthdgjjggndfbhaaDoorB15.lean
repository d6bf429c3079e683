/- sum.Of answers as the machine's summary says. -/
import Derived.Test.YthdgjjggndfbhaaDoorB6
import Derived.Test.YthdgjjggndfbhaaDoorB11
namespace Go.Proofs.YthdgjjggndfbhaaDoor
namespace Abs
set_option linter.unusedVariables false
set_option linter.unusedSimpArgs false
open Go.RowKit

theorem wordsOf_un : ∀ {H : List Nat}, (∀ x ∈ H, x < 4294967296) → wordsOf (H.map un) = some H
  | [], _ => rfl
  | a :: H, h => by
    have h1 := wordsOf_un (H := H) fun x hx => h x (List.mem_cons_of_mem _ hx)
    have h2 := h a List.mem_cons_self
    simp only [List.map_cons, wordsOf, h1]
    rw [Nat.ble_eq_true_of_le (by omega)]
theorem cfg1_S (f : Nat) (args : List V) (h : Heap) : cfg1.S f args h = sumB f args h := rfl
theorem cfg2_S (f : Nat) (args : List V) (h : Heap) : cfg2.S f args h = sumO f args h := rfl
theorem cfg1_stdL : StdL cfg1 where
  s := cfg1_std.s
  t := cfg1_std.t
  hm := fun f args h v h' hx => (all_sum 0 default f args h v h' hx).1
  bh := fun h H s hH hl hs hr => by
    rw [cfg1_S]
    unfold sumB
    rw [if_pos rfl]
    simp only [wordsOf_un hl]
    rw [if_pos ⟨hH, hs, hr⟩]
  rep := fun h s n hn hm => by
    rw [cfg1_S]
    unfold sumB
    rw [if_neg (by decide)]
    unfold sumLib
    rw [if_neg (by decide), if_pos rfl]
    simp only [repSum]
    rw [if_pos ⟨⟨by omega, by simpa using hn⟩, by omega⟩]
    rfl
  noesc := fun h x => by
    rw [cfg1_S]
    unfold sumB
    rw [if_neg (by decide)]
    unfold sumLib
    rw [if_pos rfl]
theorem cfg1_of (args : List V) (h : Heap) : cfg1.S 26 args h = none := by
  rw [cfg1_S]
  unfold sumB
  rw [if_neg (by decide)]
  unfold sumLib
  rw [if_neg (by decide), if_neg (by decide), if_neg (by decide), if_neg (by decide)]
theorem of_sum (B : Nat) (w0 : World) : SumOk Tryd.prog B w0 cfg2 := by
  intro f args h v h' hx
  replace hx : sumO f args h = some (some (v, h')) := hx
  unfold sumO at hx
  split at hx
  · rename_i hf
    subst hf
    split at hx
    · rename_i s
      split at hx
      · rename_i hc
        cases hx
        refine ⟨HM.refl h, fun ρ w us r hr => ?_⟩
        exact pure_sum cfg1_tab (all_sum B w0) (of_ans cfg1_stdL cfg1_of h r.fresh hc.2 s (Nat.le_of_ble_eq_true hc.1)) rfl r hr
      · cases hx
    · cases hx
  · exact all_sum B w0 f args h v h' hx
theorem cfg2_tab : TableOk Tryd.prog cfg2 := ⟨fun f af h => tab_row f af h, fun f h => by cases h⟩
theorem cfg2_std : StdO cfg2 where
  s := fun f args h hf => by
    rw [cfg2_S]
    unfold sumO
    rw [if_neg (sn_ne hf rfl)]
    exact cfg1_std.s f args h hf
  t := rfl
  hm := fun f args h v h' hx => (of_sum 0 default f args h v h' hx).1
  bh := fun h H s hH hl hs hr => by
    rw [cfg2_S]
    unfold sumO
    rw [if_neg (by decide)]
    exact cfg1_stdL.bh h H s hH hl hs hr
  rep := fun h s n hn hm => by
    rw [cfg2_S]
    unfold sumO
    rw [if_neg (by decide)]
    exact cfg1_stdL.rep h s n hn hm
  noesc := fun h x => by
    rw [cfg2_S]
    unfold sumO
    rw [if_neg (by decide)]
    exact cfg1_stdL.noesc h x
  of := fun h s hs hr => by
    rw [cfg2_S]
    unfold sumO
    rw [if_pos rfl]
    simp only
    rw [if_pos ⟨Nat.ble_eq_true_of_le hs, hr⟩]
end Abs
end Go.Proofs.YthdgjjggndfbhaaDoor
