/- Arguments that are rows of structs with slices in them, as rows that are read. -/
import Derived.Test.YtkijkoakloacoaaGreatDoorAx
namespace Go.Proofs.YtkijkoakloacoaaGreatDoor
open Go
set_option linter.unusedVariables false

theorem rSlice_choose {α β : Type} {s b : Nat} {R : Rdr α} {enc : β → List Value} {p : β → Heap → Prop} (he : ∀ x cs h, R.rel x cs h → ∃ y, cs = enc y ∧ p y h) (hk : ∀ y, (enc y).length = s) {xs : List α} {v : Value} {h : Heap}
    (c : (rSlice s b R).rel xs [v] h) : ∃ ys : List β, ys.length = xs.length ∧ (∀ y ∈ ys, p y h) ∧ Reads s v ys.length (ys.flatMap enc) h := by
  obtain ⟨a, cap, e, l, m, r, k⟩ := c
  simp only [List.cons.injEq, and_true] at e
  subst e
  rcases k with k | ⟨g, o, cur, T, fr, ea, hg, hj⟩
  · subst k
    exact ⟨[], rfl, fun y hy => by simp at hy, by simp, a, cap, rfl, l, .inl rfl⟩
  · obtain ⟨ys, hl, hy⟩ := choose_list (n := xs.length) (p := fun j (y : β) => (cur.toList.drop (o + j * s)).take s = enc y ∧ p y h) fun j hj' => he _ _ _ (hj j hj').2
    refine ⟨ys, hl, fun y hm => ?_, ?_⟩
    · obtain ⟨i, hi, rfl⟩ := List.getElem_of_mem hm
      exact (hy i hi).2
    · refine ⟨flatMap_length hk ys, a, cap, by rw [hl], by omega, .inr ⟨g, o, cur, T, fr, ea, hg, fun t ht => ?_⟩⟩
      rw [flatMap_length hk] at ht
      obtain ⟨i, j, hi, hjs, e, hf⟩ := flatMap_at_all hk ys t ht
      rw [hf, ← (hy i hi).1, e, List.getElem?_take_of_lt hjs, List.getElem?_drop, Array.getElem?_toList]
      congr 1
      omega

/-- A part of an element, as a row. -/
theorem rowV_part {w : World} {b o k lo n : Nat} {cs : List Value} (hk : cs.length = k) (hc : ∀ j, j < k → w.cell? ⟨b, o + j, none⟩ = cs[j]?) (h : lo + n ≤ k) : rowV w ⟨b, o + lo, none⟩ n = some (.agg ((cs.drop lo).take n).toArray) := by
  unfold rowV
  rw [cellsFrom_of w _ n 0 ((cs.drop lo).take n) (by rw [List.length_take, List.length_drop]; omega) fun j hj => by
    rw [Nat.zero_add, add_lit, Nat.add_assoc, hc (lo + j) (by omega), List.getElem?_take_of_lt hj, List.getElem?_drop]]
  rfl

end Go.Proofs.YtkijkoakloacoaaGreatDoor
