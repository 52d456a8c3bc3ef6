/- Variables of more cells than one: read and written whole. -/
import Derived.Test.YtonajgmamdeohaaGreatDoorSl2
namespace Go.Proofs.YtonajgmamdeohaaGreatDoor
open Go

theorem cellsFrom_blk {w : World} {b : Nat} {arr : Array Value} {T : TypeId} {fr : Nat × Nat} (h : w.heap[b]? = some (.cells arr T fr)) (o : Nat) : ∀ (n i : Nat), o + i + n ≤ arr.size → cellsFrom w ⟨b, o, none⟩ i n = some ((arr.toList.drop (o + i)).take n)
  | 0, _, _ => by simp [cellsFrom]
  | n + 1, i, hn => by
    have ih := cellsFrom_blk h o n (i + 1) (by omega)
    have hlt : o + i < arr.size := by omega
    simp only [cellsFrom, add_lit, cell_of_heap h, Array.getElem?_eq_getElem hlt, ih]
    have : arr.toList.drop (o + i) = arr[o + i] :: arr.toList.drop (o + (i + 1)) := by
      have := List.drop_eq_getElem_cons (l := arr.toList) (i := o + i) (by simpa using hlt)
      simpa [Nat.add_assoc] using this
    rw [this, List.take_succ_cons]

theorem rowV_blk {w : World} {b : Nat} {arr : Array Value} {T : TypeId} {fr : Nat × Nat} (h : w.heap[b]? = some (.cells arr T fr)) {o n : Nat} (hn : o + n ≤ arr.size) : rowV w ⟨b, o, none⟩ n = some (.agg ((arr.toList.drop o).take n).toArray) := by
  unfold rowV
  have := cellsFrom_blk h o n 0 (by omega)
  rw [this]
  simp

/-- The whole of a block of one's own. -/
theorem St.row {w0 w : World} {b n : Nat} {arr : Array Value} {T : TypeId} {fr : Nat × Nat} {F : HP} (h : St w0 (Blk b (.cells arr T fr) * F) w) (hn : arr.size = n) : rowV w ⟨b, 0, none⟩ n = some (.agg arr) := by
  rw [rowV_blk h.blk (by omega), List.drop_zero, List.take_of_length_le (by simp; omega)]

theorem St.rowAt {w0 w : World} {b o n : Nat} {arr : Array Value} {T : TypeId} {fr : Nat × Nat} {F : HP} (h : St w0 (Blk b (.cells arr T fr) * F) w) (hn : o + n ≤ arr.size) : rowV w ⟨b, o, none⟩ n = some (.agg ((arr.toList.drop o).take n).toArray) := rowV_blk h.blk hn

/-- A row stored into a block of one's own. -/
theorem St.storeRow {w0 w : World} {F : HP} {c off n : Nat} {arr : Array Value} {cs : List Value} {T : TypeId} {K : World → Prop} {θ : Tag K} (h : St w0 (Blk c (.cells arr T (0, 0)) * F) w) (hn : cs.length = n) (hs : off + n ≤ arr.size) (hc : ∀ v ∈ cs, isCell v = true)
    (hK : ∀ w', St w0 (Blk c (.cells (setRowL arr.toList off cs).toArray T (0, 0)) * F) w' → K w') : storeD (some n) (.pointer (some ⟨c, off, none⟩)) (.agg cs.toArray) w K θ := by
  have key : ∀ (l : List Value) (i : Nat) (arr : Array Value) (w : World), (∀ v ∈ l, isCell v = true) → off + i + l.length ≤ arr.size → St w0 (Blk c (.cells arr T (0, 0)) * F) w →
      (∀ w', St w0 (Blk c (.cells (setRowL arr.toList (off + i) l).toArray T (0, 0)) * F) w' → K w') → stD w ⟨c, off, none⟩ K i l := by
    intro l
    induction l with
    | nil => intro i arr w _ _ h hK; exact hK _ (by simpa [setRowL] using h)
    | cons v l ih =>
      intro i arr w hc hs h hK
      simp only [List.length_cons] at hs
      refine ⟨⟨?_, ?_⟩, ?_⟩
      · rw [add_lit, h.cells]; simp; omega
      · rw [add_lit]; exact h.thaw _
      · rw [add_lit]
        refine ih (i + 1) (arr.setIfInBounds (off + i) v) _ (fun u hu => hc u (by simp [hu])) (by simp; omega) (h.setCell (off + i) v) fun w' h' => hK w' ?_
        simpa [setRowL, Nat.add_assoc] using h'
  refine ⟨⟨by simp [Value.cells, hn], by simpa [Value.cells] using hc⟩, ?_⟩
  have := key cs 0 arr w hc (by omega) h (by simpa using hK)
  simpa [Value.cells] using this

theorem setRowL_all {cs : List Value} : ∀ (vs : List Value), vs.length = cs.length → setRowL cs 0 vs = vs := by
  intro vs hv
  have := take_setRowL (vs := vs) (cs := cs) (o := 0) (by omega)
  rw [List.take_zero, List.nil_append, Nat.zero_add] at this
  rw [List.take_of_length_le (by rw [length_setRowL]; omega)] at this
  exact this

/-- A variable of one's own is written over. -/
theorem St.storeAll {w0 w : World} {F : HP} {c n : Nat} {arr : Array Value} {cs : List Value} {T : TypeId} {K : World → Prop} {θ : Tag K} (h : St w0 (Blk c (.cells arr T (0, 0)) * F) w) (hn : cs.length = n) (hs : arr.size = n) (hc : ∀ v ∈ cs, isCell v = true)
    (hK : ∀ w', St w0 (Blk c (.cells cs.toArray T (0, 0)) * F) w' → K w') : storeD (some n) (.pointer (some ⟨c, 0, none⟩)) (.agg cs.toArray) w K θ :=
  h.storeRow hn (by omega) hc fun w' h' => hK w' (by rwa [setRowL_all cs (by simp; omega)] at h')

end Go.Proofs.YtonajgmamdeohaaGreatDoor
