/- Sorts over rows of one's own: the bridge from a sort's contract over its own words (as Srt0, without what needs the number of draws). -/
import Derived.Test.YtkijkoakloacoaaGreatDoorFx
import Derived.Sort.Row
import Derived.Sort.Grow
import Derived.Deep.Draws
namespace Go.Proofs.YtkijkoakloacoaaGreatDoor
open Go Go.Sort Go.RowKit
set_option linter.unusedVariables false

section
variable {β : Type} [Inhabited β] {enc : β → Value}

theorem putCells_row {o : Nat} {d : Array β} {c : Array Value} (h : o + d.size ≤ c.size) : ((putCells enc o d c).toList.drop o).take d.size = d.toList.map enc := by
  apply List.ext_getElem?
  intro i
  by_cases hi : i < d.size
  · rw [List.getElem?_take_of_lt hi, List.getElem?_drop, Array.getElem?_toList, putCells, Array.getElem?_mapIdx, Array.getElem?_eq_getElem (by omega : o + i < c.size), Option.map_some, if_pos (by omega), List.getElem?_map, Array.getElem?_toList, Array.getElem?_eq_getElem hi, Option.map_some,
      show o + i - o = i by omega, getElem!_pos d i hi]
  · rw [List.getElem?_take_eq_none (by omega), List.getElem?_map, Array.getElem?_toList, Array.getElem?_eq_none (by omega)]; rfl

theorem RowO.place {T s : Nat} {v : Value} {n : Nat} {xs : List Value} {F : HP} {w0 w : World} (h : St w0 (RowO T s v n xs * F) w) : (v = .slice none 0 0 ∧ n = 0 ∧ xs = []) ∨ ∃ g o cap cur, v = .slice (some ⟨g, o, none⟩) n cap ∧ w.heap[g]? = some (.cells cur T (0, 0)) ∧ o + cap * s ≤ cur.size ∧ n ≤ cap ∧ (cur.toList.drop o).take (n * s) = xs ∧ xs.length = n * s := by
  obtain ⟨x, l, h1, _, _, l1, _, a, _⟩ := h.sat
  rcases a with a | ⟨g, o, cap, cur, e1, e2, e3, e4, e5, e6, e7⟩
  · exact .inl a
  · exact .inr ⟨g, o, cap, cur, e1, l _ _ (l1 _ _ e2), e5, e3, e6, e7⟩

/-- A row written over, draws, new blocks. -/
theorem St.putRow {T s g o cap n m : Nat} {xs : List Value} {F : HP} {w0 w : World} {d' : Array β} {os : Array Obj} (h : St w0 (RowO T s (.slice (some ⟨g, o, none⟩) n cap) n xs * F) w) (hs : d'.size = xs.length) :
    St w0 (RowO T s (.slice (some ⟨g, o, none⟩) n cap) n (d'.toList.map enc) * F) (grow (Sort.putRow enc (Sort.ahead w m) g o d') os) := by
  have hlen : xs.length = n * s := by
    rcases RowO.place h with ⟨hv, _⟩ | ⟨_, _, _, _, _, _, _, _, _, e⟩
    · cases hv
    · exact e
  have hsz : (grow (Sort.putRow enc (Sort.ahead w m) g o d') os).heap.size = w.heap.size + os.size := by simp [grow, Sort.putRow, mapBlock, Sort.ahead]
  obtain ⟨x, l, h1, h2, dj, l1, l2, a, f⟩ := h.sat
  rcases a with ⟨hv, _⟩ | ⟨g', o', cap', cur, e1, e2, e3, e4, e5, e6, e7⟩
  · cases hv
  simp only [Value.slice.injEq, Option.some.injEq, Addr.mk.injEq, and_true, true_and] at e1
  obtain ⟨⟨rfl, rfl⟩, rfl⟩ := e1
  have hg : w.heap[g]? = some (.cells cur T (0, 0)) := l _ _ (l1 _ _ e2)
  have hgl := (Array.getElem?_eq_some_iff.1 hg).1
  have hk : ∀ k, k < w.heap.size → (grow (Sort.putRow enc (Sort.ahead w m) g o d') os).heap[k]? = if k = g then some (.cells (putCells enc o d' cur) T (0, 0)) else w.heap[k]? := by
    intro k hk
    have hm : (w.heap.modify g (onCells (putCells enc o d'))).size = w.heap.size := by simp
    show (w.heap.modify g (onCells (putCells enc o d')) ++ os)[k]? = _
    rw [Array.getElem?_append_left (by omega), Array.getElem?_modify]
    by_cases hkg : g = k
    · subst hkg
      rw [if_pos rfl, if_pos rfl, hg]
      rfl
    · rw [if_neg hkg, if_neg (fun e => hkg e.symm)]
  have hcs : n * s ≤ cap * s := Nat.mul_le_mul_right s e3
  have hG : Go.Proofs.YtkijkoakloacoaaGreatDoor.RowO T s (.slice (some ⟨g, o, none⟩) n cap) n (d'.toList.map enc) = Go.Proofs.YtkijkoakloacoaaGreatDoor.RowO T s (.slice (some ⟨g, o, none⟩) n cap) n (d'.toList.map enc) := rfl
  -- the row of old, its block alone
  have hself : St w0 (Blk g (.cells cur T (0, 0)) * F) w := by
    refine ⟨h.os, h.tape, h.output, h.drawn, h.size, x, l, fun k => if k = g then some (.cells cur T (0, 0)) else none, h2, fun k => ?_, fun k o' e => ?_, l2, by simp [Blk], f⟩
    · by_cases hkg : k = g
      · subst hkg; exact .inr ((dj k).resolve_left (by rw [e2]; simp))
      · left; simp [hkg]
    · by_cases hkg : k = g
      · subst hkg; simp only [if_true] at e; cases e; exact l1 _ _ e2
      · simp [hkg] at e
  have hnew : St w0 (Blk g (.cells (putCells enc o d' cur) T (0, 0)) * F) (grow (Sort.putRow enc (Sort.ahead w m) g o d') os) := by
    refine hself.blk_turn rfl rfl rfl (by rw [hsz]; omega) (by rw [hk g hgl, if_pos rfl]) (fun k hkg hlt => by rw [hk k hlt, if_neg hkg]) (hdr := ?_)
    simp [grow, Sort.putRow, mapBlock, Sort.ahead]
  refine hnew.ent (Ent.sep (Ent.of fun h hb => ?_) (Ent.rfl' F))
  refine .inr ⟨g, o, cap, putCells enc o d' cur, rfl, hb, e3, e4, by simpa [putCells] using e5, ?_, by rw [List.length_map, Array.length_toList, hs, hlen]⟩
  have := putCells_row (enc := enc) (o := o) (d := d') (c := cur) (by omega)
  rw [hs, hlen] at this
  exact this

theorem RowO.holds {T s g o cap n : Nat} {xs : List Value} {F : HP} {w0 w : World} {d : Array β} (h : St w0 (RowO T s (.slice (some ⟨g, o, none⟩) n cap) n xs * F) w) (hx : d.toList.map enc = xs) : Holds enc w g o d ∧ g < w.heap.size := by
  rcases RowO.place h with ⟨hv, _⟩ | ⟨g', o', cap', cur, e1, e2, e3, e4, e5, e6⟩
  · cases hv
  simp only [Value.slice.injEq, Option.some.injEq, Addr.mk.injEq, and_true, true_and] at e1
  obtain ⟨⟨rfl, rfl⟩, rfl⟩ := e1
  refine ⟨fun j hj => ?_, (Array.getElem?_eq_some_iff.1 e2).1⟩
  have hl : d.size = n * s := by rw [← e6, ← hx]; simp
  refine ⟨?_, frozen_of_heap e2 _⟩
  rw [cell_of_heap e2]
  have h1 : (xs)[j]? = some (enc d[j]!) := by rw [← hx, List.getElem?_map, Array.getElem?_toList, Array.getElem?_eq_getElem hj, getElem!_pos d j hj]; rfl
  rw [← e5, List.getElem?_take_of_lt (by omega), List.getElem?_drop, Array.getElem?_toList] at h1
  exact h1

/-- From a sort's contract over its own words to rows of one's own. -/
theorem sort_bridge {P : Program} {fn : Nat} {args : Value → Array Value} {T s n : Nat} {v : Value} {xs : List Value} {F : HP} {w0 w : World} {d d' : Array β} (h : St w0 (RowO T s v n xs * F) w) (hx : d.toList.map enc = xs) (hs : d'.size = d.size)
    (hnone : ∀ p cap, Calls P fn (args (.slice p 0 cap)) w fun e w' => e = .returned (.tuple #[]) ∧ w' = w)
    (hsome : ∀ g o cap, v = .slice (some ⟨g, o, none⟩) n cap → Holds enc w g o d → g < w.heap.size → Calls P fn (args (.slice (some ⟨g, o, none⟩) n cap)) w fun e w' => e = .returned (.tuple #[]) ∧ ∃ m os, w' = grow (Sort.putRow enc (Sort.ahead w m) g o d') os) :
    Calls P fn (args v) w fun e w' => St w0 (RowO T s v n (d'.toList.map enc) * F) w' ∧ e = .returned (.tuple #[]) := by
  have hlx : d.size = xs.length := by rw [← hx]; simp
  rcases RowO.place h with ⟨rfl, rfl, rfl⟩ | ⟨g, o, cap, cur, rfl, _⟩
  · have : d' = #[] := Array.eq_empty_of_size_eq_zero (by rw [hs, hlx]; rfl)
    subst this
    exact (hnone none 0).mono fun e w' ⟨he, hw⟩ => ⟨by rw [hw]; exact h, he⟩
  · obtain ⟨hH, hg⟩ := RowO.holds (enc := enc) h hx
    refine (hsome g o cap rfl hH hg).mono ?_
    rintro e w' ⟨he, m, os, rfl⟩
    exact ⟨h.putRow (by rw [hs, hlx]), he⟩

end

/-- Of two sorted lists of the same things the one is the other. -/
theorem perm_sorted_unique {α : Type} {r : α → α → Prop} : ∀ {l l' : List α}, (∀ x ∈ l, ∀ y ∈ l, r x y → r y x → x = y) → l.Perm l' → l.Pairwise r → l'.Pairwise r → (∀ x ∈ l, r x x) → l = l'
  | [], l', _, hp, _, _, _ => (List.nil_perm.1 hp).symm
  | a :: l, [], _, hp, _, _, _ => by have := hp.length_eq; simp at this
  | a :: l, b :: l', ha, hp, h1, h2, hr => by
    have hab : a = b := by
      have hbl : b ∈ a :: l := hp.mem_iff.2 (by simp)
      have hal : a ∈ b :: l' := hp.mem_iff.1 (by simp)
      refine ha a (by simp) b hbl ?_ ?_
      · rcases List.mem_cons.1 hbl with rfl | hb
        · exact hr _ (by simp)
        · exact List.rel_of_pairwise_cons h1 hb
      · rcases List.mem_cons.1 hal with rfl | hb
        · exact hr _ (by simp)
        · exact List.rel_of_pairwise_cons h2 hb
    subst hab
    rw [perm_sorted_unique (fun x hx y hy => ha x (by simp [hx]) y (by simp [hy])) (List.Perm.cons_inv hp) (List.Pairwise.of_cons h1) (List.Pairwise.of_cons h2) (fun x hx => hr x (by simp [hx]))]

end Go.Proofs.YtkijkoakloacoaaGreatDoor
