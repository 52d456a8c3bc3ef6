/- The library's sorts, over rows of one's own. -/
import Derived.Test.YtacmnfpgimgigaaFx
import Derived.Shelf.SlSortCmp.NoneTotal
import Derived.Shelf.SortM.Plain
import Derived.Shelf.SortM.SortNone
namespace Go.Proofs.Ytacmnfpgimgigaa
open Go Go.Sort Go.RowKit Go.Shelf
set_option linter.unusedVariables false

/-- A world in which all of W lies as it lay: W with draws and new blocks. -/
theorem St.exact {W W' : World} (h : St W (Old W) W') : ∃ q os, W' = grow (W.drewN q) os := by
  obtain ⟨x, l, hx⟩ := h.sat
  have ho := h.os
  have ht := h.tape
  have hu := h.output
  have hd := h.drawn
  have hs := h.size
  refine ⟨W'.drawn - W.drawn, W'.heap.extract W.heap.size W'.heap.size, ?_⟩
  have hh : W'.heap = W.heap ++ W'.heap.extract W.heap.size W'.heap.size := by
    apply Array.ext_getElem?
    intro i
    by_cases hi : i < W.heap.size
    · rw [Array.getElem?_append_left hi, Array.getElem?_eq_getElem hi]
      exact l i _ (hx i _ (Array.getElem?_eq_getElem hi))
    · rw [Array.getElem?_append_right (by omega), Array.getElem?_extract]
      by_cases hj : i < W'.heap.size
      · rw [if_pos (by omega), show W.heap.size + (i - W.heap.size) = i by omega]
      · rw [if_neg (by omega), Array.getElem?_eq_none (by omega)]
  cases W'
  cases W
  simp only [grow, World.drewN] at *
  subst ho ht hu
  simp only [World.mk.injEq, true_and, and_true]
  exact ⟨hh, by omega⟩

section
variable {β : Type} [Inhabited β] {enc : β → Value}

theorem putCells_row {o : Nat} {d : Array β} {c : Array Value} (h : o + d.size ≤ c.size) : ((putCells enc o d c).toList.drop o).take d.size = d.toList.map enc := by
  apply List.ext_getElem?
  intro i
  by_cases hi : i < d.size
  · rw [List.getElem?_take_of_lt hi, List.getElem?_drop, Array.getElem?_toList, putCells, Array.getElem?_mapIdx, Array.getElem?_eq_getElem (by omega : o + i < c.size), Option.map_some, if_pos (by omega), List.getElem?_map, Array.getElem?_toList, Array.getElem?_eq_getElem hi, Option.map_some,
      show o + i - o = i by omega, getElem!_pos d i hi]
  · rw [List.getElem?_take_eq_none (by omega), List.getElem?_map, Array.getElem?_toList, Array.getElem?_eq_none (by omega)]; rfl

theorem RowO.place {T s : Nat} {v : Value} {n : Nat} {xs : List Value} {F : HP} {w0 w : World} (h : St w0 (RowO T s v n xs * F) w) : (v = .slice none 0 0 ∧ n = 0 ∧ xs = []) ∨ ∃ g o cap cur, v = .slice (some ⟨g, o, none⟩) n cap ∧ w.heap[g]? = some (.cells cur T (0, 0)) ∧ o + cap * s ≤ cur.size ∧ n ≤ cap ∧ (cur.toList.drop o).take (n * s) = xs ∧ xs.length = n * s := by
  obtain ⟨x, l, h1, _, _, l1, _, a, _⟩ := h.sat
  rcases a with a | ⟨g, o, cap, cur, e1, e2, e3, e4, e5, e6, e7⟩
  · exact .inl a
  · exact .inr ⟨g, o, cap, cur, e1, l _ _ (l1 _ _ e2), e5, e3, e6, e7⟩

/-- A row written over, draws, new blocks. -/
theorem St.putRow {T s g o cap n m : Nat} {xs : List Value} {F : HP} {w0 w : World} {d' : Array β} {os : Array Obj} (h : St w0 (RowO T s (.slice (some ⟨g, o, none⟩) n cap) n xs * F) w) (hs : d'.size = xs.length) :
    St w0 (RowO T s (.slice (some ⟨g, o, none⟩) n cap) n (d'.toList.map enc) * F) (grow (Sort.putRow enc (Sort.ahead w m) g o d') os) := by
  have hlen : xs.length = n * s := by
    rcases RowO.place h with ⟨hv, _⟩ | ⟨_, _, _, _, _, _, _, _, _, e⟩
    · cases hv
    · exact e
  have hsz : (grow (Sort.putRow enc (Sort.ahead w m) g o d') os).heap.size = w.heap.size + os.size := by simp [grow, Sort.putRow, mapBlock, Sort.ahead]
  obtain ⟨x, l, h1, h2, dj, l1, l2, a, f⟩ := h.sat
  rcases a with ⟨hv, _⟩ | ⟨g', o', cap', cur, e1, e2, e3, e4, e5, e6, e7⟩
  · cases hv
  simp only [Value.slice.injEq, Option.some.injEq, Addr.mk.injEq, and_true, true_and] at e1
  obtain ⟨⟨rfl, rfl⟩, rfl⟩ := e1
  have hg : w.heap[g]? = some (.cells cur T (0, 0)) := l _ _ (l1 _ _ e2)
  have hgl := (Array.getElem?_eq_some_iff.1 hg).1
  have hk : ∀ k, k < w.heap.size → (grow (Sort.putRow enc (Sort.ahead w m) g o d') os).heap[k]? = if k = g then some (.cells (putCells enc o d' cur) T (0, 0)) else w.heap[k]? := by
    intro k hk
    have hm : (w.heap.modify g (onCells (putCells enc o d'))).size = w.heap.size := by simp
    show (w.heap.modify g (onCells (putCells enc o d')) ++ os)[k]? = _
    rw [Array.getElem?_append_left (by omega), Array.getElem?_modify]
    by_cases hkg : g = k
    · subst hkg
      rw [if_pos rfl, if_pos rfl, hg]
      rfl
    · rw [if_neg hkg, if_neg (fun e => hkg e.symm)]
  have hcs : n * s ≤ cap * s := Nat.mul_le_mul_right s e3
  have hG : Go.Proofs.Ytacmnfpgimgigaa.RowO T s (.slice (some ⟨g, o, none⟩) n cap) n (d'.toList.map enc) = Go.Proofs.Ytacmnfpgimgigaa.RowO T s (.slice (some ⟨g, o, none⟩) n cap) n (d'.toList.map enc) := rfl
  -- the row of old, its block alone
  have hself : St w0 (Blk g (.cells cur T (0, 0)) * F) w := by
    refine ⟨h.os, h.tape, h.output, h.drawn, h.size, x, l, fun k => if k = g then some (.cells cur T (0, 0)) else none, h2, fun k => ?_, fun k o' e => ?_, l2, by simp [Blk], f⟩
    · by_cases hkg : k = g
      · subst hkg; exact .inr ((dj k).resolve_left (by rw [e2]; simp))
      · left; simp [hkg]
    · by_cases hkg : k = g
      · subst hkg; simp only [if_true] at e; cases e; exact l1 _ _ e2
      · simp [hkg] at e
  have hnew : St w0 (Blk g (.cells (putCells enc o d' cur) T (0, 0)) * F) (grow (Sort.putRow enc (Sort.ahead w m) g o d') os) := by
    refine hself.blk_turn rfl rfl rfl (by rw [hsz]; omega) (by rw [hk g hgl, if_pos rfl]) (fun k hkg hlt => by rw [hk k hlt, if_neg hkg]) (hdr := ?_)
    simp [grow, Sort.putRow, mapBlock, Sort.ahead]
  refine hnew.ent (Ent.sep (Ent.of fun h hb => ?_) (Ent.rfl' F))
  refine .inr ⟨g, o, cap, putCells enc o d' cur, rfl, hb, e3, e4, by simpa [putCells] using e5, ?_, by rw [List.length_map, Array.length_toList, hs, hlen]⟩
  have := putCells_row (enc := enc) (o := o) (d := d') (c := cur) (by omega)
  rw [hs, hlen] at this
  exact this

theorem RowO.holds {T s g o cap n : Nat} {xs : List Value} {F : HP} {w0 w : World} {d : Array β} (h : St w0 (RowO T s (.slice (some ⟨g, o, none⟩) n cap) n xs * F) w) (hx : d.toList.map enc = xs) : Holds enc w g o d ∧ g < w.heap.size := by
  rcases RowO.place h with ⟨hv, _⟩ | ⟨g', o', cap', cur, e1, e2, e3, e4, e5, e6⟩
  · cases hv
  simp only [Value.slice.injEq, Option.some.injEq, Addr.mk.injEq, and_true, true_and] at e1
  obtain ⟨⟨rfl, rfl⟩, rfl⟩ := e1
  refine ⟨fun j hj => ?_, (Array.getElem?_eq_some_iff.1 e2).1⟩
  have hl : d.size = n * s := by rw [← e6, ← hx]; simp
  refine ⟨?_, frozen_of_heap e2 _⟩
  rw [cell_of_heap e2]
  have h1 : (xs)[j]? = some (enc d[j]!) := by rw [← hx, List.getElem?_map, Array.getElem?_toList, Array.getElem?_eq_getElem hj, getElem!_pos d j hj]; rfl
  rw [← e5, List.getElem?_take_of_lt (by omega), List.getElem?_drop, Array.getElem?_toList] at h1
  exact h1

/-- From a sort's contract over its own words to rows of one's own. -/
theorem sort_bridge {P : Program} {fn : Nat} {args : Value → Array Value} {T s n : Nat} {v : Value} {xs : List Value} {F : HP} {w0 w : World} {d d' : Array β} (h : St w0 (RowO T s v n xs * F) w) (hx : d.toList.map enc = xs) (hs : d'.size = d.size)
    (hnone : ∀ p cap, Calls P fn (args (.slice p 0 cap)) w fun e w' => e = .returned (.tuple #[]) ∧ w' = w)
    (hsome : ∀ g o cap, v = .slice (some ⟨g, o, none⟩) n cap → Holds enc w g o d → g < w.heap.size → Calls P fn (args (.slice (some ⟨g, o, none⟩) n cap)) w fun e w' => e = .returned (.tuple #[]) ∧ ∃ m os, w' = grow (Sort.putRow enc (Sort.ahead w m) g o d') os) :
    Calls P fn (args v) w fun e w' => St w0 (RowO T s v n (d'.toList.map enc) * F) w' ∧ e = .returned (.tuple #[]) := by
  have hlx : d.size = xs.length := by rw [← hx]; simp
  rcases RowO.place h with ⟨rfl, rfl, rfl⟩ | ⟨g, o, cap, cur, rfl, _⟩
  · have : d' = #[] := Array.eq_empty_of_size_eq_zero (by rw [hs, hlx]; rfl)
    subst this
    exact (hnone none 0).mono fun e w' ⟨he, hw⟩ => ⟨by rw [hw]; exact h, he⟩
  · obtain ⟨hH, hg⟩ := RowO.holds (enc := enc) h hx
    refine (hsome g o cap rfl hH hg).mono ?_
    rintro e w' ⟨he, m, os, rfl⟩
    exact ⟨h.putRow (by rw [hs, hlx]), he⟩

theorem flatK_flat {α : Type} [Inhabited α] {enc : α → List Value} {k : Nat} (hk : ∀ x, (enc x).length = k) (d : Array α) : (Sort.flatK enc k d).toList.map id = d.toList.flatMap enc := by
  rw [List.map_id]
  have hl : ∀ l : List α, (l.flatMap enc).length = l.length * k := fun l => by
    induction l with
    | nil => simp
    | cons x l ih => rw [List.flatMap_cons, List.length_append, hk, ih, List.length_cons, Nat.add_mul]; omega
  have hg : ∀ (l : List α) (t : Nat), t < l.length * k → (l.flatMap enc)[t]? = some ((enc l[t / k]!)[t % k]!) := fun l => by
    induction l with
    | nil => intro t h; simp at h
    | cons x l ih =>
      intro t ht
      rw [List.length_cons, Nat.add_mul] at ht
      have k0 : 0 < k := by rcases Nat.eq_zero_or_pos k with h | h; · subst h; simp at ht
                            · exact h
      rw [List.flatMap_cons]
      by_cases h1 : t < k
      · rw [List.getElem?_append_left (by rw [hk]; exact h1), Nat.div_eq_of_lt h1, Nat.mod_eq_of_lt h1]
        have : t < (enc x).length := by rw [hk]; exact h1
        rw [List.getElem?_eq_getElem this]
        simp [this]
      · rw [List.getElem?_append_right (by rw [hk]; omega), hk, ih (t - k) (by omega)]
        have e1 : t / k = (t - k) / k + 1 := by rw [← Nat.add_div_right _ k0, Nat.sub_add_cancel (by omega)]
        have e2 : t % k = (t - k) % k := by rw [Nat.mod_eq_sub_mod (by omega)]
        rw [e1, e2]
        simp
  apply List.ext_getElem?
  intro t
  by_cases ht : t < d.size * k
  · rw [hg d.toList t (by simpa using ht), Array.getElem?_toList, Array.getElem?_eq_getElem (by simpa using ht)]
    have := Sort.get_flatK enc k d t ht
    rw [getElem!_pos _ t (by simpa using ht)] at this
    have hdk : t / k < d.size := Nat.div_lt_of_lt_mul (by rw [Nat.mul_comm]; exact ht)
    rw [this, getElem!_pos d _ hdk, getElem!_pos d.toList _ (by simpa using hdk)]
    simp
  · rw [Array.getElem?_toList, Array.getElem?_eq_none (by simpa using ht), List.getElem?_eq_none (by rw [hl]; simpa using ht)]
end

/-- slices.SortFunc, of structs. -/
theorem St.sortFuncK {P : Program} {ρ : Ren} {α : Type} [Inhabited α] (L : SlLaysF0.n6 P ρ) {k : Nat} (aE : ∀ w, (isAgg (ρ.t 24)).run P w = .ok true w) (zE : ∀ w, (Go.sizeOf (ρ.t 24)).run P w = .ok k w) {enc : α → List Value} (hk : ∀ x, (enc x).length = k) (h1 : ∀ x, ∀ v ∈ enc x, v.oneCell' = true) {cf : α → α → Int} (hO : SWO (ltOf cf))
    {g : Nat} (eg : ∀ args w, (callFunc g args).run P w = .ok (.enter g args) w) (hcmp : ∀ (W : World) (x y : α), Calls P g #[.agg (enc x).toArray, .agg (enc y).toArray] W fun e w' => St W (Old W) w' ∧ e = .returned (.int .i64 (cf x y)))
    (hT : ∀ x y, (ltOf cf) x y = false → (ltOf cf) y x = false → x = y) {T : TypeId} {v : Value} {l : List α} {F : HP} {w0 w : World} (h : St w0 (RowO T k v l.length (l.flatMap enc) * F) w) (hsz : l.length < 4611686018427387904) :
    Calls P (ρ.f 6) #[v, .func (.func g) #[] #[]] w fun e w' => St w0 (RowO T k v l.length ((l.mergeSort fun x y => !(ltOf cf) y x).flatMap enc) * F) w' ∧ e = .returned (.tuple #[]) := by
  have hx := flatK_flat hk l.toArray
  have hx' := flatK_flat hk (l.mergeSort fun x y => !(ltOf cf) y x).toArray
  rw [List.toList_toArray] at hx hx'
  have key := sort_bridge (enc := id) (fn := ρ.f 6) (args := fun v => #[v, .func (.func g) #[] #[]]) (d' := Sort.flatK enc k (l.mergeSort fun x y => !(ltOf cf) y x).toArray) (P := P) h hx (by simp)
    (fun p cap => AnyF.slices_SortFunc_none { L with } p cap _ w) (fun b o cap hv hH hb => by
      have hc : CmpLays P g #[] enc k cf b o l.toArray.size w := fun m os dk _ x y => (hcmp _ x y).mono fun e w' ⟨hst, he⟩ => ⟨he, hst.exact⟩
      have := AnyQ.slices_SortFunc_total L k aE zE enc hk h1 cf hO g #[] b o cap l.toArray w eg hc hH hb (by simpa using hsz) hT
      simpa [sortWorldK, putRowK] using this)
  rw [hx'] at key
  exact key

/-- slices.SortFunc, of structs of which some may be alike to it. -/
theorem St.sortFuncP {P : Program} {ρ : Ren} {α : Type} [Inhabited α] (L : SlLaysF0.n6 P ρ) {k : Nat} (aE : ∀ w, (isAgg (ρ.t 24)).run P w = .ok true w) (zE : ∀ w, (Go.sizeOf (ρ.t 24)).run P w = .ok k w) {enc : α → List Value} (hk : ∀ x, (enc x).length = k) (h1 : ∀ x, ∀ v ∈ enc x, v.oneCell' = true) {cf : α → α → Int} (hO : SWO (ltOf cf))
    {g : Nat} (eg : ∀ args w, (callFunc g args).run P w = .ok (.enter g args) w) (hcmp : ∀ (W : World) (x y : α), Calls P g #[.agg (enc x).toArray, .agg (enc y).toArray] W fun e w' => St W (Old W) w' ∧ e = .returned (.int .i64 (cf x y)))
    {T : TypeId} {v : Value} {l : List α} {F : HP} {w0 w : World} (h : St w0 (RowO T k v l.length (l.flatMap enc) * F) w) (hsz : l.length < 4611686018427387904) :
    Calls P (ρ.f 6) #[v, .func (.func g) #[] #[]] w fun e w' => ∃ l' : List α, l'.Perm l ∧ l'.Pairwise (fun x y => ltOf cf y x = false) ∧ St w0 (RowO T k v l.length (l'.flatMap enc) * F) w' ∧ e = .returned (.tuple #[]) := by
  have hx := flatK_flat hk l.toArray
  rw [List.toList_toArray] at hx
  have hx := flatK_flat hk l.toArray
  rw [List.toList_toArray] at hx
  rcases RowO.place h with ⟨rfl, hl, _⟩ | ⟨b, o, cap, cur, rfl, _⟩
  · obtain rfl : l = [] := List.eq_nil_of_length_eq_zero hl
    exact (AnyF.slices_SortFunc_none { L with } none 0 _ w).mono fun e w' ⟨he, hw⟩ => ⟨[], .refl _, .nil, by rw [hw]; exact h, he⟩
  · obtain ⟨hH, hb⟩ := RowO.holds (enc := id) h hx
    have hc : CmpLays P g #[] enc k cf b o l.toArray.size w := fun m os dk _ x y => (hcmp _ x y).mono fun e w' ⟨hst, he⟩ => ⟨he, hst.exact⟩
    refine (AnyQ.slices_SortFunc L k aE zE enc hk h1 cf hO g #[] b o cap l.toArray w eg hc hH hb (by simpa using hsz)).mono ?_
    rintro e w' ⟨he, d', m, os, hp, hs, rfl⟩
    have hd : d'.size = l.length := by simpa using hp.1
    have hpm : d'.toList.Perm l := by
      have := hp.2.2
      simp only [List.size_toArray, ← hd, Array.extract_size] at this
      rw [hd] at this
      simpa using this
    refine ⟨d'.toList, hpm, ?_, ?_, he⟩
    · rw [List.pairwise_iff_getElem]
      intro i j hi hj hij
      have := hs i j (Nat.zero_le _) hij (by simpa [hd] using hj)
      rw [getElem!_pos d' j (by simpa using hj), getElem!_pos d' i (by simpa using hi)] at this
      simpa using this
    · have hx' := flatK_flat hk d'
      rw [← hx']
      exact h.putRow (enc := id) (d' := Sort.flatK enc k d') (by rw [← hx, List.length_map, Array.length_toList, Sort.size_flatK, Sort.size_flatK, hd]; simp)

/-- Of two sorted lists of the same things the one is the other. -/
theorem perm_sorted_unique {α : Type} {r : α → α → Prop} : ∀ {l l' : List α}, (∀ x ∈ l, ∀ y ∈ l, r x y → r y x → x = y) → l.Perm l' → l.Pairwise r → l'.Pairwise r → (∀ x ∈ l, r x x) → l = l'
  | [], l', _, hp, _, _, _ => (List.nil_perm.1 hp).symm
  | a :: l, [], _, hp, _, _, _ => by have := hp.length_eq; simp at this
  | a :: l, b :: l', ha, hp, h1, h2, hr => by
    have hab : a = b := by
      have hbl : b ∈ a :: l := hp.mem_iff.2 (by simp)
      have hal : a ∈ b :: l' := hp.mem_iff.1 (by simp)
      refine ha a (by simp) b hbl ?_ ?_
      · rcases List.mem_cons.1 hbl with rfl | hb
        · exact hr _ (by simp)
        · exact List.rel_of_pairwise_cons h1 hb
      · rcases List.mem_cons.1 hal with rfl | hb
        · exact hr _ (by simp)
        · exact List.rel_of_pairwise_cons h2 hb
    subst hab
    rw [perm_sorted_unique (fun x hx y hy => ha x (by simp [hx]) y (by simp [hy])) (List.Perm.cons_inv hp) (List.Pairwise.of_cons h1) (List.Pairwise.of_cons h2) (fun x hx => hr x (by simp [hx]))]

/-- slices.Sort, of ints. -/
theorem St.sortInts {P : Program} {ρ : Ren} (L : SlLaysM.n5 P ρ) {T : TypeId} {v : Value} {l : List Int} {F : HP} {w0 w : World} (h : St w0 (RowO T 1 v l.length (l.map (Value.int .i64)) * F) w) (hsz : l.length < 4611686018427387904) :
    Calls P (ρ.f 5) #[v] w fun e w' => St w0 (RowO T 1 v l.length ((l.mergeSort fun x y => decide (x ≤ y)).map (Value.int .i64)) * F) w' ∧ e = .returned (.tuple #[]) :=
  sort_bridge (enc := Value.int .i64) (fn := ρ.f 5) (args := fun v => #[v]) (d := l.toArray) (d' := (l.mergeSort fun x y => decide (x ≤ y)).toArray) h (by simp) (by simp)
    (fun p cap => AnyM.slices_Sort_int_none L p cap w) (fun b o cap _ hH hb => AnyM.slices_Sort_int L b o cap l w hH hb hsz)

end Go.Proofs.Ytacmnfpgimgigaa
