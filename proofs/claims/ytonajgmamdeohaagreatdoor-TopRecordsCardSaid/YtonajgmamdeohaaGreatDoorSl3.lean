/- Rows of one's own that begin anywhere in their block: cut, appended to, cleared. -/
import Derived.Test.YtonajgmamdeohaaGreatDoorAgg
import Derived.Lib.SliceRun
namespace Go.Proofs.YtonajgmamdeohaaGreatDoor
open Go

/-- The slice value v owns the cells xs: n elements of s cells each, of type T, somewhere in a block of one's own. -/
def RowO (T : TypeId) (s : Nat) (v : Value) (n : Nat) (xs : List Value) : HP := fun h =>
  (v = .slice none 0 0 ∧ n = 0 ∧ xs = []) ∨
  ∃ g o cap cur, v = .slice (some ⟨g, o, none⟩) n cap ∧ h g = some (.cells cur T (0, 0)) ∧ n ≤ cap ∧ cap ≤ maxLen ∧ o + cap * s ≤ cur.size ∧ (cur.toList.drop o).take (n * s) = xs ∧ xs.length = n * s

theorem RowO.length {T s : Nat} {v : Value} {n : Nat} {xs : List Value} {h : Heap} (k : RowO T s v n xs h) : xs.length = n * s := by
  rcases k with ⟨_, rfl, rfl⟩ | ⟨_, _, _, _, _, _, _, _, _, _, hl⟩
  · simp
  · exact hl

theorem Row.rowO (T s : Nat) (v : Value) (n : Nat) (xs : List Value) : Ent (Row T s v n xs) (RowO T s v n xs) := by
  refine Ent.of fun h k => ?_
  rcases k with k | ⟨g, cap, cur, hv, hg, hn, hc, hs, ht, hl⟩
  · exact .inl k
  · exact .inr ⟨g, 0, cap, cur, hv, hg, hn, hc, by omega, by simpa using ht, hl⟩

theorem RowO.nil (T s : Nat) : ∀ h, RowO T s (.slice none 0 0) 0 [] h := fun _ => .inl ⟨rfl, rfl, rfl⟩
theorem Ent.nilRowO (T s : Nat) (F : HP) : Ent F (RowO T s (.slice none 0 0) 0 [] * F) :=
  (Ent.nilRow T s F).trans (Ent.sep (Row.rowO _ _ _ _ _) (Ent.rfl' _))

theorem RowO.form {w0 w : World} {T s : Nat} {v : Value} {n : Nat} {xs : List Value} {F : HP} (h : St w0 (RowO T s v n xs * F) w) : ∃ a c, v = .slice a n c ∧ xs.length = n * s ∧ n ≤ c ∧ c ≤ maxLen := by
  obtain ⟨_, _, h1, _, _, _, _, hr, _⟩ := h.sat
  rcases hr with ⟨rfl, rfl, rfl⟩ | ⟨g, o, cap, cur, rfl, _, hn, hm, _, _, hl⟩
  · exact ⟨_, _, rfl, by simp, Nat.le_refl _, by simp [maxLen]⟩
  · exact ⟨_, _, rfl, hl, hn, hm⟩

theorem RowO.reads (T s : Nat) (v : Value) (n : Nat) (xs : List Value) : Ent (RowO T s v n xs) (Reads s v n xs) := by
  refine Ent.of fun h k => ⟨k.length, ?_⟩
  rcases k with ⟨rfl, rfl, rfl⟩ | ⟨g, o, cap, cur, rfl, hg, hn, hc, hs, ht, hl⟩
  · exact ⟨none, 0, rfl, Nat.le_refl _, .inl rfl⟩
  · refine ⟨_, _, rfl, hn, .inr ⟨g, o, cur, T, (0, 0), rfl, hg, fun j hj => ?_⟩⟩
    rw [← ht, List.getElem?_take, if_pos (by omega)]
    simp

/-- A part of it: what lies about it is given up. -/
theorem RowO.cut {T s n lo k m c : Nat} {a : Option Addr} {xs : List Value} (h1 : lo + k ≤ n) (h2 : lo + k ≤ m) (h3 : m ≤ c) :
    Ent (RowO T s (.slice a n c) n xs) (RowO T s (.slice (if m = lo then a else a.map (·.add (lo * s))) k (m - lo)) k ((xs.drop (lo * s)).take (k * s))) := by
  refine Ent.of fun hp hr => ?_
  rcases hr with ⟨hv, rfl, rfl⟩ | ⟨g, o, cap, cur, hv, hg, hn, hc, hs, ht, hl⟩
  · simp only [Value.slice.injEq, true_and] at hv
    obtain ⟨rfl, rfl⟩ := hv
    have : lo = 0 ∧ k = 0 ∧ m = 0 := by omega
    obtain ⟨rfl, rfl, rfl⟩ := this
    exact .inl ⟨by simp, rfl, by simp⟩
  · simp only [Value.slice.injEq, true_and] at hv
    obtain ⟨rfl, rfl⟩ := hv
    have hms : m * s ≤ c * s := Nat.mul_le_mul_right _ h3
    have hxs : (xs.drop (lo * s)).take (k * s) = (cur.toList.drop (o + lo * s)).take (k * s) := by
      rw [← ht, List.drop_take, List.take_take, List.drop_drop, Nat.min_eq_left]
      rw [← Nat.sub_mul]
      exact Nat.mul_le_mul_right _ (by omega)
    have hl2 : ((xs.drop (lo * s)).take (k * s)).length = k * s := by
      have : lo * s + k * s ≤ n * s := by rw [← Nat.add_mul]; exact Nat.mul_le_mul_right _ h1
      simp; omega
    by_cases hm : m = lo
    · subst hm
      have hk : k = 0 := by omega
      subst hk
      rw [if_pos rfl]
      exact .inr ⟨g, o, 0, cur, by simp, hg, Nat.le_refl _, by simp [maxLen], by simp; omega, by simp, by simp⟩
    · rw [if_neg hm]
      refine .inr ⟨g, o + lo * s, m - lo, cur, by simp [add_lit], hg, by omega, by omega, ?_, hxs.symm, hl2⟩
      rw [Nat.sub_mul]
      have : lo * s ≤ m * s := Nat.mul_le_mul_right _ (by omega)
      omega

/-- append, to a row of one's own, from whatever source. -/
theorem St.appendO {P : Program} {w0 w : World} {F : HP} {t tx ty e s bs : Nat} {zs : List Value} {v x : Value} {n m : Nat} {xs news : List Value} {K : Value → World → Prop} {θ : Tag K}
    (h : St w0 (RowO e s v n xs * F) w) (ht : rowTy P t = some (e, s, bs, zs)) (hs : Src P s tx x m news w) (h63 : n + m ≤ maxLen) (hb : (n + m) * bs ≤ 140737488355328)
    (hK : ∀ v' w', St w0 (RowO e s v' (n + m) (xs ++ news) * F) w' → K v' w') : semD P (kAppend #[t, tx] ty #[v, x]) w K θ := by
  show semD P (Builtin.append_ #[t, tx] ty #[v, x]) w K θ
  obtain ⟨hu, i, z, hi, hz, rfl, rfl, hzs, rfl⟩ := rowTy_some ht
  obtain ⟨hh, hl, h1, h2, hd, l1, l2, hr, hf⟩ := h.sat
  have hnl : xs.length = n * i.size := RowO.length hr
  have h63' : ((n + m : Nat) : Int) ≤ 9223372036854775807 := by simp only [maxLen] at h63; omega
  have grow : ∀ (base : Option Addr) (cap : Nat), v = .slice base n cap → cap < n + m → (Builtin.firstCells i.size n (.slice base n cap)).run P w.drew = .ok xs.toArray w.drew →
      semD P (Builtin.append_ #[t, tx] ty #[v, x]) w K θ := by
    intro base cap hv hc hold
    subst hv
    have := run_append_grow_src (P := P) w t tx ty e i z hu hi hz base n cap xs hold x m news hs hc h63' (growslice_fits hc hb)
    refine ⟨_, _, this, hK _ _ ?_⟩
    have hg := grownCap_ge w (n + m) cap e
    have hcm := grownCap_le_maxLen w (n + m) cap e h63
    have hst : St w0 F w.drew := (St.drew h).right
    refine (hst.alloc _).ent (Ent.sep (Ent.of fun k hk => .inr ⟨w.heap.size, 0, grownCap w (n + m) cap e, _, rfl, hk, hg, hcm, ?_, ?_, ?_⟩) (Ent.rfl' F))
    · simp only [Array.size_append, List.size_toArray, List.length_append, size_zeroCells, hzs, hnl, hs.newsLen, ← Nat.add_mul]
      rw [Nat.zero_add]
      refine Nat.le_of_eq ?_
      congr 1
      omega
    · have hlen : (xs ++ news).length = (n + m) * i.size := by rw [List.length_append, hnl, hs.newsLen, Nat.add_mul]
      simp only [Array.toList_append, List.drop_zero]
      rw [← hlen]
      exact List.take_left
    · rw [List.length_append, hnl, hs.newsLen, Nat.add_mul]
  rcases hr with ⟨rfl, rfl, rfl⟩ | ⟨g, o, cap, cur, rfl, hg, hnc, hcm, hcs, htake, _⟩
  · by_cases hm : m = 0
    · subst hm
      have hn : news = [] := List.eq_nil_of_length_eq_zero (by simpa using hs.newsLen)
      subst hn
      refine ⟨.slice none 0 0, w, ?_, hK _ _ h⟩
      rcases hs.kind with ⟨e', hk⟩ | hk <;>
        simp [Builtin.append_, run_underlying hu, run_underlying hk, sizeOf, typeInfo, hi, hs.len, hs.cells]
    · exact grow none 0 rfl (by omega) (by simp [Builtin.firstCells])
  · have hgw : w.heap[g]? = some (.cells cur e (0, 0)) := hl g _ (l1 g _ hg)
    by_cases hroom : n + m ≤ cap
    · have hle : (n + m) * i.size ≤ cap * i.size := Nat.mul_le_mul_right _ hroom
      have hfit : o + n * i.size + news.length ≤ cur.size := by rw [hs.newsLen]; rw [Nat.add_mul] at hle; omega
      have := run_append_room_src (P := P) w t tx ty e i hu hi g o n cap x m news hs hroom
        (fun j hj => by rw [cell_of_heap hgw]; simp [show o + n * i.size + j < cur.size by omega]) (fun j _ => frozen_of_heap hgw _)
      refine ⟨_, _, this, hK _ _ ?_⟩
      obtain ⟨a1, a2, a3, a4, a5, a6⟩ := heap_setCells g e (0, 0) news (o + n * i.size) w cur hgw
      refine h.turn (b := g) a4 a5 a6 (by omega) (fun k hk => ?_) (fun k hk _ => a2 k hk) ⟨fun k => if k = g then some (.cells (setRowL cur.toList (o + n * i.size) news).toArray e (0, 0)) else none, fun k o he => ?_, fun k o he => ?_, ?_⟩
      · rcases hk with ⟨hv, _⟩ | ⟨g', o', cap', cur', hv, hk, _⟩
        · cases hv
        · simp only [Value.slice.injEq, Option.some.injEq, Addr.mk.injEq] at hv
          obtain ⟨⟨rfl, rfl, _⟩, _⟩ := hv
          exact ⟨_, hk⟩
      · by_cases hkg : k = g <;> simp_all
      · by_cases hkg : k = g
        · subst hkg
          simp only [if_true] at he
          exact a1.trans he
        · simp [hkg] at he
      · refine .inr ⟨g, o, cap, (setRowL cur.toList (o + n * i.size) news).toArray, rfl, if_pos rfl, by omega, hcm, by simp [length_setRowL, hcs], ?_, ?_⟩
        · have := take_setRowL (vs := news) (cs := cur.toList) (o := o + n * i.size) (by simpa using hfit)
          have h2 := congrArg (List.drop o) this
          rw [List.drop_take, List.drop_append_of_le_length (by simp; omega), List.drop_take, show o + n * i.size + news.length - o = (n + m) * i.size by rw [hs.newsLen, Nat.add_mul]; omega, show o + n * i.size - o = n * i.size by omega, htake] at h2
          exact h2
        · rw [List.length_append, hnl, hs.newsLen, Nat.add_mul]
    · refine grow (some ⟨g, o, none⟩) cap rfl (by omega) ?_
      have hc : ∀ j u, xs[j]? = some u → w.drew.cell? ((⟨g, o, none⟩ : Addr).add j) = some u := by
        intro j u hu
        rw [add_lit]
        have : w.drew.cell? ⟨g, o + j, none⟩ = cur[o + j]? := cell_of_heap (w := w.drew) hgw (o + j)
        rw [this]
        rw [← htake, List.getElem?_take] at hu
        split at hu
        · simpa [List.getElem?_drop] using hu
        · cases hu
      exact run_firstCells_some w.drew i.size n ⟨g, o, none⟩ n cap xs hnl hc


/-- append where there is room: the slice keeps its place. -/
theorem St.appendIn {P : Program} {w0 w : World} {F : HP} {t tx ty e s bs : Nat} {zs : List Value} {a : Addr} {cap : Nat} {x : Value} {n m : Nat} {xs news : List Value} {K : Value → World → Prop} {θ : Tag K}
    (h : St w0 (RowO e s (.slice (some a) n cap) n xs * F) w) (ht : rowTy P t = some (e, s, bs, zs)) (hs : Src P s tx x m news w) (hroom : n + m ≤ cap)
    (hK : ∀ w', St w0 (RowO e s (.slice (some a) (n + m) cap) (n + m) (xs ++ news) * F) w' → K (.slice (some a) (n + m) cap) w') : semD P (kAppend #[t, tx] ty #[.slice (some a) n cap, x]) w K θ := by
  show semD P (Builtin.append_ #[t, tx] ty #[.slice (some a) n cap, x]) w K θ
  obtain ⟨hu, i, z, hi, hz, rfl, rfl, hzs, rfl⟩ := rowTy_some ht
  obtain ⟨hh, hl, h1, h2, hd, l1, l2, hr, hf⟩ := h.sat
  have hnl : xs.length = n * i.size := RowO.length hr
  rcases hr with ⟨hv, _, _⟩ | ⟨g, o, cap', cur, hv, hg, hnc, hcm, hcs, htake, _⟩
  · simp at hv
  simp only [Value.slice.injEq, Option.some.injEq, true_and] at hv
  obtain ⟨rfl, rfl⟩ := hv
  have hgw : w.heap[g]? = some (.cells cur e (0, 0)) := hl g _ (l1 g _ hg)
  have hle : (n + m) * i.size ≤ cap * i.size := Nat.mul_le_mul_right _ hroom
  have hfit : o + n * i.size + news.length ≤ cur.size := by rw [hs.newsLen]; rw [Nat.add_mul] at hle; omega
  have := run_append_room_src (P := P) w t tx ty e i hu hi g o n cap x m news hs hroom
    (fun j hj => by rw [cell_of_heap hgw]; simp [show o + n * i.size + j < cur.size by omega]) (fun j _ => frozen_of_heap hgw _)
  refine ⟨_, _, this, hK _ ?_⟩
  obtain ⟨a1, a2, a3, a4, a5, a6⟩ := heap_setCells g e (0, 0) news (o + n * i.size) w cur hgw
  refine h.turn (b := g) a4 a5 a6 (by omega) (fun k hk => ?_) (fun k hk _ => a2 k hk) ⟨fun k => if k = g then some (.cells (setRowL cur.toList (o + n * i.size) news).toArray e (0, 0)) else none, fun k o he => ?_, fun k o he => ?_, ?_⟩
  · rcases hk with ⟨hv, _⟩ | ⟨g', o', cap', cur', hv, hk, _⟩
    · cases hv
    · simp only [Value.slice.injEq, Option.some.injEq, Addr.mk.injEq] at hv
      obtain ⟨⟨rfl, rfl, _⟩, _⟩ := hv
      exact ⟨_, hk⟩
  · by_cases hkg : k = g <;> simp_all
  · by_cases hkg : k = g
    · subst hkg
      simp only [if_true] at he
      exact a1.trans he
    · simp [hkg] at he
  · refine .inr ⟨g, o, cap, (setRowL cur.toList (o + n * i.size) news).toArray, rfl, if_pos rfl, by omega, hcm, by simp [length_setRowL, hcs], ?_, ?_⟩
    · have := take_setRowL (vs := news) (cs := cur.toList) (o := o + n * i.size) (by simpa using hfit)
      have h2 := congrArg (List.drop o) this
      rw [List.drop_take, List.drop_append_of_le_length (by simp; omega), List.drop_take, show o + n * i.size + news.length - o = (n + m) * i.size by rw [hs.newsLen, Nat.add_mul]; omega, show o + n * i.size - o = n * i.size by omega, htake] at h2
      exact h2
    · rw [List.length_append, hnl, hs.newsLen, Nat.add_mul]

theorem mem_zeroCells {cs : Array Value} {n : Nat} {v : Value} (h : v ∈ (Builtin.zeroCells cs n).toList) : v ∈ cs.toList := by
  simp only [Builtin.zeroCells, Array.toList_map, List.mem_map] at h
  obtain ⟨i, hi, rfl⟩ := h
  have hpos : 0 < cs.size := by
    rcases Nat.eq_zero_or_pos cs.size with h0 | h0
    · simp [h0] at hi
    · exact h0
  have hlt := Nat.mod_lt i hpos
  rw [getElem!_pos cs _ hlt]
  simp

/-- clear behind the elements that count. -/
theorem St.clearTail {P : Program} {w0 w : World} {F : HP} {t ty e s bs : Nat} {zs : List Value} {g o cap n k m c : Nat} {xs : List Value} {K : Value → World → Prop} {θ : Tag K}
    (h : St w0 (RowO e s (.slice (some ⟨g, o, none⟩) n cap) n xs * F) w) (ht : rowTy P t = some (e, s, bs, zs)) (hz : ∀ v ∈ zs, isCell v = true) (hk : n ≤ k) (hm : k + m ≤ cap) (hm0 : 0 < m)
    (hK : ∀ w', St w0 (RowO e s (.slice (some ⟨g, o, none⟩) n cap) n xs * F) w' → K (.tuple #[]) w') : semD P (kClear #[t] ty #[.slice (some ⟨g, o + k * s, none⟩) m c]) w K θ := by
  show semD P (Builtin.clear_ #[t] ty #[.slice (some ⟨g, o + k * s, none⟩) m c]) w K θ
  obtain ⟨hu, i, z, hi, hzz, rfl, rfl, hzs, rfl⟩ := rowTy_some ht
  obtain ⟨hh, hl, h1, h2, hd, l1, l2, hr, hf⟩ := h.sat
  rcases hr with ⟨hv, _, _⟩ | ⟨g', o', cap', cur, hv, hg, hnc, hcm, hcs, htake, hxl⟩
  · simp at hv
  simp only [Value.slice.injEq, Option.some.injEq, Addr.mk.injEq, true_and, and_true] at hv
  obtain ⟨⟨rfl, rfl⟩, rfl⟩ := hv
  have hgw : w.heap[g]? = some (.cells cur e (0, 0)) := hl g _ (l1 g _ hg)
  have hzero : (zeroValue e).run P w = .ok z w := by
    simp only [zeroValue, Sem.run_bind, run_typeInfo' hi, hzz, Result.andThen_ok]; rfl
  have hlen : (Builtin.zeroCells z.cells m).toList.length = m * i.size := by rw [Array.length_toList, size_zeroCells, hzs]
  have hkm : (k + m) * i.size ≤ cap * i.size := Nat.mul_le_mul_right _ hm
  have hnk : n * i.size ≤ k * i.size := Nat.mul_le_mul_right _ hk
  rw [Nat.add_mul] at hkm
  have hst := run_storeCells_cells (P := P) g (o + k * i.size) (Builtin.zeroCells z.cells m).toList 0 w (fun j hj => by rw [cell_of_heap hgw]; simp; omega) (fun j _ => frozen_of_heap hgw _) (fun v hv => by rw [← isCell_eq]; exact hz v (mem_zeroCells hv))
  simp only [Nat.add_zero] at hst
  obtain ⟨m', rfl⟩ : ∃ m', m = m' + 1 := ⟨m - 1, by omega⟩
  refine ⟨.tuple #[], w.setCells g (o + k * i.size) (Builtin.zeroCells z.cells (m' + 1)).toList, ?_, hK _ ?_⟩
  · simp [Builtin.clear_, run_underlying hu, hzero, hst]
  · obtain ⟨a1, a2, a3, a4, a5, a6⟩ := heap_setCells g e (0, 0) (Builtin.zeroCells z.cells (m' + 1)).toList (o + k * i.size) w cur hgw
    refine h.turn (b := g) a4 a5 a6 (by omega) (fun k hk => ?_) (fun k hk _ => a2 k hk) ⟨fun k' => if k' = g then some (.cells (setRowL cur.toList (o + k * i.size) (Builtin.zeroCells z.cells (m' + 1)).toList).toArray e (0, 0)) else none, fun k o he => ?_, fun k o he => ?_, ?_⟩
    · rcases hk with ⟨hv, _⟩ | ⟨g', o', cap', cur', hv, hk, _⟩
      · cases hv
      · simp only [Value.slice.injEq, Option.some.injEq, Addr.mk.injEq] at hv
        obtain ⟨⟨rfl, rfl, _⟩, _⟩ := hv
        exact ⟨_, hk⟩
    · by_cases hkg : k = g <;> simp_all
    · by_cases hkg : k = g
      · subst hkg
        simp only [if_true] at he
        exact a1.trans he
      · simp [hkg] at he
    · refine .inr ⟨g, o, cap, (setRowL cur.toList (o + k * i.size) (Builtin.zeroCells z.cells (m' + 1)).toList).toArray, rfl, if_pos rfl, hnc, hcm, by simp [length_setRowL, hcs], ?_, hxl⟩
      rw [← htake]
      apply List.ext_getElem?
      intro j
      simp only [List.getElem?_take, List.getElem?_drop]
      split
      · exact getElem?_setRowL_lt _ _ _ _ (by omega)
      · rfl

end Go.Proofs.YtonajgmamdeohaaGreatDoor
