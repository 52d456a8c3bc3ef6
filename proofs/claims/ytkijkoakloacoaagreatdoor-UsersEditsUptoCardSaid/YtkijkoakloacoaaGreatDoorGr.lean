/- Slices that share blocks, each of which reads one mark alone: read, grown. -/
import Derived.Test.YtkijkoakloacoaaGreatDoorFx
namespace Go.Proofs.YtkijkoakloacoaaGreatDoor
open Go
set_option linter.unusedVariables false

theorem RowO.mono {T s : Nat} {v : Value} {n : Nat} {xs : List Value} {h h' : Heap} (l : hle h h') (k : RowO T s v n xs h) : RowO T s v n xs h' := by
  rcases k with k | ⟨g, o, cap, cur, hv, hg, r⟩
  · exact .inl k
  · exact .inr ⟨g, o, cap, cur, hv, l g _ hg, r⟩

/-- As 'turn', of a part of many blocks. -/
theorem St.turnG {w0 w w' : World} {b : Nat} {A A' F : HP} (h : St w0 (A * F) w) (ho : w'.os = w.os) (ht : w'.tape = w.tape) (hu : w'.output = w.output) (hs : w.heap.size ≤ w'.heap.size)
    (hk : ∀ k, k ≠ b → k < w.heap.size → w'.heap[k]? = w.heap[k]?)
    (hA : ∀ h1, hle h1 (heapOf w) → A h1 → (∃ o, h1 b = some o) ∧ ∃ h', (∀ k o, h' k = some o → (∃ o', h1 k = some o') ∨ w.heap.size ≤ k) ∧ hle h' (heapOf w') ∧ A' h')
    (hdr : w.drawn ≤ w'.drawn := by first | exact Nat.le_refl _ | simp only [drawn_setCells, Nat.le_refl]) : St w0 (A' * F) w' := by
  obtain ⟨x, l, h1, h2, d, l1, l2, a, f⟩ := h.sat
  obtain ⟨⟨o, ho1⟩, h', hd', hl', a'⟩ := hA h1 (l1.trans l) a
  have hb2 : h2 b = none := (d b).resolve_left (by rw [ho1]; simp)
  have hlt : ∀ k o, h2 k = some o → k < w.heap.size := fun k o e => (Array.getElem?_eq_some_iff.1 (l k o (l2 k o e))).1
  have hl2 : hle h2 (heapOf w') := fun k o e => by
    have hne : k ≠ b := fun e' => by subst e'; rw [hb2] at e; cases e
    show w'.heap[k]? = some o
    rw [hk k hne (hlt k o e)]
    exact l k o (l2 k o e)
  refine ⟨ho.trans h.os, ht.trans h.tape, hu.trans h.output, trivial, Nat.le_trans h.size hs, heapOf w', hle.rfl' _, h', h2, fun k => ?_, hl', hl2, a', f⟩
  cases hk' : h' k with
  | none => exact .inl rfl
  | some o' =>
    right
    rcases hd' k o' hk' with ⟨o2, h2'⟩ | hge
    · exact (d k).resolve_left (by rw [h2']; simp)
    · cases he : h2 k with
      | none => rfl
      | some o'' => have := hlt k o'' he; omega

/-- Slices of one's own that read m alone; they may share their blocks. -/
def GroupP (T : TypeId) (m : Value) (gs : List (Value × Nat)) : HP := fun h => ∀ p ∈ gs, RowO T 1 p.1 p.2 (List.replicate p.2 m) h
theorem GroupP.one (T : TypeId) (m : Value) (v : Value) (n : Nat) : Ent (RowO T 1 v n (List.replicate n m)) (GroupP T m [(v, n)]) := Ent.of fun h k p hp => by
  simp only [List.mem_singleton] at hp
  subst hp
  exact k
theorem GroupP.nil (T : TypeId) (m : Value) (F : HP) : Ent F (GroupP T m [] * F) := fun h hf => ⟨h, hle.rfl' h, fun _ => none, h, fun _ => .inl rfl, (fun _ _ e => by cases e), hle.rfl' h, (fun p hp => by simp at hp), hf⟩
theorem GroupP.reads {T : TypeId} {m : Value} {gs : List (Value × Nat)} {v : Value} {n : Nat} (hp : (v, n) ∈ gs) : Ent (GroupP T m gs) (Reads 1 v n (List.replicate n m)) := fun h k => by
  obtain ⟨h', l, r⟩ := RowO.reads T 1 v n (List.replicate n m) h (k (v, n) hp)
  exact ⟨h', l, r⟩
theorem GroupP.sub {T : TypeId} {m : Value} {gs gs' : List (Value × Nat)} (hs : ∀ p ∈ gs', p ∈ gs) : Ent (GroupP T m gs) (GroupP T m gs') := Ent.of fun h k p hp => k p (hs p hp)
theorem GroupP.add {T : TypeId} {m : Value} {gs : List (Value × Nat)} {v : Value} {n : Nat} {B : HP} (hB : ∀ h, B h → RowO T 1 v n (List.replicate n m) h) : Ent (B * GroupP T m gs) (GroupP T m ((v, n) :: gs)) := by
  rintro h ⟨h1, h2, d, l1, l2, a, k⟩
  refine ⟨h, hle.rfl' h, fun p hp => ?_⟩
  rcases List.mem_cons.1 hp with rfl | hp
  · exact (hB h1 a).mono l1
  · exact (k p hp).mono l2

/-- append of one mark more to one of them. -/
theorem St.appMark {P : Program} {w0 w : World} {F : HP} {t tx ty e bs : Nat} {zs : List Value} {v x mk : Value} {n : Nat} {gs : List (Value × Nat)} {K : Value → World → Prop} {θ : Tag K}
    (h : St w0 (GroupP e mk gs * F) w) (hp : (v, n) ∈ gs) (ht : rowTy P t = some (e, 1, bs, zs)) (hs : Src P 1 tx x 1 [mk] w) (h63 : n + 1 ≤ maxLen) (hb : (n + 1) * bs ≤ 140737488355328)
    (hK : ∀ v' w', St w0 (GroupP e mk ((v', n + 1) :: gs) * F) w' → K v' w') : semD P (kAppend #[t, tx] ty #[v, x]) w K θ := by
  show semD P (Builtin.append_ #[t, tx] ty #[v, x]) w K θ
  obtain ⟨hu, i, z, hi, hz, h1s, rfl, hzs, rfl⟩ := rowTy_some ht
  obtain ⟨hh, hl, h1, h2, hd, l1, l2, hr, hf⟩ := h.sat
  have hv : RowO e 1 v n (List.replicate n mk) h1 := hr (v, n) hp
  have hrep : List.replicate n mk ++ [mk] = List.replicate (n + 1) mk := by rw [List.replicate_succ']
  have h63' : ((n + 1 : Nat) : Int) ≤ 9223372036854775807 := by simp only [maxLen] at h63; omega
  have hnl : (List.replicate n mk).length = n * i.size := by rw [List.length_replicate, h1s]; omega
  have hs' : Src P i.size tx x 1 [mk] w := by rw [h1s]; exact hs
  have grow : ∀ (base : Option Addr) (cap : Nat), v = .slice base n cap → cap < n + 1 → (Builtin.firstCells i.size n (.slice base n cap)).run P w.drew = .ok (List.replicate n mk).toArray w.drew →
      semD P (Builtin.append_ #[t, tx] ty #[v, x]) w K θ := by
    intro base cap hv hc hold
    subst hv
    have := run_append_grow_src (P := P) w t tx ty e i z hu hi hz base n cap (List.replicate n mk) hold x 1 [mk] hs' hc h63' (growslice_fits hc hb)
    refine ⟨_, _, this, hK _ _ ?_⟩
    have hg := grownCap_ge w (n + 1) cap e
    have hcm := grownCap_le_maxLen w (n + 1) cap e h63
    have hst : St w0 (GroupP e mk gs * F) w.drew := St.drew h
    refine ((hst.alloc _).ac (sep_assoc _ _ _).symm).ent (Ent.sep (GroupP.add fun k hk => .inr ⟨w.heap.size, 0, grownCap w (n + 1) cap e, _, rfl, hk, hg, hcm, ?_, ?_, ?_⟩) (Ent.rfl' F))
    · simp only [Array.size_append, List.size_toArray, List.length_append, size_zeroCells, hzs, List.length_replicate, List.length_cons, List.length_nil]
      omega
    · simp only [Array.toList_append, List.drop_zero]
      rw [hrep, show (n + 1) * 1 = (List.replicate (n + 1) mk).length by simp]
      exact List.take_left
    · rw [List.length_replicate]; omega
  rcases hv with ⟨rfl, h0, _⟩ | ⟨g, o, cap, cur, rfl, hg, hnc, hcm, hcs, htake, _⟩
  · subst h0
    exact grow none 0 rfl (by omega) (by simp [Builtin.firstCells])
  · have hgw : w.heap[g]? = some (.cells cur e (0, 0)) := hl g _ (l1 g _ hg)
    by_cases hroom : n + 1 ≤ cap
    · have hfit : o + n * i.size + [mk].length ≤ cur.size := by rw [h1s]; simp; omega
      have := run_append_room_src (P := P) w t tx ty e i hu hi g o n cap x 1 [mk] hs' hroom
        (fun j hj => by rw [cell_of_heap hgw]; simp only [List.length_cons, List.length_nil] at hj hfit; simp [show o + n * i.size + j < cur.size by omega]) (fun j _ => frozen_of_heap hgw _)
      refine ⟨_, _, this, hK _ _ ?_⟩
      obtain ⟨a1, a2, a3, a4, a5, a6⟩ := heap_setCells g e (0, 0) [mk] (o + n * i.size) w cur hgw
      rw [h1s, Nat.mul_one] at a1 hfit ⊢
      rw [h1s, Nat.mul_one] at a2 a4 a5 a6
      simp only [List.length_cons, List.length_nil] at hfit
      refine h.turnG (b := g) a4 a5 a6 (by rw [h1s, Nat.mul_one] at a3; omega) (fun k hk _ => a2 k hk) fun hx lx ax => ?_
      have hgx : hx g = some (.cells cur e (0, 0)) := by
        have hvx := ax _ hp
        rcases hvx with ⟨hv, _⟩ | ⟨g', o', cap', cur', hv, hg', _⟩
        · cases hv
        · simp only [Value.slice.injEq, Option.some.injEq, Addr.mk.injEq] at hv
          obtain ⟨⟨rfl, rfl, _⟩, _⟩ := hv
          have := lx _ _ hg'
          rw [hg', ← this]
          exact hgw
      refine ⟨⟨_, hgx⟩, fun k => if k = g then some (.cells (setRowL cur.toList (o + n) [mk]).toArray e (0, 0)) else hx k, fun k q he => ?_, fun k q he => ?_, fun p hp' => ?_⟩
      · by_cases hkg : k = g
        · subst hkg; exact .inl ⟨_, hgx⟩
        · simp only [if_neg hkg] at he; exact .inl ⟨_, he⟩
      · by_cases hkg : k = g
        · subst hkg
          simp only [if_true] at he
          exact a1.trans he
        · simp only [if_neg hkg] at he
          have := lx k q he
          show _ = some q
          rw [← this]
          exact a2 k hkg
      · have hset : setRowL cur.toList (o + n) [mk] = cur.toList.set (o + n) mk := by simp [setRowL]
        rcases List.mem_cons.1 hp' with rfl | hp'
        · refine .inr ⟨g, o, cap, (setRowL cur.toList (o + n) [mk]).toArray, rfl, if_pos rfl, hroom, hcm, by simp [length_setRowL]; omega, ?_, by simp⟩
          rw [List.toList_toArray, hset]
          have e1 : (cur.toList.drop o).take (n * 1) = List.replicate n mk := htake
          rw [Nat.mul_one] at e1
          simp only [Nat.mul_one]
          rw [← hrep, ← e1, List.drop_set, if_neg (by omega), show o + n - o = n by omega]
          apply List.ext_getElem?
          intro j
          rw [List.getElem?_take, List.getElem?_append]
          have hlen : ((cur.toList.drop o).take n).length = n := by rw [List.length_take, List.length_drop, Array.length_toList]; omega
          rw [hlen]
          by_cases hj : j < n
          · rw [if_pos (by omega), if_pos hj, List.getElem?_set_ne (by omega), List.getElem?_take, if_pos hj]
          · rw [if_neg hj]
            by_cases hj2 : j = n
            · subst hj2
              rw [if_pos (by omega), List.getElem?_set_self (by rw [List.length_drop, Array.length_toList]; omega), Nat.sub_self]
              rfl
            · rw [if_neg (by omega), List.getElem?_eq_none (by simp; omega)]
        · rcases ax p hp' with ⟨hv, hn, hx0⟩ | ⟨g', o', cap', cur', hv, hg', hn', hc', hs', ht', hl'⟩
          · exact .inl ⟨hv, hn, hx0⟩
          · by_cases hgg : g' = g
            · subst hgg
              rw [hgx] at hg'
              simp only [Option.some.injEq, Obj.cells.injEq] at hg'
              obtain ⟨rfl, _⟩ := hg'
              refine .inr ⟨g', o', cap', (setRowL cur.toList (o + n) [mk]).toArray, hv, if_pos rfl, hn', hc', by simpa [length_setRowL] using hs', ?_, hl'⟩
              rw [List.toList_toArray, hset]
              simp only [Nat.mul_one] at ht' ⊢
              apply List.ext_getElem?
              intro j
              have hj0 := congrArg (fun l => l[j]?) ht'
              simp only [List.getElem?_take, List.getElem?_drop, List.getElem?_replicate] at hj0 ⊢
              by_cases hj : j < p.2
              · rw [if_pos hj] at hj0 ⊢
                rw [if_pos hj] at hj0
                rw [if_pos hj]
                by_cases he : o + n = o' + j
                · rw [he, List.getElem?_set_self (by
                    have := (List.getElem?_eq_some_iff.1 hj0).1
                    exact this)]
                · rw [List.getElem?_set_ne he, hj0]
              · rw [if_neg hj, if_neg hj]
            · exact .inr ⟨g', o', cap', cur', hv, (if_neg hgg).trans hg', hn', hc', hs', ht', hl'⟩
    · refine grow (some ⟨g, o, none⟩) cap rfl (by omega) ?_
      have hc : ∀ j u, (List.replicate n mk)[j]? = some u → w.drew.cell? ((⟨g, o, none⟩ : Addr).add j) = some u := by
        intro j u hu
        rw [add_lit]
        have : w.drew.cell? ⟨g, o + j, none⟩ = cur[o + j]? := cell_of_heap (w := w.drew) hgw (o + j)
        rw [this]
        rw [← htake, List.getElem?_take] at hu
        split at hu
        · simpa [List.getElem?_drop] using hu
        · cases hu
      exact run_firstCells_some w.drew i.size n ⟨g, o, none⟩ n cap (List.replicate n mk) hnl hc

end Go.Proofs.YtkijkoakloacoaaGreatDoor
