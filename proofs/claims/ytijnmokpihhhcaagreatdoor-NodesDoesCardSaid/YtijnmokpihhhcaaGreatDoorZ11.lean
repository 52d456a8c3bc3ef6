/- part 11 -/
import Derived.Test.YtijnmokpihhhcaaGreatDoorZ1
import Derived.Test.YtijnmokpihhhcaaGreatDoorZ2
import Derived.Test.YtijnmokpihhhcaaGreatDoorZ3
import Derived.Test.YtijnmokpihhhcaaGreatDoorZ4
import Derived.Test.YtijnmokpihhhcaaGreatDoorZ5
import Derived.Test.YtijnmokpihhhcaaGreatDoorZ6
import Derived.Test.YtijnmokpihhhcaaGreatDoorZ7
import Derived.Test.YtijnmokpihhhcaaGreatDoorZ8
import Derived.Test.YtijnmokpihhhcaaGreatDoorZ9
import Derived.Test.YtijnmokpihhhcaaGreatDoorZ10
import Derived.Laws.IdiomCopy
import Derived.ChangeArms
import Derived.SizedLaws
import Derived.Laws.MakeOwn
namespace Go.Proofs.YtijnmokpihhhcaaGreatDoor
open Go
set_option linter.unusedVariables false
theorem RowO.mono {T s : Nat} {v : Value} {n : Nat} {xs : List Value} {h h' : Heap} (l : hle h h') (k : RowO T s v n xs h) : RowO T s v n xs h' := by
  rcases k with k | ⟨g, o, cap, cur, hv, hg, r⟩
  · exact .inl k
  · exact .inr ⟨g, o, cap, cur, hv, l g _ hg, r⟩
theorem St.turnG {w0 w w' : World} {b : Nat} {A A' F : HP} (h : St w0 (A * F) w) (ho : w'.os = w.os) (ht : w'.tape = w.tape) (hu : w'.output = w.output) (hs : w.heap.size ≤ w'.heap.size)
    (hk : ∀ k, k ≠ b → k < w.heap.size → w'.heap[k]? = w.heap[k]?)
    (hA : ∀ h1, hle h1 (heapOf w) → A h1 → (∃ o, h1 b = some o) ∧ ∃ h', (∀ k o, h' k = some o → (∃ o', h1 k = some o') ∨ w.heap.size ≤ k) ∧ hle h' (heapOf w') ∧ A' h')
    (hdr : w.drawn ≤ w'.drawn := by first | exact Nat.le_refl _ | simp only [drawn_setCells, Nat.le_refl]) : St w0 (A' * F) w' := by
  obtain ⟨x, l, h1, h2, d, l1, l2, a, f⟩ := h.sat
  obtain ⟨⟨o, ho1⟩, h', hd', hl', a'⟩ := hA h1 (l1.trans l) a
  have hb2 : h2 b = none := (d b).resolve_left (by rw [ho1]; simp)
  have hlt : ∀ k o, h2 k = some o → k < w.heap.size := fun k o e => (Array.getElem?_eq_some_iff.1 (l k o (l2 k o e))).1
  have hl2 : hle h2 (heapOf w') := fun k o e => by
    have hne : k ≠ b := fun e' => by subst e'; rw [hb2] at e; cases e
    show w'.heap[k]? = some o
    rw [hk k hne (hlt k o e)]
    exact l k o (l2 k o e)
  refine ⟨ho.trans h.os, ht.trans h.tape, hu.trans h.output, trivial, Nat.le_trans h.size hs, heapOf w', hle.rfl' _, h', h2, fun k => ?_, hl', hl2, a', f⟩
  cases hk' : h' k with
  | none => exact .inl rfl
  | some o' =>
    right
    rcases hd' k o' hk' with ⟨o2, h2'⟩ | hge
    · exact (d k).resolve_left (by rw [h2']; simp)
    · cases he : h2 k with
      | none => rfl
      | some o'' => have := hlt k o'' he; omega
def GroupP (T : TypeId) (m : Value) (gs : List (Value × Nat)) : HP := fun h => ∀ p ∈ gs, RowO T 1 p.1 p.2 (List.replicate p.2 m) h
theorem GroupP.one (T : TypeId) (m : Value) (v : Value) (n : Nat) : Ent (RowO T 1 v n (List.replicate n m)) (GroupP T m [(v, n)]) := Ent.of fun h k p hp => by
  simp only [List.mem_singleton] at hp
  subst hp
  exact k
theorem GroupP.nil (T : TypeId) (m : Value) (F : HP) : Ent F (GroupP T m [] * F) := fun h hf => ⟨h, hle.rfl' h, fun _ => none, h, fun _ => .inl rfl, (fun _ _ e => by cases e), hle.rfl' h, (fun p hp => by simp at hp), hf⟩
theorem GroupP.reads {T : TypeId} {m : Value} {gs : List (Value × Nat)} {v : Value} {n : Nat} (hp : (v, n) ∈ gs) : Ent (GroupP T m gs) (Reads 1 v n (List.replicate n m)) := fun h k => by
  obtain ⟨h', l, r⟩ := RowO.reads T 1 v n (List.replicate n m) h (k (v, n) hp)
  exact ⟨h', l, r⟩
theorem GroupP.sub {T : TypeId} {m : Value} {gs gs' : List (Value × Nat)} (hs : ∀ p ∈ gs', p ∈ gs) : Ent (GroupP T m gs) (GroupP T m gs') := Ent.of fun h k p hp => k p (hs p hp)
theorem GroupP.add {T : TypeId} {m : Value} {gs : List (Value × Nat)} {v : Value} {n : Nat} {B : HP} (hB : ∀ h, B h → RowO T 1 v n (List.replicate n m) h) : Ent (B * GroupP T m gs) (GroupP T m ((v, n) :: gs)) := by
  rintro h ⟨h1, h2, d, l1, l2, a, k⟩
  refine ⟨h, hle.rfl' h, fun p hp => ?_⟩
  rcases List.mem_cons.1 hp with rfl | hp
  · exact (hB h1 a).mono l1
  · exact (k p hp).mono l2
theorem St.appMark {P : Program} {w0 w : World} {F : HP} {t tx ty e bs : Nat} {zs : List Value} {v x mk : Value} {n : Nat} {gs : List (Value × Nat)} {K : Value → World → Prop} {θ : Tag K}
    (h : St w0 (GroupP e mk gs * F) w) (hp : (v, n) ∈ gs) (ht : rowTy P t = some (e, 1, bs, zs)) (hs : Src P 1 tx x 1 [mk] w) (h63 : n + 1 ≤ maxLen) (hb : (n + 1) * bs ≤ 140737488355328)
    (hK : ∀ v' w', St w0 (GroupP e mk ((v', n + 1) :: gs) * F) w' → K v' w') : semD P (kAppend #[t, tx] ty #[v, x]) w K θ := by
  show semD P (Builtin.append_ #[t, tx] ty #[v, x]) w K θ
  obtain ⟨hu, i, z, hi, hz, h1s, rfl, hzs, rfl⟩ := rowTy_some ht
  obtain ⟨hh, hl, h1, h2, hd, l1, l2, hr, hf⟩ := h.sat
  have hv : RowO e 1 v n (List.replicate n mk) h1 := hr (v, n) hp
  have hrep : List.replicate n mk ++ [mk] = List.replicate (n + 1) mk := by rw [List.replicate_succ']
  have h63' : ((n + 1 : Nat) : Int) ≤ 9223372036854775807 := by simp only [maxLen] at h63; omega
  have hnl : (List.replicate n mk).length = n * i.size := by rw [List.length_replicate, h1s]; omega
  have hs' : Src P i.size tx x 1 [mk] w := by rw [h1s]; exact hs
  have grow : ∀ (base : Option Addr) (cap : Nat), v = .slice base n cap → cap < n + 1 → (Builtin.firstCells i.size n (.slice base n cap)).run P w.drew = .ok (List.replicate n mk).toArray w.drew →
      semD P (Builtin.append_ #[t, tx] ty #[v, x]) w K θ := by
    intro base cap hv hc hold
    subst hv
    have := run_append_grow_src (P := P) w t tx ty e i z hu hi hz base n cap (List.replicate n mk) hold x 1 [mk] hs' hc h63' (growslice_fits hc hb)
    refine ⟨_, _, this, hK _ _ ?_⟩
    have hg := grownCap_ge w (n + 1) cap e
    have hcm := grownCap_le_maxLen w (n + 1) cap e h63
    have hst : St w0 (GroupP e mk gs * F) w.drew := St.drew h
    refine ((hst.alloc _).ac (sep_assoc _ _ _).symm).ent (Ent.sep (GroupP.add fun k hk => .inr ⟨w.heap.size, 0, grownCap w (n + 1) cap e, _, rfl, hk, hg, hcm, ?_, ?_, ?_⟩) (Ent.rfl' F))
    · simp only [Array.size_append, List.size_toArray, List.length_append, size_zeroCells, hzs, List.length_replicate, List.length_cons, List.length_nil]
      omega
    · simp only [Array.toList_append, List.drop_zero]
      rw [hrep, show (n + 1) * 1 = (List.replicate (n + 1) mk).length by simp]
      exact List.take_left
    · rw [List.length_replicate]; omega
  rcases hv with ⟨rfl, h0, _⟩ | ⟨g, o, cap, cur, rfl, hg, hnc, hcm, hcs, htake, _⟩
  · subst h0
    exact grow none 0 rfl (by omega) (by simp [Builtin.firstCells])
  · have hgw : w.heap[g]? = some (.cells cur e (0, 0)) := hl g _ (l1 g _ hg)
    by_cases hroom : n + 1 ≤ cap
    · have hfit : o + n * i.size + [mk].length ≤ cur.size := by rw [h1s]; simp; omega
      have := run_append_room_src (P := P) w t tx ty e i hu hi g o n cap x 1 [mk] hs' hroom
        (fun j hj => by rw [cell_of_heap hgw]; simp only [List.length_cons, List.length_nil] at hj hfit; simp [show o + n * i.size + j < cur.size by omega]) (fun j _ => frozen_of_heap hgw _)
      refine ⟨_, _, this, hK _ _ ?_⟩
      obtain ⟨a1, a2, a3, a4, a5, a6⟩ := heap_setCells g e (0, 0) [mk] (o + n * i.size) w cur hgw
      rw [h1s, Nat.mul_one] at a1 hfit ⊢
      rw [h1s, Nat.mul_one] at a2 a4 a5 a6
      simp only [List.length_cons, List.length_nil] at hfit
      refine h.turnG (b := g) a4 a5 a6 (by rw [h1s, Nat.mul_one] at a3; omega) (fun k hk _ => a2 k hk) fun hx lx ax => ?_
      have hgx : hx g = some (.cells cur e (0, 0)) := by
        have hvx := ax _ hp
        rcases hvx with ⟨hv, _⟩ | ⟨g', o', cap', cur', hv, hg', _⟩
        · cases hv
        · simp only [Value.slice.injEq, Option.some.injEq, Addr.mk.injEq] at hv
          obtain ⟨⟨rfl, rfl, _⟩, _⟩ := hv
          have := lx _ _ hg'
          rw [hg', ← this]
          exact hgw
      refine ⟨⟨_, hgx⟩, fun k => if k = g then some (.cells (setRowL cur.toList (o + n) [mk]).toArray e (0, 0)) else hx k, fun k q he => ?_, fun k q he => ?_, fun p hp' => ?_⟩
      · by_cases hkg : k = g
        · subst hkg; exact .inl ⟨_, hgx⟩
        · simp only [if_neg hkg] at he; exact .inl ⟨_, he⟩
      · by_cases hkg : k = g
        · subst hkg
          simp only [if_true] at he
          exact a1.trans he
        · simp only [if_neg hkg] at he
          have := lx k q he
          show _ = some q
          rw [← this]
          exact a2 k hkg
      · have hset : setRowL cur.toList (o + n) [mk] = cur.toList.set (o + n) mk := by simp [setRowL]
        rcases List.mem_cons.1 hp' with rfl | hp'
        · refine .inr ⟨g, o, cap, (setRowL cur.toList (o + n) [mk]).toArray, rfl, if_pos rfl, hroom, hcm, by simp [length_setRowL]; omega, ?_, by simp⟩
          rw [List.toList_toArray, hset]
          have e1 : (cur.toList.drop o).take (n * 1) = List.replicate n mk := htake
          rw [Nat.mul_one] at e1
          simp only [Nat.mul_one]
          rw [← hrep, ← e1, List.drop_set, if_neg (by omega), show o + n - o = n by omega]
          apply List.ext_getElem?
          intro j
          rw [List.getElem?_take, List.getElem?_append]
          have hlen : ((cur.toList.drop o).take n).length = n := by rw [List.length_take, List.length_drop, Array.length_toList]; omega
          rw [hlen]
          by_cases hj : j < n
          · rw [if_pos (by omega), if_pos hj, List.getElem?_set_ne (by omega), List.getElem?_take, if_pos hj]
          · rw [if_neg hj]
            by_cases hj2 : j = n
            · subst hj2
              rw [if_pos (by omega), List.getElem?_set_self (by rw [List.length_drop, Array.length_toList]; omega), Nat.sub_self]
              rfl
            · rw [if_neg (by omega), List.getElem?_eq_none (by simp; omega)]
        · rcases ax p hp' with ⟨hv, hn, hx0⟩ | ⟨g', o', cap', cur', hv, hg', hn', hc', hs', ht', hl'⟩
          · exact .inl ⟨hv, hn, hx0⟩
          · by_cases hgg : g' = g
            · subst hgg
              rw [hgx] at hg'
              simp only [Option.some.injEq, Obj.cells.injEq] at hg'
              obtain ⟨rfl, _⟩ := hg'
              refine .inr ⟨g', o', cap', (setRowL cur.toList (o + n) [mk]).toArray, hv, if_pos rfl, hn', hc', by simpa [length_setRowL] using hs', ?_, hl'⟩
              rw [List.toList_toArray, hset]
              simp only [Nat.mul_one] at ht' ⊢
              apply List.ext_getElem?
              intro j
              have hj0 := congrArg (fun l => l[j]?) ht'
              simp only [List.getElem?_take, List.getElem?_drop, List.getElem?_replicate] at hj0 ⊢
              by_cases hj : j < p.2
              · rw [if_pos hj] at hj0 ⊢
                rw [if_pos hj] at hj0
                rw [if_pos hj]
                by_cases he : o + n = o' + j
                · rw [he, List.getElem?_set_self (by
                    have := (List.getElem?_eq_some_iff.1 hj0).1
                    exact this)]
                · rw [List.getElem?_set_ne he, hj0]
              · rw [if_neg hj, if_neg hj]
            · exact .inr ⟨g', o', cap', cur', hv, (if_neg hgg).trans hg', hn', hc', hs', ht', hl'⟩
    · refine grow (some ⟨g, o, none⟩) cap rfl (by omega) ?_
      have hc : ∀ j u, (List.replicate n mk)[j]? = some u → w.drew.cell? ((⟨g, o, none⟩ : Addr).add j) = some u := by
        intro j u hu
        rw [add_lit]
        have : w.drew.cell? ⟨g, o + j, none⟩ = cur[o + j]? := cell_of_heap (w := w.drew) hgw (o + j)
        rw [this]
        rw [← htake, List.getElem?_take] at hu
        split at hu
        · simpa [List.getElem?_drop] using hu
        · cases hu
      exact run_firstCells_some w.drew i.size n ⟨g, o, none⟩ n cap (List.replicate n mk) hnl hc
set_option linter.unusedSimpArgs false
set_option maxRecDepth 100000
theorem starL_mem {α : Type} {A : α → HP} {x : α} : ∀ {l : List α}, x ∈ l → Ent (starL A l) (A x)
  | y :: l, h => by
    rcases List.mem_cons.1 h with rfl | h
    · exact Ent.left _ _
    · exact (Ent.right _ _).trans (starL_mem h)
abbrev EL := List (Value × Nat × UInt8)
abbrev GL := List (UInt8 × List (Value × Nat))
def grps (Gs : GL) : HP := starL (fun g : UInt8 × List (Value × Nat) => GroupP 5 (bv g.1) g.2) Gs
structure EOk (E : EL) (Gs : GL) : Prop where
  gr : ∀ x ∈ E, ∃ g ∈ Gs, g.1 = x.2.2 ∧ (x.1, x.2.1) ∈ g.2
  ce : ∀ x ∈ E, isCell x.1 = true ∧ x.2.1 ≤ 2147483648
abbrev eV (E : EL) : List Value := E.map (·.1)
theorem St.cell1 {w0 w : World} {v : Value} {n : Nat} {xs : List Value} (h : St w0 (Reads 1 v n xs) w) : n = xs.length ∧ ∃ a c, v = .slice a n c ∧ n ≤ c ∧ ∀ i (hi : i < xs.length), ∃ b o, a = some ⟨b, o, none⟩ ∧ w.cell? ⟨b, o + i, none⟩ = some xs[i] := by
  have hl := h.rd.length
  obtain ⟨a, c, hv, hnc, hr⟩ := h.rd.form
  refine ⟨by omega, a, c, hv, hnc, fun i hi => ?_⟩
  rcases hr with rfl | ⟨b, o, rfl, hr⟩
  · simp at hi
  · exact ⟨b, o, rfl, by rw [hr i hi]; simp [hi]⟩
theorem St.at1 {w0 w : World} {A : HP} {a : Option Addr} {n c : Nat} {xs : List Value} (h : St w0 A w) [i : Gives A (Reads 1 (.slice a n c) n xs)] {k : Nat} (hk : k < xs.length) : ∃ b o, a = some ⟨b, o, none⟩ ∧ w.cell? ⟨b, o + k, none⟩ = some xs[k] := by
  obtain ⟨_, a', c', hv, _, hr⟩ := (h.ent i.ent).cell1
  simp only [Value.slice.injEq, true_and] at hv
  obtain ⟨rfl, rfl⟩ := hv
  exact hr k hk
def GLe (Gs Gs' : GL) : Prop := ∀ y ∈ Gs, ∃ y' ∈ Gs', y'.1 = y.1 ∧ ∀ p ∈ y.2, p ∈ y'.2
theorem GLe.rfl' (Gs : GL) : GLe Gs Gs := fun y hy => ⟨y, hy, rfl, fun _ h => h⟩
theorem EOk.mono {E : EL} {Gs Gs' : GL} (ok : EOk E Gs) (l : GLe Gs Gs') : EOk E Gs' :=
  ⟨fun x hx => by
    obtain ⟨g, hg, h1, h2⟩ := ok.gr x hx
    obtain ⟨g', hg', h3, h4⟩ := l g hg
    exact ⟨g', hg', h3.trans h1, h4 _ h2⟩, ok.ce⟩
theorem EOk.snoc {E : EL} {Gs : GL} {v : Value} {n : Nat} {m : UInt8} (ok : EOk E Gs) (hg : ∃ y ∈ Gs, y.1 = m ∧ (v, n) ∈ y.2) (hc : isCell v = true) (hn : n ≤ 2147483648) : EOk (E ++ [(v, n, m)]) Gs :=
  ⟨fun x hx => by
    rcases List.mem_append.1 hx with hx | hx
    · exact ok.gr x hx
    · simp only [List.mem_singleton] at hx
      subst hx
      exact hg, fun x hx => by
    rcases List.mem_append.1 hx with hx | hx
    · exact ok.ce x hx
    · simp only [List.mem_singleton] at hx
      subst hx
      exact ⟨hc, hn⟩⟩
theorem grp_reads {w0 w : World} {A R : HP} {Gs : GL} {g : UInt8 × List (Value × Nat)} {v : Value} {n : Nat} (hg : g ∈ Gs) (hp : (v, n) ∈ g.2) (h : St w0 A w) [i : Pull A (grps Gs) R] : St w0 (Reads 1 v n (List.replicate n (bv g.1))) w := by
  have h1 : St w0 (grps Gs * R) w := h.ac i.eq
  exact h1.ent ((Ent.left _ _).trans ((starL_mem (A := fun g : UInt8 × List (Value × Nat) => GroupP 5 (bv g.1) g.2) hg).trans (GroupP.reads hp)))
theorem St.appMarkG {w0 w : World} {A R : HP} {Gs : GL} {g : UInt8 × List (Value × Nat)} {t tx ty e' bs : Nat} {zs : List Value} {v x : Value} {n : Nat} {K : Value → World → Prop} {θ : Tag K}
    (h : St w0 A w) [i : Pull A (grps Gs) R] (hg : g ∈ Gs) (hp : (v, n) ∈ g.2) (ht : rowTy Tryz.prog t = some (5, 1, bs, zs)) (hx : Ent A (Reads 1 x 1 [bv g.1])) (hu : Tryz.prog.underlying tx = some (.slice e')) (h63 : n + 1 ≤ maxLen) (hb : (n + 1) * bs ≤ 140737488355328)
    (hK : ∀ v' w' Gs', GLe Gs Gs' → (∃ y ∈ Gs', y.1 = g.1 ∧ (v', n + 1) ∈ y.2) → (∃ a c, v' = .slice a (n + 1) c) → St w0 (grps Gs' * R) w' → K v' w') : semD Tryz.prog (kAppend #[t, tx] ty #[v, x]) w K θ := by
  have hs : Src Tryz.prog 1 tx x 1 [bv g.1] w := ((h.ent hx).rd).src hu (by intro u hu; simp only [List.mem_singleton] at hu; subst hu; rfl) (fun h => by cases h)
  obtain ⟨G1, G2, rfl⟩ := List.append_of_mem hg
  have h1 : St w0 (GroupP 5 (bv g.1) g.2 * (grps (G1 ++ G2) * R)) w := h.ac (by rw [i.eq]; unfold grps; rw [starL_split]; ac_rfl)
  refine h1.appMark hp ht hs h63 hb fun v' w' h2 => ?_
  have hin : (v', n + 1) ∈ (v', n + 1) :: g.2 := List.mem_cons_self
  refine hK v' w' (G1 ++ (g.1, (v', n + 1) :: g.2) :: G2) ?_ ⟨(g.1, (v', n + 1) :: g.2), by simp, rfl, hin⟩ ?_ ?_
  · intro y hy
    rcases List.mem_append.1 hy with hy | hy
    · exact ⟨y, by simp [hy], rfl, fun _ h => h⟩
    · rcases List.mem_cons.1 hy with rfl | hy
      · exact ⟨(y.1, (v', n + 1) :: y.2), by simp, rfl, fun p hp => List.mem_cons_of_mem _ hp⟩
      · exact ⟨y, by simp [hy], rfl, fun _ h => h⟩
  · obtain ⟨_, a, c, hv, _⟩ := (h2.ent ((Ent.left _ _).trans (GroupP.reads hin))).cell1
    exact ⟨a, c, hv⟩
  · exact h2.ac (by unfold grps; rw [starL_split]; ac_rfl)
abbrev BL := List (Option (Nat × List UInt8))
theorem byteAt_none {P : BL} {k : Nat} (h : P.length ≤ k / 256) : byteAt P k = 0 := by
  unfold byteAt; rw [List.getElem?_eq_none h]
theorem byteAt_set {P : BL} {q : Nat} {a : Nat} {bs : List UInt8} (hq : q < P.length) (k : Nat) : byteAt (P.set q (some (a, bs))) k = if k / 256 = q then bs.getD (k % 256) 0 else byteAt P k := by
  unfold byteAt
  by_cases e : k / 256 = q
  · rw [e, List.getElem?_set_self (by omega), if_pos rfl]
  · rw [List.getElem?_set_ne (fun h => e h.symm), if_neg e]
theorem byteAt_some {P : BL} {q : Nat} {a : Nat} {bs : List UInt8} (hq : P[q]? = some (some (a, bs))) {k : Nat} (hk : k / 256 = q) : byteAt P k = bs.getD (k % 256) 0 := by
  unfold byteAt; rw [hk, hq]
theorem byteAt_nil {P : BL} {q : Nat} (hq : P[q]? = some none) {k : Nat} (hk : k / 256 = q) : byteAt P k = 0 := by
  unfold byteAt; rw [hk, hq]
theorem byteAt_take {P : BL} {n k : Nat} : byteAt (P.take n) k = if k / 256 < n then byteAt P k else 0 := by
  unfold byteAt
  rw [List.getElem?_take]
  by_cases h : k / 256 < n
  · rw [if_pos h, if_pos h]
  · rw [if_neg h, if_neg h]
theorem byteAt_app {P : BL} {n k : Nat} : byteAt (P ++ List.replicate n none) k = byteAt P k := by
  unfold byteAt
  rcases Nat.lt_or_ge (k / 256) P.length with h | h
  · rw [List.getElem?_append_left h]
  · rw [List.getElem?_append_right h, List.getElem?_eq_none (l := P) h, List.getElem?_replicate]
    split <;> (first | rfl | (rename_i h2; split at h2 <;> simp_all))
def zeroF (bs : List UInt8) (p : Nat) : List UInt8 := bs.take p ++ List.replicate (256 - p) 0
theorem zeroF_len {bs : List UInt8} {p : Nat} (h : bs.length = 256) (hp : p ≤ 256) : (zeroF bs p).length = 256 := by simp [zeroF]; omega
theorem zeroF_get {bs : List UInt8} {p : Nat} (h : bs.length = 256) (hp : p ≤ 256) (j : Nat) : (zeroF bs p).getD j 0 = if j < p then bs.getD j 0 else 0 := by
  unfold zeroF
  simp only [List.getD_eq_getElem?_getD]
  rcases Nat.lt_or_ge j p with h1 | h1
  · rw [if_pos h1, List.getElem?_append_left (by simp; omega), List.getElem?_take_of_lt h1]
  · rw [if_neg (by omega), List.getElem?_append_right (by simp; omega), List.getElem?_replicate]
    split <;> rfl
def overF (bs : List UInt8) (p : Nat) (d : List UInt8) : List UInt8 := bs.take p ++ d ++ bs.drop (p + d.length)
theorem overF_len {bs d : List UInt8} {p : Nat} (h : p + d.length ≤ bs.length) : (overF bs p d).length = bs.length := by simp [overF]; omega
theorem overF_get {bs d : List UInt8} {p : Nat} (h : p + d.length ≤ bs.length) (j : Nat) : (overF bs p d).getD j 0 = if p ≤ j ∧ j < p + d.length then d.getD (j - p) 0 else bs.getD j 0 := by
  unfold overF
  simp only [List.getD_eq_getElem?_getD]
  rcases Nat.lt_or_ge j p with h1 | h1
  · rw [if_neg (by omega), List.append_assoc, List.getElem?_append_left (by simp; omega), List.getElem?_take_of_lt h1]
  · rcases Nat.lt_or_ge j (p + d.length) with h2 | h2
    · rw [if_pos ⟨h1, h2⟩, List.append_assoc, List.getElem?_append_right (by simp; omega), List.getElem?_append_left (by simp; omega)]
      congr 2
      simp; omega
    · rw [if_neg (by omega), List.getElem?_append_right (by simp; omega), List.getElem?_drop]
      congr 2
      simp; omega
theorem mem_set {P : BL} {q : Nat} {x y : Option (Nat × List UInt8)} (h : y ∈ P.set q x) : y = x ∨ y ∈ P := by
  rcases List.mem_or_eq_of_mem_set h with h | h
  · exact .inr h
  · exact .inl h
theorem BlksOk.cut {P P' : BL} {b : List UInt8} (ok : BlksOk P b) {k W : Nat} (hk : k ≤ 65536)
    (hP : (W = k / 256 ∧ P' = P ∧ (k % 256 = 0 ∨ P.length ≤ k / 256)) ∨ (W = k / 256 + 1 ∧ 0 < k % 256 ∧ k / 256 < P.length ∧ ((P[k / 256]? = some none ∧ P' = P) ∨ ∃ a bs, P[k / 256]? = some (some (a, bs)) ∧ P' = P.set (k / 256) (some (a, zeroF bs (k % 256)))))) :
    BlksOk (P'.take W) (padF b k) := by
  have hlen : P'.length = P.length := by
    rcases hP with ⟨_, rfl, _⟩ | ⟨_, _, _, ⟨_, rfl⟩ | ⟨a, bs, _, rfl⟩⟩ <;> simp
  refine ⟨by rw [List.length_take, hlen]; have := ok.few; omega, fun p hp => ?_, fun j hj => ?_⟩
  · have hp := List.mem_of_mem_take hp
    rcases hP with ⟨_, rfl, _⟩ | ⟨_, _, _, ⟨_, rfl⟩ | ⟨a, bs, hb, rfl⟩⟩
    · exact ok.full p hp
    · exact ok.full p hp
    · rcases mem_set hp with h | h
      · simp only [Option.some.injEq] at h
        subst h
        exact zeroF_len (ok.full (a, bs) (List.mem_of_getElem? hb)) (by omega)
      · exact ok.full p h
  · rw [padF_get, byteAt_take]
    have hj' := ok.at_ j hj
    rcases hP with ⟨rfl, rfl, hz⟩ | ⟨rfl, h0, hq, ⟨hn, rfl⟩ | ⟨a, bs, hb, rfl⟩⟩
    · by_cases h1 : j / 256 < k / 256
      · rw [if_pos h1, if_pos (by omega), hj']
      · rw [if_neg h1]
        split
        · rename_i h2
          rcases hz with hz | hz
          · omega
          · rw [← hj', byteAt_none (by omega)]
        · rfl
    · by_cases h1 : j / 256 < k / 256 + 1
      · rw [if_pos h1, hj']
        split
        · rfl
        · rw [← hj', byteAt_nil hn (by omega)]
      · rw [if_neg h1, if_neg (by omega)]
    · by_cases h1 : j / 256 < k / 256 + 1
      · rw [if_pos h1, byteAt_set hq]
        by_cases h2 : j / 256 = k / 256
        · rw [if_pos h2, zeroF_get (ok.full (a, bs) (List.mem_of_getElem? hb)) (by omega)]
          have := byteAt_some hb h2
          by_cases h3 : j < k
          · rw [if_pos (by omega), if_pos h3, ← this, hj']
          · rw [if_neg (by omega), if_neg h3]
        · rw [if_neg h2, if_pos (by omega), hj']
      · rw [if_neg h1, if_neg (by omega)]
theorem BlksOk.lay {P : BL} {b d : List UInt8} (ok : BlksOk P b) {off : Nat} (h1 : off % 256 + d.length ≤ 256) (h0 : d ≠ []) (h2 : off + d.length ≤ 65536) {a : Nat} {bs : List UInt8}
    {n : Nat} (hn : off / 256 < (P ++ List.replicate n none).length) (hl : (P ++ List.replicate n none).length ≤ 256) (hb : (P[off / 256]? = some (some (a, bs))) ∨ ((P ++ List.replicate n none)[off / 256]? = some none ∧ bs = List.replicate 256 0)) :
    BlksOk ((P ++ List.replicate n none).set (off / 256) (some (a, overF bs (off % 256) d))) (layF b off d) := by
  have d0 : 0 < d.length := List.length_pos_iff.2 h0
  have hbs : bs.length = 256 := by
    rcases hb with hb | ⟨_, rfl⟩
    · exact ok.full (a, bs) (List.mem_of_getElem? hb)
    · exact List.length_replicate
  refine ⟨by rw [List.length_set]; exact hl, fun p hp => ?_, fun j hj => ?_⟩
  · rcases mem_set hp with h | h
    · simp only [Option.some.injEq] at h
      subst h
      show (overF bs (off % 256) d).length = 256
      rw [overF_len (by omega), hbs]
    · rcases List.mem_append.1 h with h | h
      · exact ok.full p h
      · have := (List.mem_replicate.1 h).2
        cases this
  · rw [byteAt_set hn, layF_get, byteAt_app, ok.at_ j hj]
    by_cases e : j / 256 = off / 256
    · rw [if_pos e, overF_get (by omega)]
      have hby : bs.getD (j % 256) 0 = b.getD j 0 := by
        rw [← ok.at_ j hj]
        rcases hb with hb | ⟨hb, rfl⟩
        · exact (byteAt_some hb e).symm
        · rw [← byteAt_app (n := n), byteAt_nil hb e, List.getD_eq_getElem?_getD, List.getElem?_replicate]
          split <;> rfl
      rw [hby]
      by_cases h3 : off ≤ j ∧ j < off + d.length
      · rw [if_pos (by omega), if_pos h3]
        congr 1
        omega
      · rw [if_neg (by omega), if_neg h3]
    · rw [if_neg e, if_neg (by omega)]
section
variable {P : Program} {w0 w : World} {A F : HP} {C : HP → HP}
theorem St.setCells {g : Nat} {cur : Array Value} {T : TypeId} {fr : Nat × Nat} (h : St w0 (Blk g (.cells cur T fr) * F) w) (o : Nat) (vs : List Value) :
    St w0 (Blk g (.cells (setRowL cur.toList o vs).toArray T fr) * F) (w.setCells g o vs) := by
  obtain ⟨a1, a2, a3, a4, a5, a6⟩ := heap_setCells g T fr vs o w cur h.blk
  exact h.blk_turn a4 a5 a6 (by omega) a1 fun k hk _ => a2 k hk
theorem St.copyH {g o dl dc n : Nat} {cur : Array Value} {T dT sT ty elem : TypeId} {v : Value} {xs : List Value} {K : Value → World → Prop} {θ : Tag K}
    (h : St w0 A w) [i : Hole (.blk g) A (Blk g (.cells cur T (0, 0))) C] (hu : P.underlying dT = some (.slice elem)) (hs : (P.info? elem).map (·.size) = some 1)
    (hr : Rd 1 v n xs w) (hc : ∀ u ∈ xs, isCell u = true) (hfit : o + min n dl ≤ cur.size)
    (hK : ∀ w', St w0 (C (Blk g (.cells (setRowL cur.toList o (xs.take dl)).toArray T (0, 0)))) w' → K (.int .i64 (min n dl : Nat)) w') :
    semD P (kCopy #[dT, sT] ty #[.slice (some ⟨g, o, none⟩) dl dc, v]) w K θ := by
  obtain ⟨R, hR, h'⟩ := h.out (.blk g)
  obtain ⟨hl, a, c, rfl, hnc, hx⟩ := hr
  have hn : xs.length = n := by omega
  have hgw := h'.blk
  show semD P (Builtin.copy_ #[dT, sT] ty #[.slice (some ⟨g, o, none⟩) dl dc, .slice a n c]) w K θ
  rcases hx with rfl | ⟨b, q, rfl, hj⟩
  · have h0 : n = 0 := by simpa using hn.symm
    subst h0
    refine ⟨.int .i64 0, w, run_copy_none w dT sT ty elem _ _ dl dc 0 c hu hs (by simp), ?_⟩
    have := hK w (by rw [hR]; simpa [setRowL] using h')
    simpa using this
  · have hlen : (xs.take dl).length = Nat.min n dl := by rw [List.length_take, hn]; exact Nat.min_comm _ _
    have hmin : Nat.min n dl = min n dl := rfl
    refine ⟨.int .i64 (min n dl : Nat), w.setCells g o (xs.take dl), ?_, hK _ (by rw [hR]; exact h'.setCells o _)⟩
    rw [run_copy_cells (P := P) w dT sT ty elem g o dl dc ⟨b, q, none⟩ n c (xs.take dl) hu hs hlen (fun j u hu' => ?_) (fun j hj' => ?_) (fun j hj' => frozen_of_heap hgw _) fun u hu' => by rw [← isCell_eq]; exact hc u (List.mem_of_mem_take hu')]
    · rw [hlen]; rfl
    · rw [List.getElem?_take] at hu'
      split at hu'
      · have hjl : j < xs.length := by
          rcases Nat.lt_or_ge j xs.length with h1 | h1
          · exact h1
          · rw [List.getElem?_eq_none h1] at hu'; cases hu'
        have : (⟨b, q, none⟩ : Addr).add j = ⟨b, q + j, none⟩ := by unfold Addr.add; split <;> simp_all
        rw [this, hj j hjl, hu']
      · cases hu'
    · rw [cell_of_heap hgw]
      have : o + j < cur.size := by omega
      simp [this]
theorem St.clearB {t ty e bs g o m c : Nat} {z : Value} {cur : Array Value} {T : TypeId} {K : Value → World → Prop} {θ : Tag K}
    (h : St w0 A w) [i : Hole (.blk g) A (Blk g (.cells cur T (0, 0))) C] (ht : rowTy P t = some (e, 1, bs, [z])) (hz : isCell z = true) (hm0 : 0 < m) (hfit : o + m ≤ cur.size)
    (hK : ∀ w', St w0 (C (Blk g (.cells (setRowL cur.toList o (List.replicate m z)).toArray T (0, 0)))) w' → K (.tuple #[]) w') :
    semD P (kClear #[t] ty #[.slice (some ⟨g, o, none⟩) m c]) w K θ := by
  obtain ⟨R, hR, h'⟩ := h.out (.blk g)
  show semD P (Builtin.clear_ #[t] ty #[.slice (some ⟨g, o, none⟩) m c]) w K θ
  obtain ⟨hu, i, z', hi, hzz, _, _, _, hzl⟩ := rowTy_some ht
  have hgw := h'.blk
  have hzero : (zeroValue e).run P w = .ok z' w := by
    simp only [zeroValue, Sem.run_bind, run_typeInfo' hi, hzz, Result.andThen_ok]; rfl
  have hrep : (Builtin.zeroCells z'.cells m).toList = List.replicate m z := by
    have h2 : z'.cells = #[z] := by rw [← Array.toList_inj]; exact hzl
    rw [h2]
    apply List.ext_getElem
    · simp [Builtin.zeroCells]
    · intro k hk _
      simp [Builtin.zeroCells, Nat.mod_one]
  obtain ⟨m', rfl⟩ : ∃ m', m = m' + 1 := ⟨m - 1, by omega⟩
  have hst := run_storeCells_cells (P := P) g o (List.replicate (m' + 1) z) 0 w (fun j hj => by rw [cell_of_heap hgw]; simp at hj ⊢; omega) (fun j _ => frozen_of_heap hgw _) (fun v hv => by rw [← isCell_eq, (List.mem_replicate.1 hv).2]; exact hz)
  simp only [Nat.add_zero] at hst
  refine ⟨.tuple #[], w.setCells g o (List.replicate (m' + 1) z), ?_, hK _ (by rw [hR]; exact h'.setCells o _)⟩
  simp [Builtin.clear_, run_underlying hu, hzero, hrep, hst]
end
section
variable {P : Program} {w0 w : World} {A F : HP} {C : HP → HP}
theorem St.copyRow {g o k n c dl dc m : Nat} {T dT sT ty elem : TypeId} {v : Value} {xs ys : List Value} {K : Value → World → Prop} {θ : Tag K}
    (h : St w0 A w) [i : Hole (.row (.slice (some ⟨g, o, none⟩) n c)) A (RowO T 1 (.slice (some ⟨g, o, none⟩) n c) n xs) C] (hu : P.underlying dT = some (.slice elem)) (hs : (P.info? elem).map (·.size) = some 1)
    (hr : Rd 1 v m ys w) (hc : ∀ u ∈ ys, isCell u = true) (hfit : k + min m dl ≤ n)
    (hK : ∀ w', St w0 (C (RowO T 1 (.slice (some ⟨g, o, none⟩) n c) n (setRowL xs k (ys.take dl)))) w' → K (.int .i64 (min m dl : Nat)) w') :
    semD P (kCopy #[dT, sT] ty #[.slice (some ⟨g, o + k, none⟩) dl dc, v]) w K θ := by
  obtain ⟨R, hR, h'⟩ := h.out (.row (.slice (some ⟨g, o, none⟩) n c))
  obtain ⟨cur, h'⟩ := (h'.ent (Ent.sep (RowO.openE T 1 g o n c xs) (Ent.rfl' R))).exF
  obtain ⟨⟨a1, a2, a3, a4, a5⟩, h'⟩ := h'.factF
  have hyl := hr.length
  have htl : (ys.take dl).length = min m dl := by rw [List.length_take]; omega
  refine h'.copyH hu hs hr hc (by omega) fun w' hw => hK w' ?_
  rw [hR]
  refine hw.ent (Ent.sep (RowO.shutE ⟨a1, a2, ?_, ?_, ?_⟩) (Ent.rfl' R))
  · simpa [length_setRowL] using a3
  · rw [List.toList_toArray, setRowL_part (by omega) (by simp only [Array.length_toList]; omega), a4]
  · rw [length_setRowL, a5]
theorem St.clearRow {t ty e bs g o k n c m mc : Nat} {T : TypeId} {z : Value} {xs : List Value} {K : Value → World → Prop} {θ : Tag K}
    (h : St w0 A w) [i : Hole (.row (.slice (some ⟨g, o, none⟩) n c)) A (RowO T 1 (.slice (some ⟨g, o, none⟩) n c) n xs) C] (ht : rowTy P t = some (e, 1, bs, [z])) (hz : isCell z = true) (hm0 : 0 < m) (hfit : k + m ≤ n)
    (hK : ∀ w', St w0 (C (RowO T 1 (.slice (some ⟨g, o, none⟩) n c) n (setRowL xs k (List.replicate m z)))) w' → K (.tuple #[]) w') :
    semD P (kClear #[t] ty #[.slice (some ⟨g, o + k, none⟩) m mc]) w K θ := by
  obtain ⟨R, hR, h'⟩ := h.out (.row (.slice (some ⟨g, o, none⟩) n c))
  obtain ⟨cur, h'⟩ := (h'.ent (Ent.sep (RowO.openE T 1 g o n c xs) (Ent.rfl' R))).exF
  obtain ⟨⟨a1, a2, a3, a4, a5⟩, h'⟩ := h'.factF
  have htl : (List.replicate m z).length = m := List.length_replicate
  refine h'.clearB ht hz hm0 (by omega) fun w' hw => hK w' ?_
  rw [hR]
  refine hw.ent (Ent.sep (RowO.shutE ⟨a1, a2, ?_, ?_, ?_⟩) (Ent.rfl' R))
  · simpa [length_setRowL] using a3
  · rw [List.toList_toArray, setRowL_part (by omega) (by simp only [Array.length_toList]; omega), a4]
  · rw [length_setRowL, a5]
end
section
variable {w0 w : World} {A : HP} {b : Nat} {s : SD} {y : SX}
theorem rlockS (h : St w0 (StoreQ b 0 0 s y * A) w) : Calls Tryz.prog 30 #[.pointer (some ⟨b, 0, none⟩)] w fun e w' => St w0 (StoreQ b 0 1 s y * A) w' ∧ e = .returned (.tuple #[]) :=
  rlockH (b := b) (rc := 0) (arr := storeC 0 0 s.most s.next (.map (some y.N)) y.ov (.map (some y.C))) h rfl rfl rfl ⟨by decide, by decide⟩
theorem runlockS (h : St w0 (StoreQ b 0 1 s y * A) w) {ds : List Deferred} {K : FrameMode → World → Prop} (hK : ∀ w', St w0 (StoreQ b 0 0 s y * A) w' → leaveD Tryz.prog ds .returning w' K) :
    leaveD Tryz.prog ({ target := .fn (.func 31) #[], args := #[.pointer (some ⟨b, 0, none⟩)] } :: ds) .returning w K :=
  runlockL (rc := 0) h rfl rfl rfl ⟨by decide, by decide⟩ hK
theorem wlockS (h : St w0 (StoreQ b 0 0 s y * A) w) : Calls Tryz.prog 63 #[.pointer (some ⟨b, 0, none⟩)] w fun e w' => St w0 (StoreQ b 1 (-1073741824) s y * A) w' ∧ e = .returned (.tuple #[]) :=
  wlockH (b := b) (arr := storeC 0 0 s.most s.next (.map (some y.N)) y.ov (.map (some y.C))) h rfl rfl rfl rfl
theorem wunlockS (h : St w0 (StoreQ b 1 (-1073741824) s y * A) w) {ds : List Deferred} {K : FrameMode → World → Prop} (hK : ∀ w', St w0 (StoreQ b 0 0 s y * A) w' → leaveD Tryz.prog ds .returning w' K) :
    leaveD Tryz.prog ({ target := .fn (.func 64) #[], args := #[.pointer (some ⟨b, 0, none⟩)] } :: ds) .returning w K :=
  wunlockL h rfl rfl rfl rfl hK
end
section
variable {P : Program} {e : FA} {R : Ending → World → Prop} {w : World}
theorem endT1 {t : Nat} (h : R (.returned (e.ρ t)) w) : leaveD P [] .returning w (endM P #[.tmp t] e R) := ⟨_, fin1, h⟩
theorem endT2 {t u : Nat} (h : R (.returned (.tuple #[e.ρ t, e.ρ u])) w) : leaveD P [] .returning w (endM P #[.tmp t, .tmp u] e R) := ⟨_, fin2, h⟩
theorem endC2 {t u n : Nat} {T : TypeId} {a : Addr} {v : Value} (hx : e.ρ t = .pointer (some a)) (hs : aggSz P T = some (some n)) (hv : rowV w a n = some v) (h : R (.returned (.tuple #[v, e.ρ u])) w) : leaveD P [] .returning w (endM P #[.cell t T, .tmp u] e R) :=
  resC_2 hx (run_loadVar_row hs hv) h
end
theorem next_any {w0 w : World} {A : HP} {b : Nat} {s : SD} (h : St w0 (StoreP b 0 0 s * A) w) :
    Calls Tryz.prog 22 #[.pointer (some ⟨b, 0, none⟩)] w fun e w' => St w0 (StoreP b 0 0 s * A) w' ∧ e = .returned (.int .u64 s.next) := by
  obtain ⟨y, ok, h⟩ := h.storeO
  refine calls_of_cwM (types := Tryz.prog.types) follows Tryz.func22 F22.code rfl (by kernel_rfl) (by show 1 ≤ 14; decide) ?_
  show cwE _ _ (fnM _ #[.tmp 2] _) _ _
  unfold F22.code
  simp -dsimp -implicitDefEqProofs (disch := omega) only [go_sem]
  refine (rlockS h).mono ?_
  rintro e w1 ⟨h1, rfl⟩
  simp -dsimp -implicitDefEqProofs (disch := omega) only [go_sem]
  refine deferF_of ?_
  simp -dsimp -implicitDefEqProofs (disch := omega) only [go_sem, h1.cl b]
  refine runlockS h1 fun w2 h2 => ?_
  refine endT1 ⟨h2.ent (Ent.sep (StoreP.shut ok) (Ent.rfl' A)), ?_⟩
  simp -dsimp -implicitDefEqProofs only [go_sem]
theorem count_any {w0 w : World} {A : HP} {b : Nat} {s : SD} (h : St w0 (StoreP b 0 0 s * A) w) :
    Calls Tryz.prog 26 #[.pointer (some ⟨b, 0, none⟩)] w fun e w' => St w0 (StoreP b 0 0 s * A) w' ∧ e = .returned (.int .i64 s.L.length) := by
  obtain ⟨y, ok, h⟩ := h.storeO
  refine calls_of_cwM (types := Tryz.prog.types) follows Tryz.func26 F26.code rfl (by kernel_rfl) (by show 1 ≤ 15; decide) ?_
  show cwE _ _ (fnM _ #[.tmp 2] _) _ _
  unfold F26.code
  simp -dsimp -implicitDefEqProofs (disch := omega) only [go_sem]
  refine (rlockS h).mono ?_
  rintro e w1 ⟨h1, rfl⟩
  simp -dsimp -implicitDefEqProofs (disch := omega) only [go_sem]
  refine deferF_of ?_
  simp -dsimp -implicitDefEqProofs (disch := omega) only [go_sem, h1.cl b]
  refine h1.lenH (b := y.N) Tryz.underlying96 ?_
  rw [List.length_map, ok.len]
  simp -dsimp -implicitDefEqProofs (disch := omega) only [go_sem]
  refine runlockS h1 fun w2 h2 => ?_
  refine endT1 ⟨h2.ent (Ent.sep (StoreP.shut ok) (Ent.rfl' A)), ?_⟩
  simp -dsimp -implicitDefEqProofs only [go_sem]
theorem child_any {w0 w : World} {A : HP} {b : Nat} {s : SD} (h : St w0 (StoreP b 0 0 s * A) w) {p : Nat} {nm : List UInt8} :
    Calls Tryz.prog 51 #[.pointer (some ⟨b, 0, none⟩), .int .u64 p, .string (strOf nm)] w fun e w' => St w0 (StoreP b 0 0 s * A) w' ∧ e = .returned (match childF s.L p nm with | some q => .tuple #[.int .u64 q, .bool true] | none => .tuple #[.int .u64 0, .bool false]) := by
  obtain ⟨y, ok, h⟩ := h.storeO
  refine calls_of_cwM (types := Tryz.prog.types) follows Tryz.func51 F51.code rfl (by kernel_rfl) (by show 3 ≤ 30; decide) ?_
  show cwE _ _ (fnM _ #[.tmp 6, .tmp 7] _) _ _
  unfold F51.code
  simp -dsimp -implicitDefEqProofs (disch := omega) only [go_sem]
  refine (rlockS h).mono ?_
  rintro e w1 ⟨h1, rfl⟩
  simp -dsimp -implicitDefEqProofs (disch := omega) only [go_sem]
  refine deferF_of ?_
  simp -dsimp -implicitDefEqProofs (disch := omega) only [go_sem, h1.cl b]
  refine onV_of (v := encK (p, nm)) (by kernel_rfl) ?_
  simp -dsimp -implicitDefEqProofs (disch := omega) only [go_sem]
  refine h1.lkH (b := y.C) (x := (p, nm)) Tryz.underlying98 lawK (z := .int .u64 0) (by kernel_rfl) ?_
  rw [ok.child]
  cases hc : childF s.L p nm with
  | none =>
    simp only [Option.map_none]
    simp -dsimp -implicitDefEqProofs (disch := omega) only [go_sem, lkV]
    refine runlockS h1 fun w2 h2 => ?_
    refine endT2 ⟨h2.ent (Ent.sep (StoreP.shut ok) (Ent.rfl' A)), ?_⟩
    simp -dsimp -implicitDefEqProofs only [go_sem]
  | some q =>
    simp only [Option.map_some]
    simp -dsimp -implicitDefEqProofs (disch := omega) only [go_sem, lkV]
    refine runlockS h1 fun w2 h2 => ?_
    refine endT2 ⟨h2.ent (Ent.sep (StoreP.shut ok) (Ent.rfl' A)), ?_⟩
    simp -dsimp -implicitDefEqProofs only [go_sem]
abbrev StoreR (b : Nat) (st rc : Int) (s : SD) (y : SX) (l : List (Int × Value)) (Z : List NN) : HP :=
  StoreB b st rc s y * (MapP encU y.N l * (MapP encK y.C y.cl * (RowU y.ov (s.L.map (·.i.path)) * starL nodeP Z)))
theorem StoreQ.eq {b : Nat} {st rc : Int} {s : SD} {y : SX} {X1 X2 : List NN} {x : NN} {A : HP} (hs : y.X = X1 ++ x :: X2) :
    StoreQ b st rc s y * A = NodeB x.n 0 x.d.i x.vk x.vb * (RowU x.vk x.ks * (BlksP x.vb x.P * (StoreR b st rc s y (y.X.map kv) (X1 ++ X2) * A))) := by
  have : starL nodeP y.X = NodeB x.n 0 x.d.i x.vk x.vb * (RowU x.vk x.ks * BlksP x.vb x.P) * starL nodeP (X1 ++ X2) := by
    rw [hs, starL_split]; rfl
  simp only [StoreQ, StoreR]
  rw [this]
  ac_rfl
theorem zero_ptr : zeroV Tryz.prog 101 = some (.pointer none) := by kernel_rfl
theorem kids_rise {s : SD} (h : Wf s) (p : Nat) : (kidsF s.L p).Pairwise (· < ·) := by
  unfold kidsF
  rw [List.pairwise_map]
  exact h.rise.filter _
theorem kids_len (L : List NodeD) (p : Nat) : (kidsF L p).length ≤ L.length := by
  unfold kidsF
  rw [List.length_map]
  exact List.length_filter_le _ _
def infZ : Inf := ⟨0, 0, [], 0, [], [], [], 0, 0, 0, 0, 0, 0⟩
def toldI (s : SD) (p : Nat) : Inf := match findN s.L p with
  | some n => tellF s.L n
  | none => infZ
abbrev toldV (s : SD) (p : Nat) : Value := .tuple #[.agg (infL (toldI s p)).toArray, .bool (findN s.L p).isSome]
theorem toldI_some {s : SD} {p : Nat} {n : NodeD} (h : findN s.L p = some n) : toldI s p = tellF s.L n := by unfold toldI; rw [h]
theorem toldI_none {s : SD} {p : Nat} (h : findN s.L p = none) : toldI s p = infZ := by unfold toldI; rw [h]
theorem infL_cells (i : Inf) : ∀ v ∈ infL i, isCell v = true := by
  intro v hv
  simp only [infL, List.mem_cons, List.not_mem_nil, or_false] at hv
  rcases hv with rfl | rfl | rfl | rfl | rfl | rfl | rfl | rfl | rfl | rfl | rfl | rfl | rfl <;> rfl
section
attribute [local go_sem] F61.t4_eq
theorem tell_any {w0 w : World} {A : HP} {b : Nat} {st rc : Int} {s : SD} {y : SX} (ok : StoreOk s y) (h : St w0 (StoreQ b st rc s y * A) w) {p : Nat} :
    Calls Tryz.prog 61 #[.pointer (some ⟨b, 0, none⟩), .int .u64 p] w fun e w' => St w0 (StoreQ b st rc s y * A) w' ∧ e = .returned (toldV s p) := by
  refine calls_of_cwM (types := Tryz.prog.types) follows Tryz.func61 F61.code rfl (by kernel_rfl) (by show 2 ≤ 35; decide) ?_
  show cwE _ _ (fnM _ #[.cell 4 42, .tmp 5] _) _ _
  unfold F61.code
  simp -dsimp -implicitDefEqProofs (disch := omega) only [go_sem]
  refine h.new fun B w1 h1 => ?_
  simp -dsimp -implicitDefEqProofs (disch := omega) only [go_sem, h1.cl b]
  refine h1.lkH (b := y.N) (x := (p : Int)) Tryz.underlying96 lawU zero_ptr ?_
  cases hf : findN s.L p with
  | none =>
    rw [ok.none hf]
    simp -dsimp -implicitDefEqProofs (disch := omega) only [go_sem, lkV]
    refine onV_of (v := .agg (infL infZ).toArray) (by kernel_rfl) ?_
    simp -dsimp -implicitDefEqProofs (disch := omega) only [go_sem]
    refine h1.stoAll (b := B) (cs := infL infZ) rfl rfl (infL_cells _) fun w2 h2 => ?_
    simp -dsimp -implicitDefEqProofs (disch := omega) only [go_sem]
    refine endC2 (a := ⟨B, 0, none⟩) (n := 13) (v := .agg (infL infZ).toArray) (by simp -dsimp -implicitDefEqProofs only [go_sem]) fact_aggSz_42 (h2.rowH B 13 rfl) ?_
    refine ⟨h2.right, ?_⟩
    show _ = Ending.returned (.tuple #[.agg (infL (toldI s p)).toArray, .bool (findN s.L p).isSome])
    rw [toldI_none hf, hf]
    simp -dsimp -implicitDefEqProofs only [go_sem]
    rfl
  | some d =>
    obtain ⟨X1, x, X2, hs, rfl, hx, hl⟩ := ok.some hf
    have hk := ok.kids x hx
    rw [hl]
    simp -dsimp -implicitDefEqProofs (disch := omega) only [go_sem, lkV]
    have h2 := h1.ac (congrArg (Blk B _ * ·) (StoreQ.eq hs))
    refine (lockH (b := x.n) h2 rfl).mono ?_
    rintro e w3 ⟨h3, rfl⟩
    have h3 : St w0 (Blk B (.cells (infL infZ).toArray 42 (0, 0)) * (NodeB x.n 1 x.d.i x.vk x.vb * (RowU x.vk x.ks * (BlksP x.vb x.P * (StoreR b st rc s y (y.X.map kv) (X1 ++ X2) * A))))) w3 := h3
    simp -dsimp -implicitDefEqProofs (disch := omega) only [go_sem]
    refine deferF_of ?_
    have hrow := h3.rowAtH x.n 2 13 (by simp)
    simp only [List.drop_succ_cons, List.drop_zero, List.take_succ_cons, List.take_zero] at hrow
    simp -dsimp -implicitDefEqProofs (disch := omega) only [go_sem, h3.cl x.n, hrow]
    refine h3.new fun D w4 h4 => ?_
    simp -dsimp -implicitDefEqProofs (disch := omega) only [go_sem]
    refine h4.stoAll (b := D) (cs := infL x.d.i) rfl rfl (infL_cells _) fun w5 h5 => ?_
    obtain ⟨a, c, hvk, hl0, hnc, _⟩ := h5.rowForm x.vk
    simp -dsimp -implicitDefEqProofs (disch := omega) only [go_sem, h5.cl x.n, hvk]
    refine h5.sto (b := D) (by simp) rfl fun w6 h6 => ?_
    simp only [List.setIfInBounds_toArray, List.set_cons_succ, List.set_cons_zero] at h6
    have hD := h6.rowH D 13 rfl
    simp -dsimp -implicitDefEqProofs (disch := omega) only [go_sem, hD]
    rw [hk]
    refine h6.stoAll (b := B) (cs := infL (tellF s.L x.d)) rfl rfl (infL_cells _) fun w7 h7 => ?_
    simp -dsimp -implicitDefEqProofs (disch := omega) only [go_sem]
    refine unlockL (b := x.n) h7 rfl fun w8 h8 => ?_
    have h8 : St w0 (Blk D (.cells (infL { x.d.i with kids := x.ks.length }).toArray 42 (0, 0)) * (Blk B (.cells (infL (tellF s.L x.d)).toArray 42 (0, 0)) * (NodeB x.n 0 x.d.i x.vk x.vb * (RowU x.vk x.ks * (BlksP x.vb x.P * (StoreR b st rc s y (y.X.map kv) (X1 ++ X2) * A)))))) w8 := h8
    refine endC2 (a := ⟨B, 0, none⟩) (n := 13) (v := .agg (infL (tellF s.L x.d)).toArray) (by simp -dsimp -implicitDefEqProofs only [go_sem]) fact_aggSz_42 (h8.rowH B 13 rfl) ?_
    refine ⟨(h8.right.right).ac (StoreQ.eq hs).symm, ?_⟩
    show _ = Ending.returned (.tuple #[.agg (infL (toldI s p)).toArray, .bool (findN s.L p).isSome])
    rw [toldI_some hf, hf]
    simp -dsimp -implicitDefEqProofs only [go_sem]
    rfl
end
theorem node_any {w0 w : World} {A : HP} {b : Nat} {s : SD} (h : St w0 (StoreP b 0 0 s * A) w) {p : Nat} :
    Calls Tryz.prog 25 #[.pointer (some ⟨b, 0, none⟩), .int .u64 p] w fun e w' => St w0 (StoreP b 0 0 s * A) w' ∧ e = .returned (toldV s p) := by
  obtain ⟨y, ok, h⟩ := h.storeO
  refine calls_of_cwM (types := Tryz.prog.types) follows Tryz.func25 F25.code rfl (by kernel_rfl) (by show 2 ≤ 18; decide) ?_
  show cwE _ _ (fnM _ #[.cell 4 42, .tmp 5] _) _ _
  unfold F25.code
  simp -dsimp -implicitDefEqProofs (disch := omega) only [go_sem]
  refine h.new fun B w1 h1 => ?_
  simp -dsimp -implicitDefEqProofs (disch := omega) only [go_sem]
  refine (rlockS h1.sw2).mono ?_
  rintro e w2 ⟨h2, rfl⟩
  simp -dsimp -implicitDefEqProofs (disch := omega) only [go_sem]
  refine deferF_of ?_
  simp -dsimp -implicitDefEqProofs (disch := omega) only [go_sem]
  refine (tell_any ok h2).mono ?_
  rintro e w3 ⟨h3, rfl⟩
  simp -dsimp -implicitDefEqProofs (disch := omega) only [go_sem]
  refine h3.stoAll (b := B) (cs := infL (toldI s p)) rfl rfl (infL_cells _) fun w4 h4 => ?_
  simp -dsimp -implicitDefEqProofs (disch := omega) only [go_sem]
  refine runlockS h4 fun w5 h5 => ?_
  refine endC2 (a := ⟨B, 0, none⟩) (n := 13) (v := .agg (infL (toldI s p)).toArray) (by simp -dsimp -implicitDefEqProofs only [go_sem]) fact_aggSz_42 (h5.rowH B 13 rfl) ?_
  refine ⟨h5.sw2.right.ent (Ent.sep (StoreP.shut ok) (Ent.rfl' A)), ?_⟩
  simp -dsimp -implicitDefEqProofs only [go_sem]
def aftV : Option Nat → Value
  | some k => .tuple #[.int .u64 k, .bool true]
  | none => .tuple #[.int .u64 0, .bool false]
def afterS (s : SD) (p last : Nat) : Option Nat := match findN s.L p with
  | some n => afterF s.L p last
  | none => none
section
attribute [local go_sem] F53.t6_eq
theorem after_any {w0 w : World} {A : HP} {b : Nat} {s : SD} (h : St w0 (StoreP b 0 0 s * A) w) {p last : Nat} :
    Calls Tryz.prog 53 #[.pointer (some ⟨b, 0, none⟩), .int .u64 p, .int .u64 last] w fun e w' => St w0 (StoreP b 0 0 s * A) w' ∧ e = .returned (aftV (afterS s p last)) := by
  obtain ⟨y, ok, h⟩ := h.storeO
  refine calls_of_cwM (types := Tryz.prog.types) follows Tryz.func53 F53.code rfl (by kernel_rfl) (by show 3 ≤ 32; decide) ?_
  show cwE _ _ (fnM _ #[.tmp 6, .tmp 7] _) _ _
  unfold F53.code
  simp -dsimp -implicitDefEqProofs (disch := omega) only [go_sem]
  refine (rlockS h).mono ?_
  rintro e w1 ⟨h1, rfl⟩
  simp -dsimp -implicitDefEqProofs (disch := omega) only [go_sem]
  refine deferF_of ?_
  simp -dsimp -implicitDefEqProofs (disch := omega) only [go_sem, h1.cl b]
  refine h1.lkH (b := y.N) (x := (p : Int)) Tryz.underlying96 lawU zero_ptr ?_
  have hw := ok.wf.few
  have hm := ok.wf.most
  cases hf : findN s.L p with
  | none =>
    rw [ok.none hf]
    have ha : afterS s p last = none := by unfold afterS; rw [hf]
    rw [ha]
    simp -dsimp -implicitDefEqProofs (disch := omega) only [go_sem, lkV]
    refine runlockS h1 fun w2 h2 => ?_
    refine endT2 ⟨h2.ent (Ent.sep (StoreP.shut ok) (Ent.rfl' A)), ?_⟩
    simp -dsimp -implicitDefEqProofs only [go_sem]
    rfl
  | some d =>
    obtain ⟨X1, x, X2, hs, rfl, hx, hl⟩ := ok.some hf
    have hk := ok.kids x hx
    have hp : x.d.i.path = p := (find_some hf).2
    have ha : afterS s p last = x.ks.find? fun k => decide (last < k) := by unfold afterS; rw [hf]; rw [hk, hp]; rfl
    rw [hl, ha]
    have h2 := h1.ac (StoreQ.eq hs)
    simp -dsimp -implicitDefEqProofs (disch := omega) only [go_sem, lkV, h2.cl x.n]
    have hlen := kids_len s.L x.d.i.path
    refine (above_any (l := x.ks) h2 (by rw [hk]; exact kids_rise ok.wf _) (by rw [hk]; omega)).mono ?_
    rintro e w3 ⟨h3, rfl⟩
    cases hr : x.ks.find? fun k => decide (last < k) with
    | none =>
      simp -dsimp -implicitDefEqProofs (disch := omega) only [go_sem]
      refine runlockS (h3.ac (StoreQ.eq hs).symm) fun w2 h2 => ?_
      refine endT2 ⟨h2.ent (Ent.sep (StoreP.shut ok) (Ent.rfl' A)), ?_⟩
      simp -dsimp -implicitDefEqProofs only [go_sem]
      rfl
    | some k =>
      simp -dsimp -implicitDefEqProofs (disch := omega) only [go_sem]
      refine runlockS (h3.ac (StoreQ.eq hs).symm) fun w2 h2 => ?_
      refine endT2 ⟨h2.ent (Ent.sep (StoreP.shut ok) (Ent.rfl' A)), ?_⟩
      simp -dsimp -implicitDefEqProofs only [go_sem]
      rfl
def leastS (s : SD) (last : Nat) : Option Nat := (s.L.map (·.i.path)).find? fun k => decide (last < k)
def leastV (s : SD) (last : Nat) : Value := match leastS s last with
  | some k => toldV s k
  | none => .tuple #[.agg (infL infZ).toArray, .bool false]
end
section
attribute [local go_sem] F47.t6_eq
theorem least_any {w0 w : World} {A : HP} {b : Nat} {s : SD} (h : St w0 (StoreP b 0 0 s * A) w) {last : Nat} :
    Calls Tryz.prog 47 #[.pointer (some ⟨b, 0, none⟩), .int .u64 last] w fun e w' => St w0 (StoreP b 0 0 s * A) w' ∧ e = .returned (leastV s last) := by
  obtain ⟨y, ok, h⟩ := h.storeO
  refine calls_of_cwM (types := Tryz.prog.types) follows Tryz.func47 F47.code rfl (by kernel_rfl) (by show 2 ≤ 32; decide) ?_
  show cwE _ _ (fnM _ #[.cell 4 42, .tmp 5] _) _ _
  unfold F47.code
  simp -dsimp -implicitDefEqProofs (disch := omega) only [go_sem]
  refine h.new fun B w1 h1 => ?_
  simp -dsimp -implicitDefEqProofs (disch := omega) only [go_sem]
  refine (rlockS h1.sw2).mono ?_
  rintro e w2 ⟨h2, rfl⟩
  simp -dsimp -implicitDefEqProofs (disch := omega) only [go_sem]
  refine deferF_of ?_
  simp -dsimp -implicitDefEqProofs (disch := omega) only [go_sem, h2.cl b]
  have hw := ok.wf.few
  have hm := ok.wf.most
  have hrise := rise_paths.1 ok.wf.rise
  refine (above_any (v := y.ov) (l := s.L.map (·.i.path)) h2 hrise (by simp; omega)).mono ?_
  rintro e w3 ⟨h3, rfl⟩
  cases hr : (s.L.map (·.i.path)).find? fun k => decide (last < k) with
  | none =>
    have hv : leastV s last = .tuple #[.agg (infL infZ).toArray, .bool false] := by unfold leastV leastS; rw [hr]
    rw [hv]
    simp -dsimp -implicitDefEqProofs (disch := omega) only [go_sem]
    refine onV_of (v := .agg (infL infZ).toArray) (by kernel_rfl) ?_
    simp -dsimp -implicitDefEqProofs (disch := omega) only [go_sem]
    refine h3.stoAll (b := B) (cs := infL infZ) rfl rfl (infL_cells _) fun w4 h4 => ?_
    simp -dsimp -implicitDefEqProofs (disch := omega) only [go_sem]
    refine runlockS h4 fun w5 h5 => ?_
    refine endC2 (a := ⟨B, 0, none⟩) (n := 13) (v := .agg (infL infZ).toArray) (by simp -dsimp -implicitDefEqProofs only [go_sem]) fact_aggSz_42 (h5.rowH B 13 rfl) ?_
    refine ⟨h5.sw2.right.ent (Ent.sep (StoreP.shut ok) (Ent.rfl' A)), ?_⟩
    simp -dsimp -implicitDefEqProofs only [go_sem]
  | some k =>
    have hv : leastV s last = toldV s k := by unfold leastV leastS; rw [hr]
    rw [hv]
    simp -dsimp -implicitDefEqProofs (disch := omega) only [go_sem]
    refine (tell_any ok h3).mono ?_
    rintro e w4 ⟨h4, rfl⟩
    simp -dsimp -implicitDefEqProofs (disch := omega) only [go_sem]
    refine h4.stoAll (b := B) (cs := infL (toldI s k)) rfl rfl (infL_cells _) fun w6 h6 => ?_
    simp -dsimp -implicitDefEqProofs (disch := omega) only [go_sem]
    refine runlockS h6 fun w5 h5 => ?_
    refine endC2 (a := ⟨B, 0, none⟩) (n := 13) (v := .agg (infL (toldI s k)).toArray) (by simp -dsimp -implicitDefEqProofs only [go_sem]) fact_aggSz_42 (h5.rowH B 13 rfl) ?_
    refine ⟨h5.sw2.right.ent (Ent.sep (StoreP.shut ok) (Ent.rfl' A)), ?_⟩
    simp -dsimp -implicitDefEqProofs only [go_sem]
end
theorem rowTy_blks : rowTy Tryz.prog 102 = some (136, 1, 8, [.pointer none]) := by kernel_rfl
theorem starL_take {α : Type} (B : α → HP) : ∀ (l : List α) (n : Nat), Ent (starL B l) (starL B (l.take n))
  | [], n => by simpa using Ent.rfl' _
  | x :: l, 0 => Ent.of fun _ _ => trivial
  | x :: l, n + 1 => Ent.sep (Ent.rfl' (B x)) (starL_take B l n)
theorem rowTy_bytes : rowTy Tryz.prog 43 = some (5, 1, 1, [.int .u8 0]) := by kernel_rfl
theorem setRowL_end {cs vs : List Value} {o : Nat} (h : o + vs.length = cs.length) : setRowL cs o vs = cs.take o ++ vs := by
  have := take_setRowL (cs := cs) (vs := vs) (o := o) (by omega)
  rwa [List.take_of_length_le (by rw [length_setRowL]; omega)] at this
theorem zero_cells {bs : List UInt8} {p : Nat} (h : bs.length = 256) (hp : p ≤ 256) : setRowL (bs.map bv) p (List.replicate (256 - p) (.int .u8 0)) = (zeroF bs p).map bv := by
  rw [setRowL_end (by rw [List.length_replicate, List.length_map]; omega)]
  unfold zeroF
  rw [List.map_append, List.map_take, List.map_replicate]
  rfl
def BytesR (w0 : World) (A : HP) (n : Nat) (st : Int) (i : Inf) (vk vb : Value) (P : BL) (r : Except Nat NodeD) (e : Ending) (w' : World) : Prop := match r with
  | .error x => St w0 (NodeB n st i vk vb * (BlksP vb P * A)) w' ∧ e = .returned (.int .i64 x)
  | .ok n' => ∃ vb' P', BlksOk P' n'.b ∧ St w0 (NodeB n st n'.i vk vb' * (BlksP vb' P' * A)) w' ∧ e = .returned (.int .i64 0)
section
variable {w0 w : World} {A : HP} {n k : Nat} {st : Int} {i : Inf} {vk vb : Value} {P : BL} {b : List UInt8} {e : FA} {R : Ending → World → Prop}
section
attribute [local go_sem] F35.t10_eq F35.t11_eq F35.t5_eq F35.t3_eq
theorem cut_t11 {W : Nat} (hW : W ≤ 65536) (hP : P.length ≤ 256) (h : St w0 (NodeB n st i vk vb * (RowB vb P * (starL BlkP P * A))) w) (hd : e.ds = []) (e0 : e.ρ 0 = .pointer (some ⟨n, 0, none⟩)) (e1 : e.ρ 1 = .int .u64 k) (e5 : e.ρ 5 = .int .i64 W)
    (hR : ∀ w' vb', St w0 (NodeB n st { i with length := k } vk vb' * (RowB vb' (P.take W) * (starL BlkP (P.take W) * A))) w' → R (.returned (.int .i64 0)) w') : cwE Tryz.prog F35.t11 (fnP Tryz.prog #[.tmp 4] R) e w := by
  rw [F35.t11_eq]
  have fin : ∀ (e : FA) (w : World) (vb' : Value), St w0 (NodeB n st i vk vb' * (RowB vb' (P.take W) * (starL BlkP (P.take W) * A))) w → e.ds = [] → e.ρ 0 = .pointer (some ⟨n, 0, none⟩) → e.ρ 1 = .int .u64 k → cwE Tryz.prog F35.t14 (fnP Tryz.prog #[.tmp 4] R) e w := by
    intro e w vb' h hd e0 e1
    unfold F35.t14
    simp -dsimp -implicitDefEqProofs (disch := omega) only [go_sem, hd, e0, e1]
    refine h.sto (b := n) (by simp) rfl fun w1 h1 => ?_
    simp only [List.setIfInBounds_toArray, List.set_cons_succ, List.set_cons_zero] at h1
    simp -dsimp -implicitDefEqProofs (disch := omega) only [go_sem, hd]
    exact hR _ _ h1
  obtain ⟨a, c, rfl, hl0, hnc, hcm⟩ := h.rowForm vb
  by_cases hlt : (W : Int) < (P.length : Int)
  case neg =>
    have ht : P.take W = P := List.take_of_length_le (by omega)
    simp -dsimp -implicitDefEqProofs (disch := omega) only [go_sem, hd, e0, e1, e5, h.cl n, hlt]
    refine fin _ _ (.slice a P.length c) (by rw [ht]; exact h) (by simp -dsimp -implicitDefEqProofs only [go_sem, hd]) (by simp -dsimp -implicitDefEqProofs only [go_sem, e0]) (by simp -dsimp -implicitDefEqProofs only [go_sem, e1])
  have hWl : W < P.length := by omega
  obtain ⟨g, o, rfl, hc⟩ := h.atS (a := a) (n := P.length) (c := c) (xs := P.map ptrV) (k := W) (by simpa using hWl)
  simp -dsimp -implicitDefEqProofs (disch := omega) only [go_sem, hd, e0, e1, e5, h.cl n, hlt]
  rw [if_neg (show ¬ c = W by omega)]
  refine h.clearRow (g := g) (o := o) (k := W) (n := P.length) (c := c) (m := P.length - W) rowTy_blks rfl (by omega) (by omega) fun w1 h1 => ?_
  simp -dsimp -implicitDefEqProofs (disch := omega) only [go_sem, hd, e0, e1, e5, h1.cl n]
  have h2 := h1.turnTo (.row (.slice (some ⟨g, o, none⟩) P.length c)) (RowO.cut (lo := 0) (k := W) (m := c) (by omega) (by omega) (Nat.le_refl c))
  have hcell : (((setRowL (P.map ptrV) W (List.replicate (P.length - W) (.pointer none))).drop (0 * 1)).take (W * 1)) = (P.take W).map ptrV := by
    rw [Nat.zero_mul, List.drop_zero, Nat.mul_one, List.map_take]
    apply List.ext_getElem?
    intro j
    simp only [List.getElem?_take]
    split
    · exact getElem?_setRowL_lt _ _ _ _ (by omega)
    · rfl
  rw [hcell] at h2
  have hv : (Value.slice (if c = 0 then some (⟨g, o, none⟩ : Addr) else Option.map (fun x : Addr => x.add (0 * 1)) (some (⟨g, o, none⟩ : Addr))) W (c - 0)) = .slice (some ⟨g, o, none⟩) W c := by
    split <;> rfl
  have hW2 : (P.take W).length = W := by rw [List.length_take]; omega
  rw [hv] at h2
  rw [show (if c = 0 then some (⟨g, o, none⟩ : Addr) else some ⟨g, o, none⟩) = some ⟨g, o, none⟩ by split <;> rfl]
  refine h2.sto (b := n) (by simp) rfl fun w3 h3 => ?_
  simp only [List.setIfInBounds_toArray, List.set_cons_succ, List.set_cons_zero] at h3
  simp -dsimp -implicitDefEqProofs (disch := omega) only [go_sem]
  refine fin _ _ (.slice (some ⟨g, o, none⟩) W c) ?_ (by simp -dsimp -implicitDefEqProofs only [go_sem, hd]) (by simp -dsimp -implicitDefEqProofs only [go_sem, e0]) (by simp -dsimp -implicitDefEqProofs only [go_sem, e1])
  have h4 := h3.ent (Ent.sep (Ent.rfl' _) (Ent.sep (Ent.rfl' _) (Ent.sep (starL_take BlkP P W) (Ent.rfl' A))))
  have e1 : RowB (.slice (some ⟨g, o, none⟩) W c) (P.take W) = RowO 136 1 (.slice (some ⟨g, o, none⟩) W c) W ((P.take W).map ptrV) := by
    show RowO _ 1 _ (P.take W).length _ = _
    rw [hW2]
  rw [e1]
  exact h4
end
section
attribute [local go_sem] F35.t10_eq F35.t14_eq F35.t3_eq
theorem cut_any (hi : i.mode < 4294967296) (ok : BlksOk P b) (h : St w0 (NodeB n st i vk vb * (BlksP vb P * A)) w) :
    Calls Tryz.prog 35 #[.pointer (some ⟨n, 0, none⟩), .int .u64 k] w (BytesR w0 A n st i vk vb P (cutF k ⟨i, b⟩)) := by
  refine F35.calls (by simp) ?_
  unfold F35.code
  have bd := bDir (P := Tryz.prog) (T := 33) hi
  cases hd : dirF i.mode
  case true =>
    have hr : cutF k ⟨i, b⟩ = .error 81 := by simp [cutF, hd]
    rw [hr]
    simp only [hd, if_true] at bd
    simp -dsimp -implicitDefEqProofs (disch := omega) only [go_sem, h.cl n, bd]
    exact ⟨h, rfl⟩
  simp only [hd, if_false, Bool.false_eq_true] at bd
  by_cases hk : (65536 : Int) < (k : Int)
  · have hr : cutF k ⟨i, b⟩ = .error 86 := by simp [cutF, hd]; omega
    rw [hr]
    simp -dsimp -implicitDefEqProofs (disch := omega) only [go_sem, h.cl n, bd, hk]
    exact ⟨h, rfl⟩
  have hr : cutF k ⟨i, b⟩ = .ok ⟨{ i with length := k }, padF b k⟩ := by
    unfold cutF
    rw [if_neg (by simp [hd]), if_neg (by omega)]
  rw [hr]
  simp -dsimp -implicitDefEqProofs (disch := omega) only [go_sem, h.cl n, bd, hk]
  unfold F35.t5
  have hk2 : k ≤ 65536 := by omega
  obtain ⟨q, hq⟩ : ∃ q, q = k / 256 := ⟨_, rfl⟩
  obtain ⟨p, hp⟩ : ∃ p, p = k % 256 := ⟨_, rfl⟩
  have hq1 : IntKind.i64.wrap (IntKind.u64.wrap ((k : Int).tdiv 256)) = q := by
    rw [Int.tdiv_eq_ediv_of_nonneg (by omega), wrap_u64 (by omega) (by omega), wrap_i64 (by omega) (by omega)]
    omega
  have hp1 : IntKind.i64.wrap ((k : Int).tmod 256) = p := by
    rw [Int.tmod_eq_emod_of_nonneg (by omega), wrap_i64 (by omega) (by omega)]
    omega
  have h0 : St w0 (NodeB n st i vk vb * (RowB vb P * (starL BlkP P * A))) w := h.ac (by unfold BlksP; ac_rfl)
  have few := ok.few
  -- the end, from a list of blocks
  have tail : ∀ (e : FA) (w : World) (P' : BL) (W : Nat), P'.length = P.length → W ≤ 65536 → BlksOk (P'.take W) (padF b k) → St w0 (NodeB n st i vk vb * (RowB vb P' * (starL BlkP P' * A))) w → e.ds = [] → e.ρ 0 = .pointer (some ⟨n, 0, none⟩) → e.ρ 1 = .int .u64 k → e.ρ 5 = .int .i64 W →
      cwE Tryz.prog F35.t11 (fnP Tryz.prog #[.tmp 4] (BytesR w0 A n st i vk vb P (.ok ⟨{ i with length := k }, padF b k⟩))) e w := fun e w P' W hl hW hok h hd e0 e1 e5 =>
    cut_t11 hW (by omega) h hd e0 e1 e5 fun w' vb' h' => ⟨vb', P'.take W, hok, h'.ac (by unfold BlksP; ac_rfl), rfl⟩
  by_cases c1 : (0 : Int) < (p : Int)
  case neg =>
    simp -dsimp -implicitDefEqProofs (disch := omega) only [go_sem, h.cl n, bd, hk, hq1, hp1, c1]
    refine tail _ _ P q rfl (by omega) (ok.cut hk2 (.inl ⟨hq, rfl, .inl (by omega)⟩)) h0 (by simp -dsimp -implicitDefEqProofs only [go_sem]) (by simp -dsimp -implicitDefEqProofs only [go_sem]) (by simp -dsimp -implicitDefEqProofs only [go_sem]) (by simp -dsimp -implicitDefEqProofs only [go_sem])
  obtain ⟨a, c, rfl, hl0, hnc, hcm⟩ := h0.rowForm vb
  by_cases c2 : (q : Int) < (P.length : Int)
  case neg =>
    simp -dsimp -implicitDefEqProofs (disch := omega) only [go_sem, h.cl n, bd, hk, hq1, hp1, c1, c2]
    refine tail _ _ P q rfl (by omega) (ok.cut hk2 (.inl ⟨hq, rfl, .inr (by omega)⟩)) h0 (by simp -dsimp -implicitDefEqProofs only [go_sem]) (by simp -dsimp -implicitDefEqProofs only [go_sem]) (by simp -dsimp -implicitDefEqProofs only [go_sem]) (by simp -dsimp -implicitDefEqProofs only [go_sem])
  have hql : q < P.length := by omega
  obtain ⟨g, o, rfl, hc⟩ := h0.atS (a := a) (n := P.length) (c := c) (xs := P.map ptrV) (k := q) (by simpa using hql)
  rw [List.getElem_map] at hc
  cases hb : P[q] with
  | none =>
    rw [hb] at hc
    simp only [ptrV] at hc
    have hb' : P[k / 256]? = some none := by rw [← hq, List.getElem?_eq_getElem hql, hb]
    simp -dsimp -implicitDefEqProofs (disch := omega) only [go_sem, h.cl n, bd, hk, hq1, hp1, c1, c2, hc]
    refine tail _ _ P (q + 1) rfl (by omega) (ok.cut hk2 (.inr ⟨by omega, by omega, by omega, .inl ⟨hb', rfl⟩⟩)) h0 (by simp -dsimp -implicitDefEqProofs only [go_sem]) (by simp -dsimp -implicitDefEqProofs only [go_sem]) (by simp -dsimp -implicitDefEqProofs only [go_sem]) (by simp -dsimp -implicitDefEqProofs only [go_sem]; rfl)
  | some pb =>
    obtain ⟨ba, bs⟩ := pb
    rw [hb] at hc
    simp only [ptrV] at hc
    have hb' : P[k / 256]? = some (some (ba, bs)) := by rw [← hq, List.getElem?_eq_getElem hql, hb]
    have hbl : bs.length = 256 := ok.full (ba, bs) (List.mem_of_getElem? hb')
    have hsp : P = P.take q ++ some (ba, bs) :: P.drop (q + 1) := by
      conv => lhs; rw [← List.take_append_drop q P, List.drop_eq_getElem_cons hql, hb]
    have hst : starL BlkP P = Blk ba (.cells (bs.map bv).toArray 137 (0, 0)) * starL BlkP (P.take q ++ P.drop (q + 1)) := by
      conv => lhs; rw [hsp]
      rw [starL_split]; rfl
    have h1 : St w0 (NodeB n st i vk (.slice (some ⟨g, o, none⟩) P.length c) * (RowB (.slice (some ⟨g, o, none⟩) P.length c) P * (Blk ba (.cells (bs.map bv).toArray 137 (0, 0)) * (starL BlkP (P.take q ++ P.drop (q + 1)) * A)))) w := by
      rw [hst] at h0
      exact h0.ac (by ac_rfl)
    simp -dsimp -implicitDefEqProofs (disch := omega) only [go_sem, h.cl n, bd, hk, hq1, hp1, c1, c2, hc]
    rw [if_neg (show ¬ 256 = p by omega)]
    refine h1.clearB (g := ba) (o := p) (m := 256 - p) rowTy_bytes rfl (by omega) (by simp; omega) fun w2 h2 => ?_
    rw [List.toList_toArray, zero_cells hbl (by omega)] at h2
    simp -dsimp -implicitDefEqProofs (disch := omega) only [go_sem]
    have hst2 : starL BlkP (P.set q (some (ba, zeroF bs p))) = Blk ba (.cells ((zeroF bs p).map bv).toArray 137 (0, 0)) * starL BlkP (P.take q ++ P.drop (q + 1)) := by
      rw [List.set_eq_take_append_cons_drop, if_pos hql, starL_split]; rfl
    have hpt : (P.set q (some (ba, zeroF bs p))).map ptrV = P.map ptrV := by
      rw [List.map_set]
      apply List.ext_getElem?
      intro j
      rw [List.getElem?_set]
      split
      · rename_i e
        subst e
        rw [if_pos (by simpa using hql), List.getElem?_map, List.getElem?_eq_getElem hql, hb]
        rfl
      · rfl
    have hln : (P.set q (some (ba, zeroF bs p))).length = P.length := List.length_set
    refine tail _ _ (P.set q (some (ba, zeroF bs p))) (q + 1) hln (by omega) (ok.cut hk2 (.inr ⟨by omega, by omega, by omega, .inr ⟨ba, bs, hb', by rw [hq, hp]⟩⟩)) ?_ (by simp -dsimp -implicitDefEqProofs only [go_sem]) (by simp -dsimp -implicitDefEqProofs only [go_sem]) (by simp -dsimp -implicitDefEqProofs only [go_sem]) (by simp -dsimp -implicitDefEqProofs only [go_sem]; rfl)
    rw [hst2]
    show St w0 (NodeB n st i vk (.slice (some ⟨g, o, none⟩) P.length c) * (RowO 136 1 (.slice (some ⟨g, o, none⟩) P.length c) (P.set q (some (ba, zeroF bs p))).length ((P.set q (some (ba, zeroF bs p))).map ptrV) * _)) w2
    rw [hpt, hln]
    exact h2.ac (by simp only [RowB]; ac_rfl)
end
end
structure Rdr (α : Type) where
  rel : α → List Value → Heap → Prop
  mono : ∀ {x cs h h'}, hle h h' → rel x cs h → rel x cs h'
def rInt (k : IntKind) : Rdr Int := ⟨fun n cs _ => cs = [.int k n] ∧ (Lit.int k n).wf = true, fun _ h => h⟩
def rBool : Rdr Bool := ⟨fun b cs _ => cs = [.bool b], fun _ h => h⟩
def rStr : Rdr ByteArray := ⟨fun s cs _ => cs = [.string s] ∧ s.size ≤ reachBytes, fun _ h => h⟩
def rEnd : Rdr Unit := ⟨fun _ cs _ => cs = [], fun _ h => h⟩
def rCons {α β : Type} (n : Nat) (R : Rdr α) (S : Rdr β) : Rdr (α × β) :=
  ⟨fun x cs h => ∃ c1 c2, cs = c1 ++ c2 ∧ c1.length = n ∧ R.rel x.1 c1 h ∧ S.rel x.2 c2 h, fun hl ⟨c1, c2, e, l, a, b⟩ => ⟨c1, c2, e, l, R.mono hl a, S.mono hl b⟩⟩
def rSlice {α : Type} (s b : Nat) (R : Rdr α) : Rdr (List α) :=
  ⟨fun xs cs h => ∃ a cap, cs = [.slice a xs.length cap] ∧ xs.length ≤ cap ∧ cap ≤ maxLen ∧ xs.length * b ≤ reachBytes ∧
    (xs = [] ∨ ∃ g o cur T fr, a = some ⟨g, o, none⟩ ∧ h g = some (.cells cur T fr) ∧ ∀ j (hj : j < xs.length), ((cur.toList.drop (o + j * s)).take s).length = s ∧ R.rel xs[j] ((cur.toList.drop (o + j * s)).take s) h),
   by
    rintro xs cs h h' hl ⟨a, cap, e, l, m, r, k⟩
    refine ⟨a, cap, e, l, m, r, ?_⟩
    rcases k with k | ⟨g, o, cur, T, fr, ea, hg, hj⟩
    · exact .inl k
    · exact .inr ⟨g, o, cur, T, fr, ea, hl _ _ hg, fun j hj' => ⟨(hj j hj').1, R.mono hl (hj j hj').2⟩⟩⟩
theorem Reads.mono {s n : Nat} {v : Value} {xs : List Value} {h h' : Heap} (hl : hle h h') (k : Reads s v n xs h) : Reads s v n xs h' := by
  obtain ⟨l, a, c, hv, hnc, hr⟩ := k
  exact ⟨l, a, c, hv, hnc, hr.imp id fun ⟨b, o, cur, T, fr, ha, hg, hj⟩ => ⟨b, o, cur, T, fr, ha, hl _ _ hg, hj⟩⟩
def rBytes : Rdr (List UInt8) :=
  ⟨fun bs cs h => ∃ v, cs = [v] ∧ RdB v bs h ∧ bs.length ≤ reachBytes, fun hl ⟨v, e, k, hb⟩ => ⟨v, e, Reads.mono hl k, hb⟩⟩
def Rdr.at {α : Type} (R : Rdr α) (x : α) (cs : List Value) : HP := fun h => R.rel x cs h
theorem Rdr.old {α : Type} {R : Rdr α} {x : α} {cs : List Value} {w0 : World} (h : R.rel x cs (heapOf w0)) : Ent (Old w0) (R.at x cs) :=
  Ent.of fun _ ho => R.mono (fun b o e => ho b o e) h
theorem St.reader {α : Type} {R : Rdr α} {x : α} {cs : List Value} {w0 w : World} {F : HP} (h : St w0 F w) (k : Ent F (R.at x cs)) : R.rel x cs (heapOf w) := by
  obtain ⟨y, l, hy⟩ := (h.ent k).sat
  exact R.mono l hy
theorem Rdr.slice {α : Type} {s b : Nat} {R : Rdr α} {xs : List α} {v : Value} {h : Heap} (k : (rSlice s b R).rel xs [v] h) :
    ∃ a cap, v = .slice a xs.length cap ∧ xs.length ≤ cap ∧ cap ≤ maxLen ∧ xs.length * b ≤ reachBytes := by
  obtain ⟨a, cap, e, l, m, r, _⟩ := k
  simp only [List.cons.injEq, and_true] at e
  exact ⟨a, cap, e, l, m, r⟩
theorem Rdr.elem {α : Type} {s b : Nat} {R : Rdr α} {xs : List α} {a : Option Addr} {n cap j : Nat} {F : HP} (k : Ent F ((rSlice s b R).at xs [.slice a n cap])) {w0 w : World} (hw : St w0 F w) (hj : j < xs.length) :
    ∃ g o cs, a = some ⟨g, o, none⟩ ∧ cs.length = s ∧ (∀ i, i < s → w.cell? ⟨g, o + j * s + i, none⟩ = cs[i]?) ∧ R.rel xs[j] cs (heapOf w) := by
  obtain ⟨a', cap', e, _, _, _, hr⟩ := hw.reader k
  simp only [List.cons.injEq, Value.slice.injEq, and_true] at e
  obtain ⟨rfl, rfl, rfl⟩ := e
  rcases hr with rfl | ⟨g, o, cur, T, fr, rfl, hg, hr⟩
  · simp at hj
  · obtain ⟨hl, hx⟩ := hr j hj
    refine ⟨g, o, _, rfl, hl, fun i hi => ?_, hx⟩
    rw [cell_of_heap hg, List.getElem?_take, if_pos hi, List.getElem?_drop]
    simp
def Opens {α : Type} (P : Program) (t : TypeId) (R : Rdr α) : Prop :=
  ∀ {H : Type} (enc : TypeId × Value → H) (W : World) (sp : Nat → Bool) (fuel : Nat) (cs : List Value) (y : DataW H × List MemPlace),
    DataW.trod enc P W 0 sp true fuel t cs = some y → (∀ n ∈ y.1.weights P t, n ≤ reachBytes) → ∃ x, R.rel x cs (heapOf W)
theorem opens_int {P : Program} {t : TypeId} {k : IntKind} (hu : P.underlying t = some (.int k)) : Opens P t (rInt k) := by
  intro H enc W sp fuel cs y h _
  obtain ⟨n, hc, _, hw⟩ := DataW.trod_int hu h
  exact ⟨n, hc, hw⟩
theorem opens_bool {P : Program} {t : TypeId} (hu : P.underlying t = some .bool) : Opens P t rBool := by
  intro H enc W sp fuel cs y h _
  obtain ⟨b, hc, _⟩ := DataW.trod_bool hu h
  exact ⟨b, hc⟩
theorem opens_str {P : Program} {t : TypeId} (hu : P.underlying t = some .string) : Opens P t rStr := by
  intro H enc W sp fuel cs y h hz
  obtain ⟨s, hc, rfl, _⟩ := DataW.trod_string hu h
  refine ⟨s, hc, ?_⟩
  have := hz s.data.toList.length (by simp [DataW.weights])
  simpa using this
theorem weightsAll_mem {H : Type} {P : Program} {e : TypeId} {d : DataW H} {n : Nat} (hn : n ∈ d.weights P e) : ∀ {l : List (DataW H)}, d ∈ l → n ∈ DataW.weightsAll P e l
  | x :: l, hd => by
    simp only [DataW.weightsAll, List.mem_append]
    rcases List.mem_cons.1 hd with rfl | hd
    · exact .inl hn
    · exact .inr (weightsAll_mem hn hd)
theorem cellsAt {W : World} {a : Addr} {n : Nat} {cs : List Value} (h : W.cells? 0 a n = some cs) (hn : 0 < n) :
    ∃ g o cur T fr, a = ⟨g, o, none⟩ ∧ W.heap[g]? = some (.cells cur T fr) ∧ cs = (cur.toList.drop o).take n ∧ cs.length = n := by
  unfold World.cells? at h
  rw [if_pos (Nat.zero_le _)] at h
  have hl := mapM_some_length h
  have hg := fun i (hi : i < n) => mapM_some_get h i i (by simp [hi])
  simp only [List.length_range] at hl
  obtain ⟨g, o, sp⟩ := a
  have h0 := hg 0 hn
  have hsome : cs[0]? = some cs[0] := List.getElem?_eq_getElem (by omega)
  rw [hsome] at h0
  have hsp : sp = none := by simpa [Addr.add] using World.cell?_spot h0
  subst hsp
  rw [add_lit] at h0
  have hb : ∃ cur T fr, W.heap[g]? = some (.cells cur T fr) := by
    unfold World.cell? at h0
    simp only at h0
    split at h0
    · rename_i cur T fr hx; exact ⟨cur, T, fr, hx⟩
    · cases h0
  obtain ⟨cur, T, fr, hx⟩ := hb
  refine ⟨g, o, cur, T, fr, rfl, hx, ?_, hl⟩
  apply List.ext_getElem?
  intro i
  rw [List.getElem?_take]
  split
  · rename_i hi
    have := hg i hi
    rw [add_lit, cell_of_heap hx] at this
    rw [← this, List.getElem?_drop]
    simp
  · rw [List.getElem?_eq_none]; omega
theorem choose_list {α : Type} {n : Nat} {p : Nat → α → Prop} (h : ∀ i, i < n → ∃ x, p i x) : ∃ xs : List α, xs.length = n ∧ ∀ i (hi : i < xs.length), p i xs[i] := by
  induction n with
  | zero => exact ⟨[], rfl, fun i hi => by simp at hi⟩
  | succ n ih =>
    obtain ⟨xs, hl, hx⟩ := ih fun i hi => h i (by omega)
    obtain ⟨x, hp⟩ := h n (by omega)
    refine ⟨xs ++ [x], by simp [hl], fun i hi => ?_⟩
    rw [List.getElem_append]
    split
    · rename_i h'; exact hx i h'
    · rename_i h'
      have : i = n := by simp at hi; omega
      subst this
      simpa using hp
theorem opens_slice {α : Type} {P : Program} {t e : TypeId} {s b : Nat} {R : Rdr α} (hu : P.underlying t = some (.slice e)) (hs : P.cellsOf e = s) (hb : P.bytesOf e = b) (h0 : 0 < s) (hR : Opens P e R) : Opens P t (rSlice s b R) := by
  intro H enc W sp fuel cs y h hz
  subst hs hb
  rcases DataW.trod_slice hu h with ⟨rfl, rfl⟩ | ⟨a, len, cap, elems, rest, n, rfl, rfl, rfl, _, hlc, hcm, hel, hel2, _, _⟩
  · exact ⟨[], none, 0, rfl, Nat.le_refl _, by simp, by simp, .inl rfl⟩
  · simp only [DataW.weights, hu, List.mem_cons, List.mem_append, List.length_map] at hz
    have hsz : len * P.bytesOf e ≤ reachBytes := by
      have := hz _ (.inl rfl)
      rw [hel] at this
      exact Nat.le_trans (Nat.mul_le_mul_right _ (Nat.le_add_right _ _)) this
    have hel3 : ∀ i, i < len → ∃ x, ∃ cs, W.cells? 0 (a.add (i * P.cellsOf e)) (P.cellsOf e) = some cs ∧ R.rel x cs (heapOf W) := by
      intro i hi
      have h1 := hel2 i hi
      have hi' : i < elems.length := by omega
      rw [List.getElem?_eq_getElem hi'] at h1
      obtain ⟨cs, hcs, htr⟩ := Option.bind_eq_some_iff.1 h1
      obtain ⟨x, hx⟩ := hR enc W sp n cs _ htr fun m hm => hz m (.inr (.inl (weightsAll_mem hm (List.mem_map.2 ⟨_, List.getElem_mem hi', rfl⟩))))
      exact ⟨x, cs, hcs, hx⟩
    obtain ⟨xs, hxl, hxs⟩ := choose_list hel3
    subst hxl
    refine ⟨xs, some a, cap, rfl, hlc, hcm, hsz, ?_⟩
    by_cases hx : xs = []
    · exact .inl hx
    · right
      obtain ⟨cs0, hc0, _⟩ := hxs 0 (List.length_pos_iff.2 hx)
      obtain ⟨g, o, cur, T, fr, ha, hg, _, _⟩ := cellsAt hc0 h0
      have ha : a = ⟨g, o, none⟩ := by
        obtain ⟨g', o', sp'⟩ := a
        simp only [Nat.zero_mul] at ha
        have : (⟨g', o', sp'⟩ : Addr).add 0 = ⟨g', o', sp'⟩ := rfl
        rw [this] at ha; exact ha
      subst ha
      refine ⟨g, o, cur, T, fr, rfl, hg, fun j hj => ?_⟩
      obtain ⟨csj, hcj, hrj⟩ := hxs j hj
      rw [add_lit] at hcj
      obtain ⟨g', o', cur', T', fr', ha', hg', hcs', hl'⟩ := cellsAt hcj h0
      simp only [Addr.mk.injEq, and_true] at ha'
      obtain ⟨rfl, rfl⟩ := ha'
      rw [hg] at hg'
      simp only [Option.some.injEq, Obj.cells.injEq] at hg'
      obtain ⟨rfl, _, _⟩ := hg'
      rw [← hcs']
      exact ⟨hl', hrj⟩
theorem opens_bytes {P : Program} {t e : TypeId} (hu : P.underlying t = some (.slice e)) (he : P.underlying e = some (.int .u8)) (hs : P.cellsOf e = 1) (hb : P.bytesOf e = 1) : Opens P t rBytes := by
  intro H enc W sp fuel cs y h hz
  obtain ⟨xs, a, cap, rfl, hlc, hcm, hsz, hr⟩ := opens_slice hu hs hb (by omega) (opens_int he) enc W sp fuel cs y h hz
  have hbs : ∃ bs : List UInt8, bs.length = xs.length ∧ ((xs = [] ∨ ∃ g o cur T fr, a = some ⟨g, o, none⟩ ∧ heapOf W g = some (.cells cur T fr) ∧ ∀ j, j < xs.length → cur[o + j]? = (bs.map bv)[j]?)) := by
    rcases hr with rfl | ⟨g, o, cur, T, fr, rfl, hg, hr⟩
    · exact ⟨[], rfl, .inl rfl⟩
    · refine ⟨xs.map fun n => UInt8.ofNat n.toNat, by simp, .inr ⟨g, o, cur, T, fr, rfl, hg, fun j hj => ?_⟩⟩
      obtain ⟨_, hc, hw⟩ := hr j hj
      have h1 : cur[o + j]? = some (.int .u8 xs[j]) := by
        have := congrArg (fun l => l[0]?) hc
        simpa [List.getElem?_take, List.getElem?_drop] using this
      rw [h1]
      simp only [List.map_map, List.getElem?_map, List.getElem?_eq_getElem hj, Option.map_some, Function.comp, bv]
      have hb2 : 0 ≤ xs[j] ∧ xs[j] < 256 := by
        have h1 : IntKind.u8.min = 0 := rfl
        have h2 : IntKind.u8.max = 255 := rfl
        simp [Lit.wf] at hw
        omega
      congr 2
      have : (UInt8.ofNat (xs[j]).toNat).toNat = (xs[j]).toNat % 256 := by simp
      omega
  obtain ⟨bs, hbl, hr⟩ := hbs
  refine ⟨bs, _, rfl, ⟨by simp, a, cap, by rw [hbl], by omega, ?_⟩, by omega⟩
  rcases hr with rfl | ⟨g, o, cur, T, fr, ha, hg, hr⟩
  · left; simpa using hbl
  · exact .inr ⟨g, o, cur, T, fr, ha, hg, fun j hj => hr j (by simp at hj; omega)⟩
def OpensF {α : Type} (P : Program) (N : Nat) (fs : List Field) (off : Nat) (R : Rdr α) : Prop :=
  ∀ {H : Type} (enc : TypeId × Value → H) (W : World) (sp : Nat → Bool) (fuel : Nat) (cs : List Value) (xs : List (DataW H × List MemPlace)), cs.length = N → xs.length = fs.length →
    (∀ (i : Nat) (f : Field), fs[i]? = some f → DataW.trod enc P W 0 sp true fuel f.type ((cs.drop f.offset).take (P.cellsOf f.type)) = xs[i]?) →
    (∀ n ∈ DataW.weightsEach P (fs.map (·.type)) (xs.map (·.1)), n ≤ reachBytes) → ∃ x, R.rel x (cs.drop off) (heapOf W)
theorem opensF_nil {P : Program} {N : Nat} : OpensF P N [] N rEnd := by
  intro H enc W sp fuel cs xs hl _ _ _
  exact ⟨(), by show cs.drop N = []; simp; omega⟩
theorem opensF_cons {α β : Type} {P : Program} {N off s : Nat} {f : Field} {fs : List Field} {R : Rdr α} {S : Rdr β} (hoff : f.offset = off) (hs : P.cellsOf f.type = s) (hN : off + s ≤ N) (hR : Opens P f.type R) (hS : OpensF P N fs (off + s) S) : OpensF P N (f :: fs) off (rCons s R S) := by
  intro H enc W sp fuel cs xs hl hxl hx hz
  cases xs with
  | nil => simp at hxl
  | cons x0 xs =>
    have h0 := hx 0 f rfl
    rw [hoff, hs] at h0
    simp only [List.map_cons, DataW.weightsEach, List.mem_append] at hz
    obtain ⟨a, ha⟩ := hR enc W sp fuel _ _ h0 fun n hn => hz n (.inl hn)
    obtain ⟨b, hb⟩ := hS enc W sp fuel cs xs hl (by simpa using hxl) (fun i g hg => hx (i + 1) g (by simpa using hg)) fun n hn => hz n (.inr hn)
    refine ⟨(a, b), (cs.drop off).take s, cs.drop (off + s), ?_, by simp; omega, ha, hb⟩
    rw [← List.drop_drop, List.take_append_drop]
theorem opens_struct {α : Type} {P : Program} {t : TypeId} {fs : Array Field} {N : Nat} {R : Rdr α} (hu : P.underlying t = some (.struct fs)) (hN : P.cellsOf t = N) (hF : OpensF P N fs.toList 0 R) : Opens P t R := by
  intro H enc W sp fuel cs y h hz
  obtain ⟨xs, n, rfl, rfl, hl, hxl, hx⟩ := DataW.trod_struct hu h
  have := hF enc W sp n cs xs (by rw [hl, hN]) (by simpa using hxl) (fun i f hf => hx i f (by simpa using hf)) (by simpa [DataW.weights, hu] using hz)
  simpa using this
theorem Opens.arg {α : Type} {P : Program} {t : TypeId} {R : Rdr α} (hR : Opens P t R) {H : Type} {enc : TypeId × Value → H} {W : World} {sp : Nat → Bool} {v : Value} {d : DataW H} {p : List MemPlace} (h : DataW.Trod enc P W 0 sp true t v d p)
    {ts : List TypeId} {ds : List (DataW H)} (hz : (DataW.weightsEach P ts ds).all (· ≤ reachBytes) = true) (j : Nat) (hj : ts[j]? = some t) (hd : ds[j]? = some d) : ∃ x, R.rel x v.cells.toList (heapOf W) := by
  obtain ⟨fuel, hf⟩ := h
  refine hR enc W sp fuel _ _ hf fun n hn => ?_
  have := List.all_eq_true.1 hz _ (DataW.weights_mem_each hj hd n hn)
  simpa using this
end Go.Proofs.YtijnmokpihhhcaaGreatDoor
namespace Go.Proofs.YtijnmokpihhhcaaGreatDoor
open Go
set_option linter.unusedVariables false
theorem St.make1 {P : Program} {w0 w : World} {F : HP} {t e bs n c : Nat} {z : Value} {K : Value → World → Prop} {θ : Tag K} (h : St w0 F w) (ht : rowTy P t = some (e, 1, bs, [z])) (hn : n ≤ c) (hc : c ≤ 16777216) (hb : bs * c ≤ 281474976710656)
    (hK : ∀ b w', St w0 (RowO e 1 (.slice (some ⟨b, 0, none⟩) n c) n (List.replicate n z) * F) w' → K (.slice (some ⟨b, 0, none⟩) n c) w') : semD P (kMakeSlice t (.int .i64 n) (.int .i64 c)) w K θ := by
  show semD P (Instr.makeSlice t (.int .i64 n) (.int .i64 c)) w K θ
  obtain ⟨hu, i, zv, hi, hz, hsz, hbs, hzs, hzc⟩ := rowTy_some ht
  have hb2 : (bs : Int) * c ≤ 281474976710656 := by
    have : ((bs * c : Nat) : Int) ≤ 281474976710656 := by omega
    rwa [Int.natCast_mul] at this
  have hr := run_makeSlice (P := P) (w := w) t e i zv hu hi hz .i64 .i64 n c (by omega) (by omega) (by rw [hsz]; simp; omega) (by rw [hbs]; exact hb2) (by omega)
  simp only [Int.toNat_natCast, hsz, Nat.mul_one] at hr
  have hcells : madeCells zv.cells c = (List.replicate c z).toArray := by
    have hz1 : zv.cells = #[z] := Array.ext' (by rw [hzc])
    rw [hz1]
    apply Array.ext'
    simp only [madeCells]
    apply List.ext_getElem
    · simp
    · intro j h1 h2
      simp [Nat.mod_one]
  rw [hcells] at hr
  refine ⟨_, _, hr, hK _ _ ((h.alloc _).ent (Ent.sep (Ent.of fun k hk => .inr ⟨w.heap.size, 0, c, (List.replicate c z).toArray, rfl, hk, hn, by simp only [maxLen]; omega, by simp, ?_, by simp⟩) (Ent.rfl' F)))⟩
  simp only [List.drop_zero, Nat.mul_one, List.take_replicate, Nat.min_eq_left hn]
theorem flatMap_take {α : Type} {enc : α → List Value} {k : Nat} (hk : ∀ x, (enc x).length = k) : ∀ (l : List α) (n : Nat), (l.flatMap enc).take (n * k) = (l.take n).flatMap enc
  | [], n => by simp
  | x :: l, 0 => by simp
  | x :: l, n + 1 => by
    rw [List.flatMap_cons, List.take_succ_cons, List.flatMap_cons, Nat.add_mul, Nat.one_mul, Nat.add_comm, List.take_append, hk, List.take_of_length_le (by rw [hk]; omega), show k + n * k - k = n * k by omega, flatMap_take hk l n]
theorem St.lit0 {P : Program} {t e s bs : Nat} {zs : List Value} {w0 w : World} {F : HP} {parts : Array (Nat × Value)} {K : Value → World → Prop} {θ : Tag K}
    (h : St w0 F w) (ht : rowTy P t = some (e, s, bs, zs)) (hp : parts = #[]) (hK : ∀ v w', St w0 (RowO e s v 0 [] * F) w' → K v w') : semD P (kBuildSlice t 0 parts) w K θ := by
  show semD P (Instr.buildSlice t 0 parts) w K θ
  subst hp
  obtain ⟨hu, i, z, hi, hz, rfl, rfl, hzs, rfl⟩ := rowTy_some ht
  refine ⟨.slice (some ⟨w.heap.size, 0, none⟩) 0 0, w.alloc (.cells #[] e), ?_, hK _ _ ((h.alloc _).ent (Ent.sep (Ent.of fun k hk => .inr ⟨w.heap.size, 0, 0, #[], rfl, hk, Nat.le_refl _, by simp [maxLen], by simp, by simp, by simp⟩) (Ent.rfl' F)))⟩
  unfold Instr.buildSlice
  simp only [Sem.run_bind, run_underlying' hu, Result.andThen_ok, run_sizeOf' hi, Nat.zero_mul, if_neg (show ¬ (0 > 2 ^ 24) by omega), if_true, Sem.run_pure]
  have hf : Instr.fill (fun i_1 => some (i_1 * i.size, i.size)) (Array.map (fun x => (#[] : Array Value)[x % (#[] : Array Value).size]!) (Array.range 0)) ([] : List (Nat × Value)) = some #[] := by simp [Instr.fill]
  rw [hf]
  rfl
theorem least_nat {p : Nat → Prop} (h : ∃ n, p n) : ∃ n, p n ∧ ∀ m, p m → n ≤ m := by
  obtain ⟨n, hn⟩ := h
  induction n using Nat.strongRecOn with
  | _ n ih =>
    by_cases hx : ∃ m, m < n ∧ p m
    · obtain ⟨m, hm, hp⟩ := hx
      exact ih m hm hp
    · refine ⟨n, hn, fun m hm => ?_⟩
      have : ¬ m < n := fun hlt => hx ⟨m, hlt, hm⟩
      omega
open Classical in
noncomputable def rankOf (I : Nat → FA → World → Prop) (e : FA) (w : World) : Nat := if h : ∃ n, I n e w then Classical.choose (least_nat h) else 0
theorem rank_min {I : Nat → FA → World → Prop} {e : FA} {w : World} (h : ∃ n, I n e w) : I (rankOf I e w) e w ∧ ∀ m, I m e w → rankOf I e w ≤ m := by
  unfold rankOf
  rw [dif_pos h]
  exact Classical.choose_spec (least_nat h)
theorem rank_down {I : Nat → FA → World → Prop} {e e' : FA} {w w' : World} {m : Nat} (h : I m e' w') (hm : m < rankOf I e w) : (∃ n, I n e' w') ∧ rankOf I e' w' < rankOf I e w :=
  ⟨⟨m, h⟩, Nat.lt_of_le_of_lt ((rank_min ⟨m, h⟩).2 m h) hm⟩
theorem loop_rank {P : Program} {c : Cd} {Q : Post} {e : FA} {w : World} {θ : Tag ((.loop c : Cd), Q, e, w)} (I : Nat → FA → World → Prop) (n : Nat) (h0 : I n e w)
    (h1 : ∀ e w, I (rankOf I e w) e w → cwE P c (loopP (fun e w => ∃ n, I n e w) (rankOf I) e w Q) e w) : cwE P (.loop c) Q e w θ :=
  loop_intro (fun e w => ∃ n, I n e w) (rankOf I) ⟨n, h0⟩ fun e w h => h1 e w (rank_min h).1
end Go.Proofs.YtijnmokpihhhcaaGreatDoor
namespace Go.Proofs.YtijnmokpihhhcaaGreatDoor
open Go
set_option linter.unusedVariables false
set_option linter.unusedSimpArgs false
set_option maxRecDepth 100000
theorem over_cells {bs d : List UInt8} {p : Nat} (h : p + d.length ≤ bs.length) : setRowL (bs.map bv) p (d.map bv) = (overF bs p d).map bv := by
  apply List.ext_getElem?
  intro j
  unfold overF
  rw [List.map_append, List.map_append, List.map_take, List.map_drop]
  rcases Nat.lt_or_ge j p with h1 | h1
  · rw [getElem?_setRowL_lt _ _ _ _ h1, List.append_assoc, List.getElem?_append_left (by simp; omega), List.getElem?_take_of_lt h1]
  · rcases Nat.lt_or_ge j (p + d.length) with h2 | h2
    · have := getElem?_setRowL_in (d.map bv) (bs.map bv) p (j - p) (by simp; omega) (by simp; omega)
      rw [show p + (j - p) = j by omega] at this
      rw [this, List.append_assoc, List.getElem?_append_right (by simp; omega), List.getElem?_append_left (by simp; omega)]
      congr 1
      simp; omega
    · rw [getElem?_setRowL_ge _ _ _ _ (by simpa using h2), List.getElem?_append_right (by simp; omega), List.getElem?_drop]
      congr 1
      simp; omega
section
variable {w0 w : World} {A : HP} {n off : Nat} {st : Int} {i : Inf} {vk vb v : Value} {P : BL} {b d : List UInt8} {e : FA} {R : Ending → World → Prop}
theorem starL_at {q ba : Nat} {bs : List UInt8} (hq : P[q]? = some (some (ba, bs))) : starL BlkP P = Blk ba (.cells (bs.map bv).toArray 137 (0, 0)) * starL BlkP (P.take q ++ P.drop (q + 1)) := by
  obtain ⟨hql, hb⟩ := List.getElem?_eq_some_iff.1 hq
  have hsp : P = P.take q ++ some (ba, bs) :: P.drop (q + 1) := by
    conv => lhs; rw [← List.take_append_drop q P, List.drop_eq_getElem_cons hql, hb]
  conv => lhs; rw [hsp]
  rw [starL_split]; rfl
theorem starL_set {q ba : Nat} {bs : List UInt8} (hq : q < P.length) : starL BlkP (P.set q (some (ba, bs))) = Blk ba (.cells (bs.map bv).toArray 137 (0, 0)) * starL BlkP (P.take q ++ P.drop (q + 1)) := by
  rw [List.set_eq_take_append_cons_drop, if_pos hq, starL_split]; rfl
theorem starL_nil {q : Nat} (hq : P[q]? = some none) : Ent (starL BlkP P) (starL BlkP (P.take q ++ P.drop (q + 1))) := by
  obtain ⟨hql, hb⟩ := List.getElem?_eq_some_iff.1 hq
  have hsp : P = P.take q ++ none :: P.drop (q + 1) := by
    conv => lhs; rw [← List.take_append_drop q P, List.drop_eq_getElem_cons hql, hb]
  have : starL BlkP P = EmpH * starL BlkP (P.take q ++ P.drop (q + 1)) := by
    conv => lhs; rw [hsp]
    rw [starL_split]; rfl
  rw [this]
  exact Ent.right _ _
theorem ptrs_set {q ba : Nat} {bs cs : List UInt8} (hq : P[q]? = some (some (ba, bs))) : (P.set q (some (ba, cs))).map ptrV = P.map ptrV := by
  obtain ⟨hql, hb⟩ := List.getElem?_eq_some_iff.1 hq
  rw [List.map_set]
  apply List.ext_getElem?
  intro j
  rw [List.getElem?_set]
  split
  · rename_i e
    subst e
    rw [if_pos (by simpa using hql), List.getElem?_map, hq]
    rfl
  · rfl
section
attribute [local go_sem] F36.t9_eq F36.t10_eq F36.t7_eq
theorem put_t12 {q ba : Nat} {bs : List UInt8} (hb : P[q]? = some (some (ba, bs))) (hbl : bs.length = 256) (hqo : q = off / 256) (hd1 : off % 256 + d.length ≤ 256) (hd2 : off + d.length ≤ 65536) (hP : P.length ≤ 256) (hlen : i.length ≤ 65536)
    [hg : Gives A (RdB v d)] (h : St w0 (NodeB n st i vk vb * (RowB vb P * (starL BlkP P * A))) w) (hd : e.ds = []) (e0 : e.ρ 0 = .pointer (some ⟨n, 0, none⟩)) (e1 : e.ρ 1 = .int .u64 off) (e2 : e.ρ 2 = v) (e7 : e.ρ 7 = .int .i64 q)
    (hR : ∀ w', St w0 (NodeB n st { i with length := max i.length (off + d.length) } vk vb * (RowB vb (P.set q (some (ba, overF bs (off % 256) d))) * (starL BlkP (P.set q (some (ba, overF bs (off % 256) d))) * A))) w' → R (.returned (.int .i64 0)) w') :
    cwE Tryz.prog F36.t12 (fnP Tryz.prog #[.tmp 6] R) e w := by
  obtain ⟨hql, hbq⟩ := List.getElem?_eq_some_iff.1 hb
  have h1 : St w0 (NodeB n st i vk vb * (RowB vb P * (Blk ba (.cells (bs.map bv).toArray 137 (0, 0)) * (starL BlkP (P.take q ++ P.drop (q + 1)) * A)))) w := by
    rw [starL_at hb] at h
    exact h.ac (by ac_rfl)
  obtain ⟨a, c, rfl, hl0, hnc, hcm⟩ := h1.rowForm vb
  obtain ⟨g, o, rfl, hc⟩ := h1.atS (a := a) (n := P.length) (c := c) (xs := P.map ptrV) (k := q) (by simpa using hql)
  rw [List.getElem_map, hbq] at hc
  simp only [ptrV] at hc
  have hrd := (h1.gives (B := RdB v d)).rd
  obtain ⟨av, cv, rfl, hvc, hvx⟩ := hrd.form
  clear hvx
  obtain ⟨p, hp⟩ : ∃ p, p = off % 256 := ⟨_, rfl⟩
  have hp1 : ((off : Int)).tmod 256 = p := by rw [Int.tmod_eq_emod_of_nonneg (by omega)]; omega
  have hmx : max i.length (off + d.length) < 18446744073709551616 := by omega
  unfold F36.t12
  simp -dsimp -implicitDefEqProofs (disch := omega) only [go_sem, hd, e0, e1, e2, e7, h1.cl n, hc, hp1]
  rw [if_neg (show ¬ 256 = p by omega)]
  refine h1.copyH (g := ba) (o := p) (dl := 256 - p) (n := d.length) (xs := d.map bv) Tryz.underlying43 (by kernel_rfl) hrd (bv_isCell d) (by simp; omega) fun w2 h2 => ?_
  rw [List.toList_toArray, List.take_of_length_le (by simp; omega), over_cells (by omega)] at h2
  simp -dsimp -implicitDefEqProofs (disch := omega) only [go_sem, hd, e0, e1, e2, e7, h2.cl n]
  have hm : (if (i.length : Int) < (off : Int) + d.length then (off : Int) + d.length else i.length) = ((max i.length (off + d.length) : Nat) : Int) := by
    split <;> omega
  rw [hm]
  refine h2.sto (b := n) (by simp) rfl fun w3 h3 => ?_
  simp only [List.setIfInBounds_toArray, List.set_cons_succ, List.set_cons_zero] at h3
  simp -dsimp -implicitDefEqProofs (disch := omega) only [go_sem, hd]
  refine hR _ ?_
  have h3 : St w0 (NodeB n st { i with length := max i.length (off + d.length) } vk (.slice (some ⟨g, o, none⟩) P.length c) * (RowB (.slice (some ⟨g, o, none⟩) P.length c) P * (Blk ba (.cells ((overF bs p d).map bv).toArray 137 (0, 0)) * (starL BlkP (P.take q ++ P.drop (q + 1)) * A)))) w3 := h3
  rw [starL_set hql, ← hp]
  show St w0 (_ * (RowO 136 1 (.slice (some ⟨g, o, none⟩) P.length c) (P.set q (some (ba, overF bs p d))).length ((P.set q (some (ba, overF bs p d))).map ptrV) * _)) w3
  rw [ptrs_set hb, List.length_set]
  exact h3.ac (by simp only [RowB]; ac_rfl)
end
section
attribute [local go_sem] F36.t9_eq F36.t7_eq
theorem put_t10 {q : Nat} (hql : q < P.length) (hqo : q = off / 256) (hd1 : off % 256 + d.length ≤ 256) (hd2 : off + d.length ≤ 65536) (hP : P.length ≤ 256) (hfull : ∀ p, some p ∈ P → p.2.length = 256) (hlen : i.length ≤ 65536)
    [hg : Gives A (RdB v d)] (h : St w0 (NodeB n st i vk vb * (RowB vb P * (starL BlkP P * A))) w) (hd : e.ds = []) (e0 : e.ρ 0 = .pointer (some ⟨n, 0, none⟩)) (e1 : e.ρ 1 = .int .u64 off) (e2 : e.ρ 2 = v) (e7 : e.ρ 7 = .int .i64 q)
    (hR : ∀ w' ba bs, (P[q]? = some (some (ba, bs)) ∨ (P[q]? = some none ∧ bs = List.replicate 256 0)) → St w0 (NodeB n st { i with length := max i.length (off + d.length) } vk vb * (RowB vb (P.set q (some (ba, overF bs (off % 256) d))) * (starL BlkP (P.set q (some (ba, overF bs (off % 256) d))) * A))) w' → R (.returned (.int .i64 0)) w') :
    cwE Tryz.prog F36.t10 (fnP Tryz.prog #[.tmp 6] R) e w := by
  obtain ⟨a, c, rfl, hl0, hnc, hcm⟩ := h.rowForm vb
  obtain ⟨g, o, rfl, hc⟩ := h.atS (a := a) (n := P.length) (c := c) (xs := P.map ptrV) (k := q) (by simpa using hql)
  rw [List.getElem_map] at hc
  rw [F36.t10_eq]
  cases hb : P[q] with
  | some pb =>
    obtain ⟨ba, bs⟩ := pb
    rw [hb] at hc
    simp only [ptrV] at hc
    have hb' : P[q]? = some (some (ba, bs)) := by rw [List.getElem?_eq_getElem hql, hb]
    simp -dsimp -implicitDefEqProofs (disch := omega) only [go_sem, hd, e0, e1, e2, e7, h.cl n, hc]
    exact put_t12 (v := v) hb' (hfull (ba, bs) (List.mem_of_getElem? hb')) hqo hd1 hd2 hP hlen h (by simp -dsimp -implicitDefEqProofs only [go_sem, hd]) (by simp -dsimp -implicitDefEqProofs only [go_sem, e0]) (by simp -dsimp -implicitDefEqProofs only [go_sem, e1]) (by simp -dsimp -implicitDefEqProofs only [go_sem, e2]) (by simp -dsimp -implicitDefEqProofs only [go_sem, e7]) fun w' h' => hR w' ba bs (.inl hb') h'
  | none =>
    rw [hb] at hc
    simp only [ptrV] at hc
    have hb' : P[q]? = some none := by rw [List.getElem?_eq_getElem hql, hb]
    simp -dsimp -implicitDefEqProofs (disch := omega) only [go_sem, hd, e0, e1, e2, e7, h.cl n, hc]
    refine h.new fun B w1 h1 => ?_
    have h1 : St w0 (Blk B (.cells ((List.replicate 256 (0 : UInt8)).map bv).toArray 137 (0, 0)) * (NodeB n st i vk (.slice (some ⟨g, o, none⟩) P.length c) * (RowB (.slice (some ⟨g, o, none⟩) P.length c) P * (starL BlkP P * A)))) w1 := h1
    simp -dsimp -implicitDefEqProofs (disch := omega) only [go_sem, hd, e0, e1, e2, e7]
    refine h1.rowSet1 (g := g) (o := o) (n := P.length) (c := c) (k := q) (by simpa using hql) rfl fun w2 h2 => ?_
    simp -dsimp -implicitDefEqProofs (disch := omega) only [go_sem]
    obtain ⟨Z, hZ⟩ : ∃ Z, Z = List.replicate 256 (0 : UInt8) := ⟨_, rfl⟩
    rw [← hZ] at h2
    have hb2 : (P.set q (some (B, Z)))[q]? = some (some (B, Z)) := List.getElem?_set_self hql
    have hln : (P.set q (some (B, Z))).length = P.length := List.length_set
    have h3 : St w0 (NodeB n st i vk (.slice (some ⟨g, o, none⟩) P.length c) * (RowB (.slice (some ⟨g, o, none⟩) P.length c) (P.set q (some (B, Z))) * (starL BlkP (P.set q (some (B, Z))) * A))) w2 := by
      rw [starL_set hql]
      show St w0 (_ * (RowO 136 1 (.slice (some ⟨g, o, none⟩) P.length c) (P.set q (some (B, Z))).length ((P.set q (some (B, Z))).map ptrV) * _)) w2
      rw [hln, List.map_set]
      have h4 := h2.ent (Ent.sep (Ent.rfl' _) (Ent.sep (Ent.rfl' _) (Ent.sep (Ent.rfl' _) (Ent.sep (starL_nil hb') (Ent.rfl' A)))))
      exact h4.ac (by ac_rfl)
    refine put_t12 (v := v) (P := P.set q (some (B, Z))) (q := q) (ba := B) (bs := Z) hb2 (by rw [hZ]; exact List.length_replicate) hqo hd1 hd2 (by rw [hln]; exact hP) hlen h3 (by simp -dsimp -implicitDefEqProofs only [go_sem, hd]) (by simp -dsimp -implicitDefEqProofs only [go_sem, e0]) (by simp -dsimp -implicitDefEqProofs only [go_sem, e1]) (by simp -dsimp -implicitDefEqProofs only [go_sem, e2]) (by simp -dsimp -implicitDefEqProofs only [go_sem, e7]) fun w' h' => ?_
    rw [List.set_set] at h'
    exact hR w' B Z (.inr ⟨hb', hZ⟩) h'
def PutI (w0 : World) (A : HP) (n off q : Nat) (st : Int) (i : Inf) (vk v : Value) (P : BL) (m : Nat) (e : FA) (w' : World) : Prop :=
  e.ds = [] ∧ e.ρ 0 = .pointer (some ⟨n, 0, none⟩) ∧ e.ρ 1 = .int .u64 off ∧ e.ρ 2 = v ∧ e.ρ 7 = .int .i64 q ∧ ∃ k vb', k + P.length ≤ max P.length (q + 1) ∧ m = q + 1 - (P.length + k) ∧
      St w0 (NodeB n st i vk vb' * (RowB vb' (P ++ List.replicate k none) * (starL BlkP (P ++ List.replicate k none) * A))) w'
end
section
attribute [local go_sem] F36.t9_eq F36.t12_eq
theorem put_any (hi : i.mode < 4294967296) (hlen : i.length ≤ 65536) (ok : BlksOk P b) (hoff : off < 18446744073709551616) (hdl : d.length ≤ 4294967296) [hg : Gives A (RdB v d)] (h : St w0 (NodeB n st i vk vb * (BlksP vb P * A)) w) :
    Calls Tryz.prog 36 #[.pointer (some ⟨n, 0, none⟩), .int .u64 off, v] w (BytesR w0 A n st i vk vb P (bytesF off d ⟨i, b⟩)) := by
  refine F36.calls (by simp) ?_
  unfold F36.code
  have bd := bDir (P := Tryz.prog) (T := 33) hi
  cases hd : dirF i.mode
  case true =>
    have hr : bytesF off d ⟨i, b⟩ = .error 81 := by simp [bytesF, hd]
    rw [hr]
    simp only [hd, if_true] at bd
    simp -dsimp -implicitDefEqProofs (disch := omega) only [go_sem, h.cl n, bd]
    exact ⟨h, rfl⟩
  simp only [hd, if_false, Bool.false_eq_true] at bd
  obtain ⟨av, cv, rfl, hvc, hvx⟩ := (h.gives (B := RdB v d)).rd.form
  clear hvx
  by_cases c0 : (d.length : Int) = 0
  · have hr : bytesF off d ⟨i, b⟩ = .error 84 := by
      unfold bytesF
      rw [if_neg (by simp [hd]), if_pos (.inl (List.eq_nil_of_length_eq_zero (by omega)))]
    rw [hr]
    simp -dsimp -implicitDefEqProofs (disch := omega) only [go_sem, h.cl n, bd, c0]
    exact ⟨h, rfl⟩
  obtain ⟨p, hp⟩ : ∃ p, p = off % 256 := ⟨_, rfl⟩
  have hp1 : IntKind.i64.wrap ((off : Int).tmod 256) = p := by
    rw [Int.tmod_eq_emod_of_nonneg (by omega), wrap_i64 (by omega) (by omega)]
    omega
  by_cases c1 : (256 - p : Int) < (d.length : Int)
  · have hr : bytesF off d ⟨i, b⟩ = .error 84 := by
      unfold bytesF
      rw [if_neg (by simp [hd]), if_pos (.inr (by omega))]
    rw [hr]
    simp -dsimp -implicitDefEqProofs (disch := omega) only [go_sem, h.cl n, bd, c0, hp1, c1]
    exact ⟨h, rfl⟩
  have hdn : ¬ (d = [] ∨ 256 < off % 256 + d.length) := by
    rintro (h | h)
    · subst h; exact c0 rfl
    · omega
  by_cases c2 : (65536 - (d.length : Int)) < (off : Int)
  · have hr : bytesF off d ⟨i, b⟩ = .error 86 := by
      unfold bytesF
      rw [if_neg (by simp [hd]), if_neg hdn, if_pos (by omega)]
    rw [hr]
    simp -dsimp -implicitDefEqProofs (disch := omega) only [go_sem, h.cl n, bd, c0, hp1, c1, c2]
    exact ⟨h, rfl⟩
  have hr : bytesF off d ⟨i, b⟩ = .ok ⟨{ i with length := max i.length (off + d.length) }, layF b off d⟩ := by
    unfold bytesF
    rw [if_neg (by simp [hd]), if_neg hdn, if_neg (by omega)]
  rw [hr]
  simp -dsimp -implicitDefEqProofs (disch := omega) only [go_sem, h.cl n, bd, c0, hp1, c1, c2]
  rw [F36.t7_eq]
  obtain ⟨q, hq⟩ : ∃ q, q = off / 256 := ⟨_, rfl⟩
  have hq1 : IntKind.i64.wrap (IntKind.u64.wrap ((off : Int).tdiv 256)) = q := by
    rw [Int.tdiv_eq_ediv_of_nonneg (by omega), wrap_u64 (by omega) (by omega), wrap_i64 (by omega) (by omega)]
    omega
  have few := ok.few
  have h0 : St w0 (NodeB n st i vk vb * (RowB vb P * (starL BlkP P * A))) w := h.ac (by unfold BlksP; ac_rfl)
  simp -dsimp -implicitDefEqProofs (disch := omega) only [go_sem, hq1]
  refine loop_rank (PutI w0 A n off q st i vk (.slice av d.length cv) P) (q + 1 - P.length) ?_ ?_
  · exact ⟨by simp -dsimp -implicitDefEqProofs only [go_sem], by simp -dsimp -implicitDefEqProofs only [go_sem], by simp -dsimp -implicitDefEqProofs only [go_sem], by simp -dsimp -implicitDefEqProofs only [go_sem], by simp -dsimp -implicitDefEqProofs only [go_sem], 0, vb, by omega, by omega, by simpa using h0⟩
  clear h h0
  rintro e w ⟨hd, e0, e1, e2, e7, k, vb', hk, hm, h⟩
  obtain ⟨Q, hQ⟩ : ∃ Q, Q = P ++ List.replicate k (none : Option (Nat × List UInt8)) := ⟨_, rfl⟩
  rw [← hQ] at h
  have hlk : Q.length = P.length + k := by rw [hQ]; simp
  have hQfull : ∀ p, some p ∈ Q → p.2.length = 256 := fun p hp => by
    rw [hQ] at hp
    rcases List.mem_append.1 hp with h | h
    · exact ok.full p h
    · cases (List.mem_replicate.1 h).2
  obtain ⟨a, c, rfl, hl0, hnc, hcm⟩ := h.rowForm vb'
  by_cases hlt : (Q.length : Int) ≤ (q : Int)
  · simp -dsimp -implicitDefEqProofs (disch := omega) only [go_sem, hd, e0, e1, e2, e7, h.cl n, hlt]
    refine h.lit (t := 102) (n := 1) (cells := [.pointer none]) rowTy_blks rfl (by decide) (by decide) fun v2 w2 h2 => ?_
    obtain ⟨a2, c2, rfl, _⟩ := h2.rowForm v2
    simp -dsimp -implicitDefEqProofs (disch := omega) only [go_sem, hd, e0, e1, e2, e7, h2.cl n]
    refine h2.appR (v := .slice a Q.length c) (x := .slice a2 1 c2) rowTy_blks Tryz.underlying102 (fun u hu => by simp at hu; subst hu; rfl) (by simp) (show _ ≤ 9223372036854775807 by omega) (by omega) fun v3 w3 h3 => ?_
    obtain ⟨a3, c3, rfl, _⟩ := h3.rowForm v3
    simp -dsimp -implicitDefEqProofs (disch := omega) only [go_sem, hd, e0, e1, e2, e7, h3.cl n]
    refine h3.sto (b := n) (by simp) rfl fun w4 h4 => ?_
    simp only [List.setIfInBounds_toArray, List.set_cons_succ, List.set_cons_zero] at h4
    simp -dsimp -implicitDefEqProofs (disch := omega) only [go_sem]
    have hQ2 : Q ++ [none] = P ++ List.replicate (k + 1) none := by rw [hQ, List.append_assoc, List.replicate_succ']
    have h5 : St w0 (NodeB n st i vk (.slice a3 (Q.length + 1) c3) * (RowB (.slice a3 (Q.length + 1) c3) (Q ++ [none]) * (starL BlkP (Q ++ [none]) * A))) w4 := by
      have : starL BlkP (Q ++ [none]) = EmpH * starL BlkP Q := by rw [starL_split, List.append_nil]; rfl
      rw [this]
      show St w0 (_ * (RowO _ 1 _ (Q ++ [none]).length ((Q ++ [none]).map ptrV) * _)) w4
      rw [List.length_append, List.map_append]
      have h6 := h4.right.ent (Ent.embL _)
      exact h6.ac (by show EmpH * (NodeB n st i vk (.slice a3 (Q.length + 1) c3) * (RowO _ 1 _ (Q.length + 1) (Q.map ptrV ++ [.pointer none]) * (starL BlkP Q * A))) = _; simp only [List.length_cons, List.length_nil, List.map_cons, List.map_nil, ptrV, Nat.zero_add]; ac_rfl)
    rw [hQ2] at h5
    refine rank_down (m := q + 1 - (P.length + (k + 1))) ⟨by simp -dsimp -implicitDefEqProofs only [go_sem, hd], by simp -dsimp -implicitDefEqProofs only [go_sem, e0], by simp -dsimp -implicitDefEqProofs only [go_sem, e1], by simp -dsimp -implicitDefEqProofs only [go_sem, e2], by simp -dsimp -implicitDefEqProofs only [go_sem, e7], k + 1, _, by omega, rfl, h5⟩ ?_
    rw [hm]
    omega
  · simp -dsimp -implicitDefEqProofs (disch := omega) only [go_sem, hd, e0, e1, e2, e7, h.cl n, hlt]
    have hql : q < Q.length := by omega
    have hl2 : Q.length ≤ 256 := by omega
    refine put_t10 (v := .slice av d.length cv) (d := d) (P := Q) hql hq (by omega) (by omega) hl2 hQfull hlen h (by simp -dsimp -implicitDefEqProofs only [go_sem, hd]) (by simp -dsimp -implicitDefEqProofs only [go_sem, e0]) (by simp -dsimp -implicitDefEqProofs only [go_sem, e1]) (by simp -dsimp -implicitDefEqProofs only [go_sem, e2]) (by simp -dsimp -implicitDefEqProofs only [go_sem, e7]) fun w' ba bs hb h' => ?_
    refine ⟨_, _, ?_, h'.ac (by unfold BlksP; ac_rfl), rfl⟩
    rw [hQ, hq] at hb hql ⊢
    rw [hQ] at hl2
    have hk0 : P[off / 256]? = some (some (ba, bs)) ∨ (P ++ List.replicate k none)[off / 256]? = some none ∧ bs = List.replicate 256 0 := by
      rcases hb with hb | hb
      · left
        rcases Nat.lt_or_ge (off / 256) P.length with h1 | h1
        · rwa [List.getElem?_append_left h1] at hb
        · rw [List.getElem?_append_right h1, List.getElem?_replicate] at hb
          split at hb <;> cases hb
      · exact .inr hb
    exact ok.lay (by omega) (fun h => hdn (.inl h)) (by omega) hql hl2 hk0
end
end
theorem makeK_of {P : Program} {w0 w : World} {F : HP} {t e bs n : Nat} {z : Value} {k1 k2 : IntKind} {K : Value → World → Prop} {θ : Tag K} (h : St w0 F w) (ht : rowTy P t = some (e, 1, bs, [z])) (hc : n ≤ 16777216) (hb : bs * n ≤ 281474976710656)
    (hK : ∀ b w', St w0 (RowO e 1 (.slice (some ⟨b, 0, none⟩) n n) n (List.replicate n z) * F) w' → K (.slice (some ⟨b, 0, none⟩) n n) w') : semD P (kMakeSlice t (.int k1 n) (.int k2 n)) w K θ := by
  show semD P (Instr.makeSlice t (.int k1 n) (.int k2 n)) w K θ
  obtain ⟨hu, i, zv, hi, hz, hsz, hbs, hzs, hzc⟩ := rowTy_some ht
  have hb2 : (bs : Int) * n ≤ 281474976710656 := by
    have : ((bs * n : Nat) : Int) ≤ 281474976710656 := by omega
    rwa [Int.natCast_mul] at this
  have hr := run_makeSlice (P := P) (w := w) t e i zv hu hi hz k1 k2 n n (by omega) (by omega) (by rw [hsz]; simp; omega) (by rw [hbs]; exact hb2) (by omega)
  simp only [Int.toNat_natCast, hsz, Nat.mul_one] at hr
  have hcells : madeCells zv.cells n = (List.replicate n z).toArray := by
    have hz1 : zv.cells = #[z] := Array.ext' (by rw [hzc])
    rw [hz1]
    apply Array.ext'
    simp only [madeCells]
    apply List.ext_getElem
    · simp
    · intro j h1 h2
      simp [Nat.mod_one]
  rw [hcells] at hr
  refine ⟨_, _, hr, hK _ _ ((h.alloc _).ent (Ent.sep (Ent.of fun k hk => .inr ⟨w.heap.size, 0, n, (List.replicate n z).toArray, rfl, hk, Nat.le_refl n, by simp only [maxLen]; omega, by simp, ?_, by simp⟩) (Ent.rfl' F)))⟩
  simp only [List.drop_zero, Nat.mul_one, List.take_replicate, Nat.min_self]
abbrev RowBy (v : Value) (l : List UInt8) : HP := RowO 5 1 v l.length (l.map bv)
def soFar (T : List UInt8) (got : Nat) : List UInt8 := T.take got ++ List.replicate (T.length - got) 0
theorem soFar_len {T : List UInt8} {got : Nat} (h : got ≤ T.length) : (soFar T got).length = T.length := by simp [soFar]; omega
theorem soFar_all {T : List UInt8} : soFar T T.length = T := by simp [soFar]
theorem soFar_get {T : List UInt8} {got j : Nat} (h : got ≤ T.length) (hj : j < T.length) : (soFar T got)[j]? = some (if j < got then T.getD j 0 else 0) := by
  unfold soFar
  rcases Nat.lt_or_ge j got with h1 | h1
  · rw [List.getElem?_append_left (by simp; omega), List.getElem?_take_of_lt h1, if_pos h1, List.getElem?_eq_getElem hj, List.getD_eq_getElem?_getD, List.getElem?_eq_getElem hj]; rfl
  · rw [List.getElem?_append_right (by simp; omega), List.getElem?_replicate, if_pos (by simp; omega), if_neg (by omega)]
theorem soFar_step {T ys : List UInt8} {got step : Nat} (h : got + step ≤ T.length) (hy : ∀ j, j < step → ys.getD j 0 = T.getD (got + j) 0) (hyl : step ≤ ys.length) :
    setRowL ((soFar T got).map bv) got ((ys.map bv).take step) = (soFar T (got + step)).map bv := by
  have hl1 := soFar_len (T := T) (got := got) (by omega)
  have hl2 := soFar_len (T := T) (got := got + step) h
  have hlt : ((ys.map bv).take step).length = step := by simp; omega
  apply List.ext_getElem?
  intro j
  rcases Nat.lt_or_ge j T.length with hj | hj
  · rw [List.getElem?_map, soFar_get h hj]
    rcases Nat.lt_or_ge j got with h1 | h1
    · rw [getElem?_setRowL_lt _ _ _ _ h1, List.getElem?_map, soFar_get (by omega) hj, if_pos h1, if_pos (by omega)]
    · rcases Nat.lt_or_ge j (got + step) with h2 | h2
      · have := getElem?_setRowL_in ((ys.map bv).take step) ((soFar T got).map bv) got (j - got) (by omega) (by rw [hlt, List.length_map, hl1]; exact h)
        rw [show got + (j - got) = j by omega] at this
        rw [this, List.getElem?_take_of_lt (by omega), List.getElem?_map, if_pos h2]
        have hyj := hy (j - got) (by omega)
        rw [show got + (j - got) = j by omega] at hyj
        rw [← hyj, List.getD_eq_getElem?_getD, List.getElem?_eq_getElem (by omega)]
        rfl
      · rw [getElem?_setRowL_ge _ _ _ _ (by rw [hlt]; omega), List.getElem?_map, soFar_get (by omega) hj, if_neg (by omega), if_neg (by omega)]
  · rw [List.getElem?_eq_none (by rw [length_setRowL, List.length_map, hl1]; exact hj), List.getElem?_eq_none (by rw [List.length_map, hl2]; exact hj)]
theorem soFar_skip {T : List UInt8} {got step : Nat} (h : got + step ≤ T.length) (hz : ∀ j, j < step → T.getD (got + j) 0 = 0) : soFar T got = soFar T (got + step) := by
  have hl1 := soFar_len (T := T) (got := got) (by omega)
  have hl2 := soFar_len (T := T) (got := got + step) h
  apply List.ext_getElem?
  intro j
  rcases Nat.lt_or_ge j T.length with hj | hj
  · rw [soFar_get (by omega) hj, soFar_get h hj]
    rcases Nat.lt_or_ge j got with h1 | h1
    · rw [if_pos h1, if_pos (by omega)]
    · rcases Nat.lt_or_ge j (got + step) with h2 | h2
      · have := hz (j - got) (by omega)
        rw [show got + (j - got) = j by omega] at this
        rw [if_neg (by omega), if_pos h2, this]
      · rw [if_neg (by omega), if_neg (by omega)]
  · rw [List.getElem?_eq_none (by omega), List.getElem?_eq_none (by omega)]
section
variable {w0 w : World} {A : HP} {n off : Nat} {k st : Int} {i : Inf} {vk vb v : Value} {P : BL} {b : List UInt8} {e : FA} {R : Ending → World → Prop}
section
attribute [local go_sem] F60.t11_eq F60.t6_eq F60.t12_eq F60.t3_eq
theorem read_any (hlen : i.length = b.length) (few : b.length ≤ 65536) (ok : BlksOk P b) (hoff : off < 18446744073709551616) (hk : -9223372036854775808 ≤ k ∧ k ≤ 9223372036854775807) (h : St w0 (NodeB n st i vk vb * (BlksP vb P * A)) w) :
    Calls Tryz.prog 60 #[.pointer (some ⟨n, 0, none⟩), .int .u64 off, .int .i64 k] w fun e w' => ∃ v', St w0 (RowBy v' (readF ⟨i, b⟩ off k) * (NodeB n st i vk vb * (BlksP vb P * A))) w' ∧ e = .returned v' := by
  refine F60.calls (by simp) ?_
  unfold F60.code
  by_cases h0 : k ≤ 0
  · have hr : readF ⟨i, b⟩ off k = [] := by simp [readF, h0]
    rw [hr]
    simp -dsimp -implicitDefEqProofs (disch := omega) only [go_sem, h0]
    exact ⟨_, h.nilR _ _, rfl⟩
  by_cases h1 : (i.length : Int) ≤ (off : Int)
  · have hr : readF ⟨i, b⟩ off k = [] := by
      unfold readF
      rw [if_neg h0, List.drop_of_length_le (by simp; omega), List.take_nil]
    rw [hr]
    simp -dsimp -implicitDefEqProofs (disch := omega) only [go_sem, h0, h.cl n, h1]
    exact ⟨_, h.nilR _ _, rfl⟩
  simp -dsimp -implicitDefEqProofs (disch := omega) only [go_sem, h0, h.cl n, h1]
  obtain ⟨T, hT⟩ : ∃ T, T = readF ⟨i, b⟩ off k := ⟨_, rfl⟩
  have hTe : T = (b.drop off).take k.toNat := by rw [hT]; unfold readF; rw [if_neg h0]
  have hTg : ∀ j, j < T.length → T.getD j 0 = b.getD (off + j) 0 := fun j hj => by
    rw [hTe] at hj ⊢
    simp only [List.length_take, List.length_drop] at hj
    simp only [List.getD_eq_getElem?_getD]
    rw [List.getElem?_take_of_lt (by omega), List.getElem?_drop]
  have hTl : T.length = min k.toNat (b.length - off) := by rw [hTe, List.length_take, List.length_drop]
  obtain ⟨N, hNl⟩ : ∃ N, N = T.length := ⟨_, rfl⟩
  have hN : (if (i.length : Int) - off < k then (i.length : Int) - off else k) = (N : Int) := by split <;> omega
  rw [hN, ← hT]
  refine makeK_of h (n := N) rowTy_bytes (by omega) (by omega) fun g w1 h1 => ?_
  simp -dsimp -implicitDefEqProofs (disch := omega) only [go_sem]
  refine loop_intro (fun e w' => e.ds = [] ∧ e.ρ 0 = .pointer (some ⟨n, 0, none⟩) ∧ e.ρ 1 = .int .u64 off ∧ e.ρ 7 = .slice (some ⟨g, 0, none⟩) N N ∧ ∃ got : Nat, got ≤ N ∧ e.ρ 8 = .int .i64 got ∧
      St w0 (RowO 5 1 (.slice (some ⟨g, 0, none⟩) N N) N ((soFar T got).map bv) * (NodeB n st i vk vb * (BlksP vb P * A))) w')
    (fun e _ => match e.ρ 8 with | .int _ x => (N - x).toNat | _ => 0) ?_ ?_
  · refine ⟨by simp -dsimp -implicitDefEqProofs only [go_sem], by simp -dsimp -implicitDefEqProofs only [go_sem], by simp -dsimp -implicitDefEqProofs only [go_sem], by simp -dsimp -implicitDefEqProofs only [go_sem], 0, by omega, by simp -dsimp -implicitDefEqProofs only [go_sem], ?_⟩
    have : (soFar T 0).map bv = List.replicate N (.int .u8 0) := by
      unfold soFar
      rw [List.take_zero, List.nil_append, Nat.sub_zero, List.map_replicate, ← hNl]; rfl
    rw [this]
    exact h1
  clear h1 h
  rintro e w ⟨hd, e0, e1, e7, got, hgot, e8, h⟩
  by_cases hlt : (got : Int) < (N : Int)
  case neg =>
    have : got = N := by omega
    subst this
    simp -dsimp -implicitDefEqProofs (disch := omega) only [go_sem, hd, e0, e1, e7, e8, hlt]
    refine ⟨_, ?_, rfl⟩
    rw [hNl, soFar_all] at h
    show St w0 (RowO _ 1 _ T.length (T.map bv) * _) w
    rw [hNl]
    exact h
  obtain ⟨q, hq⟩ : ∃ q, q = (off + got) / 256 := ⟨_, rfl⟩
  obtain ⟨p, hp⟩ : ∃ p, p = (off + got) % 256 := ⟨_, rfl⟩
  have hq1 : IntKind.i64.wrap (IntKind.u64.wrap (((off : Int) + got).tdiv 256)) = q := by
    rw [Int.tdiv_eq_ediv_of_nonneg (by omega), wrap_u64 (by omega) (by omega), wrap_i64 (by omega) (by omega)]
    omega
  have hp1 : IntKind.i64.wrap (((off : Int) + got).tmod 256) = p := by
    rw [Int.tmod_eq_emod_of_nonneg (by omega), wrap_i64 (by omega) (by omega)]
    omega
  obtain ⟨sp, hsp⟩ : ∃ sp, sp = min (N - got) (256 - p) := ⟨_, rfl⟩
  have hs1 : (if (256 : Int) - p < (N : Int) - got then (256 : Int) - p else (N : Int) - got) = sp := by split <;> omega
  have hsl : got + sp ≤ T.length := by omega
  have hs0 : 0 < sp := by omega
  have hat : ∀ j, j < sp → byteAt P (off + got + j) = T.getD (got + j) 0 := fun j hj => by
    rw [ok.at_ _ (by omega), hTg _ (by omega), Nat.add_assoc]
  have h0 : St w0 (RowO 5 1 (.slice (some ⟨g, 0, none⟩) N N) N ((soFar T got).map bv) * (NodeB n st i vk vb * (RowB vb P * (starL BlkP P * A)))) w := h.ac (by unfold BlksP; ac_rfl)
  obtain ⟨a, c, rfl, hl0, hnc, hcm⟩ := h0.rowForm vb
  by_cases c1 : (q : Int) < (P.length : Int)
  case neg =>
    have hz : ∀ j, j < sp → T.getD (got + j) 0 = 0 := fun j hj => by rw [← hat j hj, byteAt_none (by omega)]
    simp -dsimp -implicitDefEqProofs (disch := omega) only [go_sem, hd, e0, e1, e7, e8, hlt, hq1, hp1, hs1, h0.cl n, c1]
    refine ⟨⟨got + sp, by omega, by omega, ?_⟩, by omega⟩
    rw [← soFar_skip hsl hz]
    exact h
  have hql : q < P.length := by omega
  obtain ⟨f, o, rfl, hc⟩ := h0.atS (a := a) (n := P.length) (c := c) (xs := P.map ptrV) (k := q) (by simpa using hql)
  rw [List.getElem_map] at hc
  cases hb : P[q] with
  | none =>
    rw [hb] at hc
    simp only [ptrV] at hc
    have hb' : P[q]? = some none := by rw [List.getElem?_eq_getElem hql, hb]
    have hz : ∀ j, j < sp → T.getD (got + j) 0 = 0 := fun j hj => by rw [← hat j hj, byteAt_nil hb' (by omega)]
    simp -dsimp -implicitDefEqProofs (disch := omega) only [go_sem, hd, e0, e1, e7, e8, hlt, hq1, hp1, hs1, h0.cl n, c1, hc]
    refine ⟨⟨got + sp, by omega, by omega, ?_⟩, by omega⟩
    rw [← soFar_skip hsl hz]
    exact h
  | some pb =>
    obtain ⟨ba, bs⟩ := pb
    rw [hb] at hc
    simp only [ptrV] at hc
    have hb' : P[q]? = some (some (ba, bs)) := by rw [List.getElem?_eq_getElem hql, hb]
    have hbl : bs.length = 256 := ok.full (ba, bs) (List.mem_of_getElem? hb')
    have hd1 := h0.drew.cl n
    have hcd : w.drew.cell? ⟨f, o + q, none⟩ = some (.pointer (some ⟨ba, 0, none⟩)) := hc
    simp -dsimp -implicitDefEqProofs (disch := omega) only [go_sem, hd, e0, e1, e7, e8, hlt, hq1, hp1, hs1, h0.cl n, c1, hc, hd1, hcd]
    have hN1 : ¬ N = got := by omega
    have hz : ((got : Int) + sp).toNat - got = sp := by omega
    have hg0 : (some (⟨g, got, none⟩ : Addr)) = some ⟨g, 0 + got, none⟩ := by rw [Nat.zero_add]
    rw [if_neg (show ¬ 256 = p by omega), if_neg hN1, hz, hg0]
    have h1 : St w0 (RowO 5 1 (.slice (some ⟨g, 0, none⟩) N N) N ((soFar T got).map bv) * (NodeB n st i vk (.slice (some ⟨f, o, none⟩) P.length c) * (RowB (.slice (some ⟨f, o, none⟩) P.length c) P * (Blk ba (.cells (bs.map bv).toArray 137 (0, 0)) * (starL BlkP (P.take q ++ P.drop (q + 1)) * A))))) w.drew := by
      have h1 := h0.drew
      rw [starL_at hb'] at h1
      exact h1.ac (by ac_rfl)
    have hrd : Rd 1 (.slice (some ⟨ba, p, none⟩) (256 - p) (256 - p)) (256 - p) ((bs.drop p).map bv) w.drew := by
      refine ⟨by simp; omega, _, _, rfl, Nat.le_refl _, .inr ⟨ba, p, rfl, fun j hj => ?_⟩⟩
      rw [h1.cl ba, List.getElem?_toArray, List.map_drop, List.getElem?_drop]
    have hys : ∀ j, j < sp → (bs.drop p).getD j 0 = T.getD (got + j) 0 := fun j hj => by
      rw [← hat j hj, byteAt_some hb' (by omega), List.getD_eq_getElem?_getD, List.getElem?_drop, List.getD_eq_getElem?_getD]
      congr 2
      omega
    refine h1.copyRow (g := g) (o := 0) (k := got) (n := N) (c := N) (dl := sp) (m := 256 - p) (ys := (bs.drop p).map bv) Tryz.underlying43 (by kernel_rfl) hrd (bv_isCell _) (by omega) fun w2 h2 => ?_
    rw [soFar_step hsl hys (by simp; omega)] at h2
    have hd2 := h2.cl n
    have hcd2 : w2.cell? ⟨f, o + q, none⟩ = some (.pointer (some ⟨ba, 0, none⟩)) := by
      obtain ⟨f', o', e1, h3⟩ := h2.atS (a := some ⟨f, o, none⟩) (n := P.length) (c := c) (xs := P.map ptrV) (k := q) (by simpa using hql)
      cases e1
      rw [h3, List.getElem_map, hb]; rfl
    simp -dsimp -implicitDefEqProofs (disch := omega) only [go_sem, hd, e0, e1, e7, e8, hlt, hq1, hp1, hs1, hd2, hcd2]
    refine ⟨⟨got + sp, by omega, by omega, ?_⟩, by omega⟩
    unfold BlksP
    rw [starL_at hb']
    exact h2.ac (by ac_rfl)
end
end
theorem find_map_congr {α β γ : Type} {f : α → β} {p : β → Bool} {p' : α → Bool} {g : β → γ} {g' : α → γ} : ∀ {L : List α}, (∀ x ∈ L, p (f x) = p' x ∧ g (f x) = g' x) → ((L.map f).find? p).map g = (L.find? p').map g'
  | [], _ => rfl
  | x :: L, h => by
    obtain ⟨h1, h2⟩ := h x List.mem_cons_self
    simp only [List.map_cons, List.find?, h1]
    cases p' x
    · exact find_map_congr fun y hy => h y (List.mem_cons_of_mem _ hy)
    · simp only [Option.map_some, h2]
section
variable {s : SD} {d d' : NodeD} {p : Nat}
theorem upd_at (hr : s.L.Pairwise fun a b => a.i.path < b.i.path) (hd : d ∈ s.L) (hp : d.i.path = p) {x : NodeD} (hx : x ∈ s.L) : (x = d ∧ (if x.i.path = p then d' else x) = d') ∨ (if x.i.path = p then d' else x) = x := by
  by_cases e : x.i.path = p
  · rw [if_pos e]; exact .inl ⟨rise_inj hr hx hd (by rw [e, hp]), rfl⟩
  · rw [if_neg e]; exact .inr rfl
theorem kids_upd (hr : s.L.Pairwise fun a b => a.i.path < b.i.path) (hd : d ∈ s.L) (hp : d.i.path = p) (k : Keeps d d') (q : Nat) : kidsF (updN s.L p fun _ => d') q = kidsF s.L q := by
  have key : ∀ x ∈ s.L, isKid q (if x.i.path = p then d' else x) = isKid q x ∧ (if x.i.path = p then d' else x).i.path = x.i.path := fun x hx => by
    rcases upd_at (d' := d') hr hd hp hx with ⟨rfl, e⟩ | e
    · rw [e]; exact ⟨by unfold isKid; rw [k.path, k.parent], k.path⟩
    · rw [e]; exact ⟨rfl, rfl⟩
  unfold kidsF updN
  rw [List.filter_map, List.map_map]
  have h1 : s.L.filter ((isKid q) ∘ fun n => if n.i.path = p then d' else n) = s.L.filter (isKid q) := List.filter_congr fun x hx => (key x hx).1
  rw [h1]
  exact List.map_congr_left fun x hx => (key x (List.mem_filter.1 hx).1).2
theorem child_upd (hr : s.L.Pairwise fun a b => a.i.path < b.i.path) (hd : d ∈ s.L) (hp : d.i.path = p) (k : Keeps d d') (hn : d'.i.name = d.i.name) (q : Nat) (nm : List UInt8) : childF (updN s.L p fun _ => d') q nm = childF s.L q nm := by
  unfold childF updN
  refine find_map_congr fun x hx => ?_
  rcases upd_at (d' := d') hr hd hp hx with ⟨rfl, e⟩ | e
  · rw [e]; exact ⟨by unfold isKid; rw [k.path, k.parent, hn], k.path⟩
  · rw [e]; exact ⟨rfl, rfl⟩
end
theorem upd_parts {s : SD} {y : SX} (ok : StoreOk s y) {X1 X2 : List NN} {x x' : NN} {p : Nat} (hs : y.X = X1 ++ x :: X2) (hp : x.d.i.path = p) (k : Keeps x.d x'.d) (hks : x'.ks = x.ks) (hb : BlksOk x'.P x'.d.b) :
    ((X1 ++ x' :: X2).map (·.d)).Perm (updN s.L p fun _ => x'.d) ∧ (∀ z ∈ X1 ++ x' :: X2, z.ks = kidsF (updN s.L p fun _ => x'.d) z.d.i.path) ∧ (∀ z ∈ X1 ++ x' :: X2, BlksOk z.P z.d.b) := by
  have hx : x ∈ y.X := by rw [hs]; simp
  have hd : x.d ∈ s.L := ok.perm.mem_iff.1 (List.mem_map.2 ⟨x, hx, rfl⟩)
  have hnd := ok.paths
  rw [hs, List.map_append, List.map_cons, List.nodup_append] at hnd
  obtain ⟨_, h2, h3⟩ := hnd
  rw [List.nodup_cons] at h2
  have hx1 : ∀ z ∈ X1, z.d.i.path ≠ p := fun z hz e => h3 _ (List.mem_map.2 ⟨z, hz, rfl⟩) _ List.mem_cons_self (by rw [e, hp])
  have hx2 : ∀ z ∈ X2, z.d.i.path ≠ p := fun z hz e => h2.1 (List.mem_map.2 ⟨z, hz, by rw [e, hp]⟩)
  have hpar : ∀ z ∈ X1 ++ x' :: X2, z = x' ∨ (z ∈ y.X) := fun z hz => by
    rw [hs]
    rcases List.mem_append.1 hz with h | h
    · exact .inr (by simp [h])
    · rcases List.mem_cons.1 h with h | h
      · exact .inl h
      · exact .inr (by simp [h])
  refine ⟨?_, fun z hz => ?_, fun z hz => ?_⟩
  · have h4 := ok.perm.map (fun n => if n.i.path = p then x'.d else n)
    have h5 : (y.X.map (·.d)).map (fun n => if n.i.path = p then x'.d else n) = (X1 ++ x' :: X2).map (·.d) := by
      rw [hs]
      simp only [List.map_append, List.map_cons, List.map_map]
      rw [if_pos hp]
      congr 1
      · exact List.map_congr_left fun z hz => by simp only [Function.comp]; rw [if_neg (hx1 z hz)]
      · congr 1
        exact List.map_congr_left fun z hz => by simp only [Function.comp]; rw [if_neg (hx2 z hz)]
    rw [h5] at h4
    exact h4
  · show z.ks = kidsF (updN s.L p fun _ => x'.d) z.d.i.path
    rw [kids_upd ok.wf.rise hd hp k]
    rcases hpar z hz with rfl | h
    · rw [hks, ok.kids x hx, k.path]
    · exact ok.kids z h
  · rcases hpar z hz with rfl | h
    · exact hb
    · exact ok.bytes z h
theorem StoreOk.upd {s : SD} {y : SX} (ok : StoreOk s y) {X1 X2 : List NN} {x x' : NN} {p : Nat} (hs : y.X = X1 ++ x :: X2) (hp : x.d.i.path = p) (k : Keeps x.d x'.d) (hn : x'.d.i.name = x.d.i.name) (hks : x'.ks = x.ks) (hb : BlksOk x'.P x'.d.b)
    (hw : Wf { s with L := updN s.L p fun _ => x'.d }) : StoreOk { s with L := updN s.L p fun _ => x'.d } { y with X := X1 ++ x' :: X2 } := by
  obtain ⟨h1, h2, h3⟩ := upd_parts ok hs hp k hks hb
  have hd : x.d ∈ s.L := ok.perm.mem_iff.1 (List.mem_map.2 ⟨x, by rw [hs]; simp, rfl⟩)
  refine ⟨hw, h1, h2, h3, fun dir nm => ?_⟩
  show lk (dir, nm) y.cl = (childF (updN s.L p fun _ => x'.d) dir nm).map u64V
  rw [child_upd ok.wf.rise hd hp k hn]
  exact ok.child dir nm
def readS (s : SD) (p off : Nat) (k : Int) : List UInt8 := match findN s.L p with
  | some n => readF n off k
  | none => []
section
attribute [local go_sem] F24.t6_eq
theorem sread_any {w0 w : World} {A : HP} {b : Nat} {s : SD} (h : St w0 (StoreP b 0 0 s * A) w) {p off : Nat} {k : Int} (hoff : off < 18446744073709551616) (hk : -9223372036854775808 ≤ k ∧ k ≤ 9223372036854775807) :
    Calls Tryz.prog 24 #[.pointer (some ⟨b, 0, none⟩), .int .u64 p, .int .u64 off, .int .i64 k] w fun e w' => ∃ v', St w0 (RowBy v' (readS s p off k) * (StoreP b 0 0 s * A)) w' ∧ e = .returned v' := by
  obtain ⟨y, ok, h⟩ := h.storeO
  refine calls_of_cwM (types := Tryz.prog.types) follows Tryz.func24 F24.code rfl (by kernel_rfl) (by show 4 ≤ 36; decide) ?_
  show cwE _ _ (fnM _ #[.tmp 8] _) _ _
  unfold F24.code
  simp -dsimp -implicitDefEqProofs (disch := omega) only [go_sem]
  refine (rlockS h).mono ?_
  rintro e w1 ⟨h1, rfl⟩
  simp -dsimp -implicitDefEqProofs (disch := omega) only [go_sem]
  refine deferF_of ?_
  simp -dsimp -implicitDefEqProofs (disch := omega) only [go_sem, h1.cl b]
  refine h1.lkH (b := y.N) (x := (p : Int)) Tryz.underlying96 lawU zero_ptr ?_
  cases hf : findN s.L p with
  | none =>
    rw [ok.none hf]
    have ha : readS s p off k = [] := by unfold readS; rw [hf]
    rw [ha]
    simp -dsimp -implicitDefEqProofs (disch := omega) only [go_sem, lkV]
    refine runlockS h1 fun w2 h2 => ?_
    refine endT1 ⟨.slice none 0 0, (h2.ent (Ent.sep (StoreP.shut ok) (Ent.rfl' A))).nilR _ _, ?_⟩
    simp -dsimp -implicitDefEqProofs only [go_sem]
  | some d =>
    obtain ⟨X1, x, X2, hs, rfl, hx, hl⟩ := ok.some hf
    have hd := ok.perm.mem_iff.1 (List.mem_map.2 ⟨x, hx, rfl⟩)
    have nok := ok.wf.ok _ hd
    have ha : readS s p off k = readF x.d off k := by unfold readS; rw [hf]
    rw [hl, ha]
    have h2 := h1.ac (StoreQ.eq hs)
    simp -dsimp -implicitDefEqProofs (disch := omega) only [go_sem, lkV]
    refine (lockH (b := x.n) h2 rfl).mono ?_
    rintro e w3 ⟨h3, rfl⟩
    have h3 : St w0 (NodeB x.n 1 x.d.i x.vk x.vb * (BlksP x.vb x.P * (RowU x.vk x.ks * (StoreR b 0 1 s y (y.X.map kv) (X1 ++ X2) * A)))) w3 := St.ac (A := NodeB x.n 1 x.d.i x.vk x.vb * (RowU x.vk x.ks * (BlksP x.vb x.P * (StoreR b 0 1 s y (y.X.map kv) (X1 ++ X2) * A)))) h3 (by ac_rfl)
    simp -dsimp -implicitDefEqProofs (disch := omega) only [go_sem]
    refine deferF_of ?_
    simp -dsimp -implicitDefEqProofs (disch := omega) only [go_sem]
    refine (read_any nok.len nok.few (ok.bytes x hx) hoff hk h3).mono ?_
    rintro e w4 ⟨v', h4, rfl⟩
    simp -dsimp -implicitDefEqProofs (disch := omega) only [go_sem]
    refine unlockL (b := x.n) h4 rfl fun w5 h5 => ?_
    have h5 : St w0 (RowBy v' (readF x.d off k) * (NodeB x.n 0 x.d.i x.vk x.vb * (BlksP x.vb x.P * (RowU x.vk x.ks * (StoreR b 0 1 s y (y.X.map kv) (X1 ++ X2) * A))))) w5 := h5
    have h6 : St w0 (StoreQ b 0 1 s y * (RowBy v' (readF x.d off k) * A)) w5 := h5.ac (by rw [StoreQ.eq hs]; ac_rfl)
    refine runlockS h6 fun w7 h7 => ?_
    refine endT1 ⟨v', (h7.ent (Ent.sep (StoreP.shut ok) (Ent.rfl' _))).ac (by ac_rfl), ?_⟩
    simp -dsimp -implicitDefEqProofs only [go_sem]
end
abbrev opL (o : OpD) (vd : Value) : List Value := [.int .u8 o.kind, .int .u64 o.path, .string (strOf o.name), .int .u8 o.mask, .int .u64 o.node.path, .int .u64 o.node.parent, .string (strOf o.node.name), .int .u32 o.node.mode, .string (strOf o.node.uid), .string (strOf o.node.gid), .string (strOf o.node.muid), .int .u32 o.node.atime, .int .u32 o.node.mtime, .int .u32 o.node.vers, .int .u64 o.node.length, .int .i64 o.node.opens, .int .i64 o.node.kids, .int .u64 o.offset, vd, .int .i64 o.n]
abbrev opB (B : Nat) (o : OpD) (vd : Value) : HP := Blk B (.cells (opL o vd).toArray 45 (0, 0))
structure OpIn (o : OpD) : Prop where
  ok : OpOk o
  mask : o.mask < 256
  offset : o.offset < 18446744073709551616
  n0 : -9223372036854775808 ≤ o.n
  n1 : o.n ≤ 9223372036854775807
  data : o.data.length ≤ 4294967296
  name : o.name.length ≤ 4294967296
  nname : o.node.name.length ≤ 4294967296
  uid : o.node.uid.length ≤ 4294967296
  gid : o.node.gid.length ≤ 4294967296
  muid : o.node.muid.length ≤ 4294967296
section
variable {w0 w : World} {A : HP} {b B : Nat} {s : SD} {y : SX} {X1 X2 : List NN} {x : NN} {o : OpD} {vd : Value} {e : FA} {R : Ending → World → Prop}
theorem StoreQ.upd {st rc : Int} {n' : NodeD} {vb' : Value} {P' : BL} (hs : y.X = X1 ++ x :: X2) (hp : x.d.i.path = o.path) (k : Keeps x.d n') :
    NodeB x.n 0 n'.i x.vk vb' * (RowU x.vk x.ks * (BlksP vb' P' * (StoreR b st rc s y (y.X.map kv) (X1 ++ X2) * A))) =
      StoreQ b st rc { s with L := updN s.L o.path fun _ => n' } { y with X := X1 ++ { x with d := n', vb := vb', P := P' } :: X2 } * A := by
  rw [StoreQ.eq (y := { y with X := X1 ++ { x with d := n', vb := vb', P := P' } :: X2 }) (X1 := X1) (X2 := X2) (x := { x with d := n', vb := vb', P := P' }) rfl]
  have h1 : y.X.map kv = (X1 ++ { x with d := n', vb := vb', P := P' } :: X2).map kv := by
    rw [hs]
    simp only [List.map_append, List.map_cons, kv, k.path]
  have h2 : (updN s.L o.path fun _ => n').map (·.i.path) = s.L.map (·.i.path) := upd_paths (by rw [k.path, hp])
  simp only [StoreR, ← h1, h2]
section
attribute [local go_sem] F10.t2_eq F10.t6_eq F10.t30_eq F10.t16_eq F10.t11_eq
theorem do_t28 (ok : StoreOk s y) (hs : y.X = X1 ++ x :: X2) (hf : findN s.L o.path = some x.d) {r : Except Nat NodeD} {vb' : Value} {P' : BL}
    (hm : match r with
      | .error k => St w0 (NodeB x.n 1 x.d.i x.vk x.vb * (BlksP x.vb x.P * (RowU x.vk x.ks * (StoreR b 0 1 s y (y.X.map kv) (X1 ++ X2) * (opB B o vd * A))))) w ∧ e.ρ 7 = .int .i64 k
      | .ok n' => St w0 (NodeB x.n 1 n'.i x.vk vb' * (BlksP vb' P' * (RowU x.vk x.ks * (StoreR b 0 1 s y (y.X.map kv) (X1 ++ X2) * (opB B o vd * A))))) w ∧ e.ρ 7 = .int .i64 0)
    (hr0 : ∀ k, r = .error k → 1 ≤ k ∧ k < 1000) (hk : ∀ n', r = .ok n' → Keeps x.d n' ∧ n'.i.name = x.d.i.name ∧ BlksOk P' n'.b ∧ Wf { s with L := updN s.L o.path fun _ => n' })
    (hd : e.ds = [{ target := .fn (.func 33) #[], args := #[.pointer (some ⟨x.n, 0, none⟩)] }, { target := .fn (.func 31) #[], args := #[.pointer (some ⟨b, 0, none⟩)] }])
    (e3 : e.ρ 3 = .pointer (some ⟨B, 0, none⟩))
    (hR : ∀ w', St w0 (StoreP b 0 0 (oneF s o.path r).1 * A) w' → R (.returned (.tuple #[.int .u64 (oneF s o.path r).2.1, .int .i64 (oneF s o.path r).2.2])) w') :
    cwE Tryz.prog F10.t28 (fnM Tryz.prog #[.tmp 4, .tmp 5] R) e w := by
  unfold F10.t28
  cases r with
  | error k =>
    obtain ⟨h, e7⟩ := hm
    obtain ⟨k1, k2⟩ := hr0 k rfl
    have hz : ¬ (k : Int) = 0 := by omega
    simp -dsimp -implicitDefEqProofs (disch := omega) only [go_sem, hd, e3, e7, hz]
    refine unlockL (b := x.n) h rfl fun w5 h5 => ?_
    have h5 : St w0 (NodeB x.n 0 x.d.i x.vk x.vb * (BlksP x.vb x.P * (RowU x.vk x.ks * (StoreR b 0 1 s y (y.X.map kv) (X1 ++ X2) * (opB B o vd * A))))) w5 := h5
    have h6 : St w0 (StoreQ b 0 1 s y * (opB B o vd * A)) w5 := h5.ac (by rw [StoreQ.eq hs]; ac_rfl)
    refine runlockS h6 fun w7 h7 => ?_
    refine endT2 ?_
    have := hR w7 (h7.drop2.ent (Ent.sep (StoreP.shut ok) (Ent.rfl' A)))
    simp -dsimp -implicitDefEqProofs only [go_sem]
    exact this
  | ok n' =>
    obtain ⟨h, e7⟩ := hm
    obtain ⟨k1, k2, k3, k4⟩ := hk n' rfl
    have hp := (find_some hf).2
    simp -dsimp -implicitDefEqProofs (disch := omega) only [go_sem, hd, e3, e7, h.cl B]
    refine unlockL (b := x.n) h rfl fun w5 h5 => ?_
    have h5 : St w0 (NodeB x.n 0 n'.i x.vk vb' * (BlksP vb' P' * (RowU x.vk x.ks * (StoreR b 0 1 s y (y.X.map kv) (X1 ++ X2) * (opB B o vd * A))))) w5 := h5
    have ok' := ok.upd (x' := { x with d := n', vb := vb', P := P' }) hs hp k1 k2 rfl k3 k4
    have h6 : St w0 (StoreQ b 0 1 { s with L := updN s.L o.path fun _ => n' } { y with X := X1 ++ { x with d := n', vb := vb', P := P' } :: X2 } * (opB B o vd * A)) w5 := by
      rw [← StoreQ.upd hs hp k1]
      exact h5.ac (by ac_rfl)
    refine runlockS h6 fun w7 h7 => ?_
    refine endT2 ?_
    have := hR w7 (h7.drop2.ent (Ent.sep (StoreP.shut ok') (Ent.rfl' A)))
    simp -dsimp -implicitDefEqProofs only [go_sem]
    exact this
end
end
section
variable {w0 w : World} {A : HP} {b B : Nat} {s : SD} {y : SX} {X1 X2 : List NN} {x : NN} {o : OpD} {vd : Value} {e : FA} {R : Ending → World → Prop}
theorem doF_one {d : NodeD} (hk : 4 ≤ o.kind ∧ o.kind ≤ 7) (hf : findN s.L o.path = some d) : doF s o = oneF s o.path (if o.kind = 4 then infoF d (setF o.mask o.node d.i) else if o.kind = 5 then cutF o.offset d else if o.kind = 6 then bytesF o.offset o.data d else infoF d (opensF o.n d.i)) := by
  unfold doF
  rw [if_neg (by omega), hf]
  simp only
  rw [if_neg (by omega), if_neg (by omega), if_neg (by omega)]
  split
  · rfl
  split
  · rfl
  split
  · rfl
  · rfl
theorem one_errs {d : NodeD} {k : Nat} (h : (if o.kind = 4 then infoF d (setF o.mask o.node d.i) else if o.kind = 5 then cutF o.offset d else if o.kind = 6 then bytesF o.offset o.data d else infoF d (opensF o.n d.i)) = .error k) : 1 ≤ k ∧ k < 1000 := by
  split at h
  · unfold infoF setF at h
    repeat' split at h
    all_goals (first | (cases h; omega) | cases h)
    all_goals (rename_i h2; split at h2 <;> (try split at h2) <;> cases h2 <;> omega)
  split at h
  · unfold cutF at h
    repeat' split at h
    all_goals (first | (cases h; omega) | cases h)
  split at h
  · unfold bytesF at h
    repeat' split at h
    all_goals (first | (cases h; omega) | cases h)
  · unfold infoF opensF at h
    repeat' split at h
    all_goals (first | (cases h; omega) | cases h)
    all_goals (rename_i h2; split at h2 <;> (try split at h2) <;> cases h2 <;> omega)
def oneR (o : OpD) (d : NodeD) : Except Nat NodeD := if o.kind = 4 then infoF d (setF o.mask o.node d.i) else if o.kind = 5 then cutF o.offset d else if o.kind = 6 then bytesF o.offset o.data d else infoF d (opensF o.n d.i)
theorem oneR_ok {d n' : NodeD} (ok : NodeOk d) (ho : OpOk o) (h : oneR o d = .ok n') : Keeps d n' ∧ NodeOk n' ∧ n'.i.name = d.i.name := by
  unfold oneR at h
  split at h
  · obtain ⟨i, h1, rfl⟩ := info_ok h
    exact set_ok h1 ok ho.mode ho.atime ho.mtime
  split at h
  · exact cut_ok h ok
  split at h
  · exact bytes_ok h ok
  · obtain ⟨i, h1, rfl⟩ := info_ok h
    exact opens_ok h1 ok
section
attribute [local go_sem] F10.t2_eq F10.t6_eq F10.t30_eq F10.t16_eq F10.t11_eq
theorem do_t16 [Gives A Tabs] [Gives A (RdB vd o.data)] (hin : OpIn o) (hk : 4 ≤ o.kind ∧ o.kind ≤ 7) (ok : StoreOk s y) (hs : y.X = X1 ++ x :: X2) (hf : findN s.L o.path = some x.d)
    (h : St w0 (NodeB x.n 0 x.d.i x.vk x.vb * (RowU x.vk x.ks * (BlksP x.vb x.P * (StoreR b 0 1 s y (y.X.map kv) (X1 ++ X2) * (opB B o vd * A))))) w)
    (hd : e.ds = [{ target := .fn (.func 31) #[], args := #[.pointer (some ⟨b, 0, none⟩)] }])
    (e3 : e.ρ 3 = .pointer (some ⟨B, 0, none⟩)) (e6 : e.ρ 6 = .pointer (some ⟨x.n, 0, none⟩))
    (hR : ∀ w', St w0 (StoreP b 0 0 (doF s o).1 * A) w' → R (.returned (.tuple #[.int .u64 (doF s o).2.1, .int .i64 (doF s o).2.2])) w') :
    cwE Tryz.prog F10.t16 (fnM Tryz.prog #[.tmp 4, .tmp 5] R) e w := by
  have hx : x ∈ y.X := by rw [hs]; simp
  have hdm := (find_some hf).1
  have hp := (find_some hf).2
  have nok := ok.wf.ok _ hdm
  rw [doF_one hk hf] at hR
  change ∀ w', St w0 (StoreP b 0 0 (oneF s o.path (oneR o x.d)).1 * A) w' → R (.returned (.tuple #[.int .u64 (oneF s o.path (oneR o x.d)).2.1, .int .i64 (oneF s o.path (oneR o x.d)).2.2])) w' at hR
  have herr : ∀ k, oneR o x.d = .error k → 1 ≤ k ∧ k < 1000 := fun k h => one_errs h
  have hkeep : ∀ n', oneR o x.d = .ok n' → Keeps x.d n' ∧ NodeOk n' ∧ n'.i.name = x.d.i.name := fun n' h => oneR_ok nok hin.ok h
  have hwf : ∀ n', oneR o x.d = .ok n' → Wf { s with L := updN s.L o.path fun _ => n' } := fun n' h => by
    have := one_wf ok.wf hdm (r := oneR o x.d) hkeep
    rw [h] at this
    rw [← hp]
    exact this
  have fin : ∀ (e : FA) (w : World) (vb' : Value) (P' : BL), (∀ n', oneR o x.d = .ok n' → BlksOk P' n'.b) → (match oneR o x.d with
      | .error k => St w0 (NodeB x.n 1 x.d.i x.vk x.vb * (BlksP x.vb x.P * (RowU x.vk x.ks * (StoreR b 0 1 s y (y.X.map kv) (X1 ++ X2) * (opB B o vd * A))))) w ∧ e.ρ 7 = .int .i64 k
      | .ok n' => St w0 (NodeB x.n 1 n'.i x.vk vb' * (BlksP vb' P' * (RowU x.vk x.ks * (StoreR b 0 1 s y (y.X.map kv) (X1 ++ X2) * (opB B o vd * A))))) w ∧ e.ρ 7 = .int .i64 0) →
      e.ds = [{ target := .fn (.func 33) #[], args := #[.pointer (some ⟨x.n, 0, none⟩)] }, { target := .fn (.func 31) #[], args := #[.pointer (some ⟨b, 0, none⟩)] }] →
      e.ρ 3 = .pointer (some ⟨B, 0, none⟩) → cwE Tryz.prog F10.t28 (fnM Tryz.prog #[.tmp 4, .tmp 5] R) e w := fun e w vb' P' hb hm hd e3 =>
    do_t28 ok hs hf hm herr (fun n' h => ⟨(hkeep n' h).1, (hkeep n' h).2.2, hb n' h, hwf n' h⟩) hd e3 hR
  unfold F10.t16
  simp -dsimp -implicitDefEqProofs (disch := omega) only [go_sem, hd, e3, e6]
  refine (lockH (b := x.n) h rfl).mono ?_
  rintro e' w3 ⟨h3, rfl⟩
  have h3 : St w0 (NodeB x.n 1 x.d.i x.vk x.vb * (RowU x.vk x.ks * (BlksP x.vb x.P * (StoreR b 0 1 s y (y.X.map kv) (X1 ++ X2) * (opB B o vd * A))))) w3 := h3
  have h4 : St w0 (NodeB x.n 1 x.d.i x.vk x.vb * (BlksP x.vb x.P * (RowU x.vk x.ks * (StoreR b 0 1 s y (y.X.map kv) (X1 ++ X2) * (opB B o vd * A))))) w3 := h3.ac (by ac_rfl)
  have hrow := h4.rowAtH B 4 13 (by simp)
  simp only [List.drop_succ_cons, List.drop_zero, List.take_succ_cons, List.take_zero] at hrow
  simp -dsimp -implicitDefEqProofs (disch := omega) only [go_sem, hd, e3, e6]
  refine deferF_of ?_
  rcases Nat.lt_or_ge o.kind 5 with hk4 | hk4
  · have k4 : (o.kind : Int) = 4 := by omega
    have hr : oneR o x.d = infoF x.d (setF o.mask o.node x.d.i) := by unfold oneR; rw [if_pos (by omega)]
    simp -dsimp -implicitDefEqProofs (disch := omega) only [go_sem, hd, e3, e6, h4.cl B, k4, hrow]
    refine (set_any (t := o.node) hin.mask hin.ok.mode nok.mode ⟨Nat.le_trans hin.uid (by omega), Nat.le_trans hin.gid (by omega), Nat.le_trans hin.muid (by omega)⟩ h4).mono ?_
    intro e5 w5 hq
    have hb : ∀ n', oneR o x.d = .ok n' → BlksOk x.P n'.b := fun n' hn => by
      rw [hr] at hn
      obtain ⟨j, h1, rfl⟩ := info_ok hn
      exact ok.bytes x hx
    cases hse : setF o.mask o.node x.d.i with
    | error k =>
      rw [hse] at hq
      obtain ⟨h5, rfl⟩ := hq
      simp -dsimp -implicitDefEqProofs (disch := omega) only [go_sem, hd, e3, e6]
      refine fin _ _ x.vb x.P hb ?_ (by simp -dsimp -implicitDefEqProofs only [go_sem, hd, e6]) (by simp -dsimp -implicitDefEqProofs only [go_sem, e3])
      rw [hr, hse]
      exact ⟨h5, by simp -dsimp -implicitDefEqProofs only [go_sem]⟩
    | ok j =>
      rw [hse] at hq
      obtain ⟨h5, rfl⟩ := hq
      simp -dsimp -implicitDefEqProofs (disch := omega) only [go_sem, hd, e3, e6]
      refine fin _ _ x.vb x.P hb ?_ (by simp -dsimp -implicitDefEqProofs only [go_sem, hd, e6]) (by simp -dsimp -implicitDefEqProofs only [go_sem, e3])
      rw [hr, hse]
      exact ⟨h5, by simp -dsimp -implicitDefEqProofs only [go_sem]⟩
  have k4 : ¬ (o.kind : Int) = 4 := by omega
  rcases Nat.lt_or_ge o.kind 6 with hk5 | hk5
  · have k5 : (o.kind : Int) = 5 := by omega
    have hr : oneR o x.d = cutF o.offset x.d := by unfold oneR; rw [if_neg (by omega), if_pos (by omega)]
    simp -dsimp -implicitDefEqProofs (disch := omega) only [go_sem, hd, e3, e6, h4.cl B, k4, k5]
    refine (cut_any nok.mode (ok.bytes x hx) h4).mono ?_
    intro e5 w5 hq
    cases hse : cutF o.offset x.d with
    | error k =>
      rw [hse] at hq
      obtain ⟨h5, rfl⟩ := hq
      simp -dsimp -implicitDefEqProofs (disch := omega) only [go_sem, hd, e3, e6]
      refine fin _ _ x.vb x.P (fun n' hn => by rw [hr, hse] at hn; cases hn) ?_ (by simp -dsimp -implicitDefEqProofs only [go_sem, hd, e6]) (by simp -dsimp -implicitDefEqProofs only [go_sem, e3])
      rw [hr, hse]
      exact ⟨h5, by simp -dsimp -implicitDefEqProofs only [go_sem]⟩
    | ok n' =>
      rw [hse] at hq
      obtain ⟨vb', P', hb, h5, rfl⟩ := hq
      simp -dsimp -implicitDefEqProofs (disch := omega) only [go_sem, hd, e3, e6]
      refine fin _ _ vb' P' (fun n' hn => by rw [hr, hse] at hn; cases hn; exact hb) ?_ (by simp -dsimp -implicitDefEqProofs only [go_sem, hd, e6]) (by simp -dsimp -implicitDefEqProofs only [go_sem, e3])
      rw [hr, hse]
      exact ⟨h5, by simp -dsimp -implicitDefEqProofs only [go_sem]⟩
  have k5 : ¬ (o.kind : Int) = 5 := by omega
  rcases Nat.lt_or_ge o.kind 7 with hk6 | hk6
  · have k6 : (o.kind : Int) = 6 := by omega
    have hr : oneR o x.d = bytesF o.offset o.data x.d := by unfold oneR; rw [if_neg (by omega), if_neg (by omega), if_pos (by omega)]
    simp -dsimp -implicitDefEqProofs (disch := omega) only [go_sem, hd, e3, e6, h4.cl B, k4, k5, k6]
    refine (put_any (v := vd) (d := o.data) nok.mode (by have := nok.few; have := nok.len; omega) (ok.bytes x hx) hin.offset hin.data h4).mono ?_
    intro e5 w5 hq
    cases hse : bytesF o.offset o.data x.d with
    | error k =>
      rw [hse] at hq
      obtain ⟨h5, rfl⟩ := hq
      simp -dsimp -implicitDefEqProofs (disch := omega) only [go_sem, hd, e3, e6]
      refine fin _ _ x.vb x.P (fun n' hn => by rw [hr, hse] at hn; cases hn) ?_ (by simp -dsimp -implicitDefEqProofs only [go_sem, hd, e6]) (by simp -dsimp -implicitDefEqProofs only [go_sem, e3])
      rw [hr, hse]
      exact ⟨h5, by simp -dsimp -implicitDefEqProofs only [go_sem]⟩
    | ok n' =>
      rw [hse] at hq
      obtain ⟨vb', P', hb, h5, rfl⟩ := hq
      simp -dsimp -implicitDefEqProofs (disch := omega) only [go_sem, hd, e3, e6]
      refine fin _ _ vb' P' (fun n' hn => by rw [hr, hse] at hn; cases hn; exact hb) ?_ (by simp -dsimp -implicitDefEqProofs only [go_sem, hd, e6]) (by simp -dsimp -implicitDefEqProofs only [go_sem, e3])
      rw [hr, hse]
      exact ⟨h5, by simp -dsimp -implicitDefEqProofs only [go_sem]⟩
  have k6 : ¬ (o.kind : Int) = 6 := by omega
  have k7 : (o.kind : Int) = 7 := by omega
  have hr : oneR o x.d = infoF x.d (opensF o.n x.d.i) := by unfold oneR; rw [if_neg (by omega), if_neg (by omega), if_neg (by omega)]
  have hb : ∀ n', oneR o x.d = .ok n' → BlksOk x.P n'.b := fun n' hn => by
    rw [hr] at hn
    obtain ⟨j, h1, rfl⟩ := info_ok hn
    exact ok.bytes x hx
  simp -dsimp -implicitDefEqProofs (disch := omega) only [go_sem, hd, e3, e6, h4.cl B, k4, k5, k6, k7]
  refine (opens_any h4 ⟨hin.n0, hin.n1⟩ ⟨nok.op0, nok.op1⟩).mono ?_
  intro e5 w5 hq
  cases hse : opensF o.n x.d.i with
  | error k =>
    rw [hse] at hq
    obtain ⟨h5, rfl⟩ := hq
    simp -dsimp -implicitDefEqProofs (disch := omega) only [go_sem, hd, e3, e6]
    refine fin _ _ x.vb x.P hb ?_ (by simp -dsimp -implicitDefEqProofs only [go_sem, hd, e6]) (by simp -dsimp -implicitDefEqProofs only [go_sem, e3])
    rw [hr, hse]
    exact ⟨h5, by simp -dsimp -implicitDefEqProofs only [go_sem]⟩
  | ok j =>
    rw [hse] at hq
    obtain ⟨h5, rfl⟩ := hq
    simp -dsimp -implicitDefEqProofs (disch := omega) only [go_sem, hd, e3, e6]
    refine fin _ _ x.vb x.P hb ?_ (by simp -dsimp -implicitDefEqProofs only [go_sem, hd, e6]) (by simp -dsimp -implicitDefEqProofs only [go_sem, e3])
    rw [hr, hse]
    exact ⟨h5, by simp -dsimp -implicitDefEqProofs only [go_sem]⟩
end
end
theorem u64_cells (l : List Nat) : ∀ v ∈ l.map u64V, isCell v = true := by
  intro v hv
  obtain ⟨x, _, rfl⟩ := List.mem_map.1 hv
  rfl
theorem rowTy_u64 : rowTy Tryz.prog 97 = some (34, 1, 8, [.int .u64 0]) := by kernel_rfl
section
attribute [local go_sem] F103.t4_eq
theorem delU_any {w0 w : World} {F : HP} {v : Value} {l : List Nat} {i : Nat} (h : St w0 (RowU v l * F) w) (hi : i < l.length) (hl : l.length < 1099511627776) :
    Calls Tryz.prog 103 #[v, .int .i64 i, .int .i64 ((i : Int) + 1)] w fun e w' => ∃ v', St w0 (RowU v' (l.eraseIdx i) * F) w' ∧ e = .returned v' := by
  obtain ⟨a, c, rfl, _, hnc, hcm⟩ := RowO.form h
  obtain ⟨g, o, rfl, _⟩ := h.atS (a := a) (n := l.length) (c := c) (xs := l.map u64V) (k := i) (by simpa using hi)
  refine F103.calls (by simp) ?_
  unfold F103.code
  have e1 : ((i : Int) + 1).toNat = i + 1 := by omega
  have r2 := (h.drew.left.ent (RowO.reads _ _ _ _ _)).ent (Reads.sub (lo := i + 1) (k := l.length - (i + 1)) (by omega))
  rw [Nat.mul_one, Nat.mul_one, ← List.map_drop, ← List.map_take, List.take_of_length_le (by simp)] at r2
  simp only [Option.map_some, add_lit] at r2
  have hcut := h.drew.ent (Ent.sep (RowO.cut (lo := 0) (k := i) (m := c) (by omega) (by omega) (Nat.le_refl _)) (Ent.rfl' _))
  simp only [Nat.zero_mul, Option.map_some, add_lit, Nat.add_zero, ite_self, Nat.sub_zero, List.drop_zero, Nat.mul_one, ← List.map_take] at hcut
  simp -dsimp -implicitDefEqProofs (disch := omega) only [go_sem]
  simp only [ite_self, Nat.sub_zero, e1]
  refine hcut.appendIn rowTy_u64 (r2.rd.src Tryz.underlying97 (u64_cells _) (fun hh => ?_)) (by omega) fun w1 h1 => ?_
  · have := congrArg List.length hh
    simp only [List.length_map, List.length_drop, List.length_nil] at this
    omega
  rw [← List.map_append, ← List.eraseIdx_eq_take_drop_succ] at h1
  have hn : i + (l.length - (i + 1)) = l.length - 1 := by omega
  have hel : (l.eraseIdx i).length = l.length - 1 := by rw [List.length_eraseIdx, if_pos hi]
  rw [hn] at h1 ⊢
  simp -dsimp -implicitDefEqProofs (disch := omega) only [go_sem]
  rw [if_neg (by omega)]
  rw [show (some (⟨g, o + (l.length - 1), none⟩ : Addr)) = some ⟨g, o + (l.length - 1) * 1, none⟩ by rw [Nat.mul_one]]
  refine St.clearTail (k := l.length - 1) (m := l.length - (l.length - 1)) h1 rowTy_u64 (by intro v hv; simp only [List.mem_cons, List.not_mem_nil, or_false] at hv; subst hv; rfl) (Nat.le_refl _) (by omega) (by omega) fun w2 h2 => ?_
  simp -dsimp -implicitDefEqProofs (disch := omega) only [go_sem]
  refine ⟨_, ?_, rfl⟩
  show St w0 (RowO _ 1 _ (l.eraseIdx i).length _ * F) w2
  rw [hel]
  exact h2
theorem erase_filter {l : List Nat} {i : Nat} (hl : l.Pairwise (· < ·)) (hi : i < l.length) : l.eraseIdx i = l.filter fun x => !(x == l[i]) := by
  induction l generalizing i with
  | nil => simp at hi
  | cons y l ih =>
    rw [List.pairwise_cons] at hl
    cases i with
    | zero =>
      simp only [List.eraseIdx_zero, List.tail_cons, List.getElem_cons_zero, List.filter_cons, BEq.rfl, Bool.not_true, Bool.false_eq_true, if_false]
      rw [List.filter_eq_self.2]
      intro x hx
      have := hl.1 x hx
      simp; omega
    | succ i =>
      have hi' : i < l.length := by simpa using hi
      simp only [List.eraseIdx_cons_succ, List.getElem_cons_succ, List.filter_cons]
      have : (!(y == l[i])) = true := by have := hl.1 l[i] (List.getElem_mem hi'); simp; omega
      rw [if_pos this, ih hl.2 hi']
end
section
attribute [local go_sem] F94.t4_eq
theorem without_any {w0 w : World} {F : HP} {v : Value} {l : List Nat} {p : Nat} (h : St w0 (RowU v l * F) w) (hr : l.Pairwise (· < ·)) (hl : l.length < 1000000000) :
    Calls Tryz.prog 94 #[v, .int .u64 p] w fun e w' => ∃ v', St w0 (RowU v' (l.filter fun x => !(x == p)) * F) w' ∧ e = .returned v' := by
  refine F94.calls (by simp) ?_
  unfold F94.code
  simp -dsimp -implicitDefEqProofs (disch := omega) only [go_sem]
  refine (search_any (l := l) h hr (by omega)).mono ?_
  rintro e w1 ⟨h1, i, hp, rfl⟩
  by_cases ht : p ∈ l
  · have hil : ∃ (hi : i < l.length), l[i] = p := by
      obtain ⟨k, hk, rfl⟩ := List.getElem_of_mem ht
      obtain ⟨p0, p1, p2⟩ := hp
      rcases Nat.lt_trichotomy k i with h1 | h1 | h1
      · have := p1 k hk h1; omega
      · subst h1; exact ⟨hk, rfl⟩
      · have h2 := p2 i (by omega) (Nat.le_refl _)
        have h3 := List.pairwise_iff_getElem.1 hr i k (by omega) hk h1
        omega
    obtain ⟨hi, rfl⟩ := hil
    simp -dsimp -implicitDefEqProofs (disch := omega) only [go_sem, ht]
    refine (delU_any h1 hi (by omega)).mono ?_
    rintro e w2 ⟨v', h2, rfl⟩
    simp -dsimp -implicitDefEqProofs (disch := omega) only [go_sem]
    rw [erase_filter hr hi] at h2
    exact ⟨_, h2, rfl⟩
  · have : (l.filter fun x => !(x == p)) = l := List.filter_eq_self.2 fun x hx => by
      have : x ≠ p := fun e => ht (e ▸ hx)
      simpa using this
    simp -dsimp -implicitDefEqProofs (disch := omega) only [go_sem, ht]
    rw [this]
    exact ⟨_, h1, rfl⟩
end
section
variable {κ : Type} [DecidableEq κ]
theorem lk_upd (x y : κ) (v : Value) : ∀ l : List (κ × Value), lk x (upd y v l) = if x = y then some v else lk x l
  | [] => by simp [upd, lk]
  | (z, u) :: l => by
    by_cases h : y = z
    · subst h
      simp only [upd, if_true, lk]
      split <;> rfl
    · simp only [upd, h, if_false, lk, lk_upd x y v l]
      by_cases hx : x = z
      · have : ¬ x = y := fun e => h (by rw [← e, hx])
        simp [hx, Ne.symm h]
      · simp [hx]
theorem upd_new {x : κ} {v : Value} {l : List (κ × Value)} (h : x ∉ l.map (·.1)) : upd x v l = l ++ [(x, v)] := by
  induction l with
  | nil => rfl
  | cons y l ih =>
    simp only [List.map_cons, List.mem_cons, not_or] at h
    obtain ⟨z, u⟩ := y
    simp only [upd, if_neg h.1, ih h.2, List.cons_append]
end
theorem kids_app (L : List NodeD) (nd : NodeD) (q : Nat) : kidsF (L ++ [nd]) q = if isKid q nd then kidsF L q ++ [nd.i.path] else kidsF L q := by
  unfold kidsF
  rw [List.filter_append, List.filter_cons, List.filter_nil]
  cases isKid q nd <;> simp
theorem child_app (L : List NodeD) (nd : NodeD) (q : Nat) (nm : List UInt8) : childF (L ++ [nd]) q nm = (childF L q nm).or (if isKid q nd && nd.i.name == nm then some nd.i.path else none) := by
  unfold childF
  rw [List.find?_append, List.find?_cons, List.find?_nil]
  cases L.find? fun n => isKid q n && n.i.name == nm with
  | some z => rfl
  | none =>
    cases isKid q nd && nd.i.name == nm <;> rfl
def freshN (s : SD) (p : Nat) (t : Inf) : NodeD := ⟨⟨s.next, p, t.name, t.mode, t.uid, t.gid, t.muid, t.atime, t.mtime, 0, 0, 0, 0⟩, []⟩
theorem storeOk_make {s : SD} {y : SX} (ok : StoreOk s y) {X1 X2 : List NN} {x : NN} {t : Inf} {M : Nat} {vk' ov' : Value} (hs : y.X = X1 ++ x :: X2) (hc : childF s.L x.d.i.path t.name = none)
    (hw : Wf { s with next := s.next + 1, L := s.L ++ [freshN s x.d.i.path t] }) :
    StoreOk { s with next := s.next + 1, L := s.L ++ [freshN s x.d.i.path t] } { y with ov := ov', X := X1 ++ { x with vk := vk', ks := x.ks ++ [s.next] } :: (X2 ++ [⟨freshN s x.d.i.path t, M, .slice none 0 0, .slice none 0 0, [], []⟩]), cl := upd (x.d.i.path, t.name) (u64V s.next) y.cl } := by
  have hx : x ∈ y.X := by rw [hs]; simp
  have hd : x.d ∈ s.L := ok.perm.mem_iff.1 (List.mem_map.2 ⟨x, hx, rfl⟩)
  have hxn := (ok.wf.below _ hd)
  have hnd := ok.paths
  rw [hs, List.map_append, List.map_cons, List.nodup_append] at hnd
  obtain ⟨_, h2, h3⟩ := hnd
  rw [List.nodup_cons] at h2
  have kid : ∀ q, isKid q (freshN s x.d.i.path t) = (x.d.i.path == q) := fun q => by
    unfold isKid freshN
    simp only
    have : (s.next == x.d.i.path) = false := by simp; omega
    rw [this]; simp
  have hmem : ∀ z, z ∈ X1 ∨ z ∈ X2 → z ∈ y.X ∧ z.d.i.path ≠ x.d.i.path := fun z hz => by
    rw [hs]
    rcases hz with h | h
    · exact ⟨by simp [h], fun e => h3 _ (List.mem_map.2 ⟨z, h, rfl⟩) _ List.mem_cons_self e⟩
    · exact ⟨by simp [h], fun e => h2.1 (List.mem_map.2 ⟨z, h, e⟩)⟩
  have cases4 : ∀ z, z ∈ X1 ++ { x with vk := vk', ks := x.ks ++ [s.next] } :: (X2 ++ [(⟨freshN s x.d.i.path t, M, .slice none 0 0, .slice none 0 0, [], []⟩ : NN)]) → z = { x with vk := vk', ks := x.ks ++ [s.next] } ∨ z = ⟨freshN s x.d.i.path t, M, .slice none 0 0, .slice none 0 0, [], []⟩ ∨ (z ∈ X1 ∨ z ∈ X2) := fun z hz => by
    simp only [List.mem_append, List.mem_cons, List.not_mem_nil, or_false] at hz
    rcases hz with h | h | h | h
    · exact .inr (.inr (.inl h))
    · exact .inl h
    · exact .inr (.inr (.inr h))
    · exact .inr (.inl h)
  refine ⟨hw, ?_, fun z hz => ?_, fun z hz => ?_, fun dir nm => ?_⟩
  · have : (X1 ++ { x with vk := vk', ks := x.ks ++ [s.next] } :: (X2 ++ [(⟨freshN s x.d.i.path t, M, .slice none 0 0, .slice none 0 0, [], []⟩ : NN)])).map (·.d) = y.X.map (·.d) ++ [freshN s x.d.i.path t] := by
      rw [hs]; simp
    show List.Perm ((X1 ++ { x with vk := vk', ks := x.ks ++ [s.next] } :: (X2 ++ [(⟨freshN s x.d.i.path t, M, .slice none 0 0, .slice none 0 0, [], []⟩ : NN)])).map (·.d)) (s.L ++ [freshN s x.d.i.path t])
    rw [this]
    exact ok.perm.append_right _
  · show z.ks = kidsF (s.L ++ [freshN s x.d.i.path t]) z.d.i.path
    rw [kids_app, kid]
    rcases cases4 z hz with rfl | rfl | h
    · simp only [beq_self_eq_true, if_true]
      rw [ok.kids x hx]; rfl
    · have : (x.d.i.path == s.next) = false := by simp; omega
      show [] = if (x.d.i.path == s.next) = true then _ else kidsF s.L s.next
      rw [this, if_neg (by simp)]
      unfold kidsF
      rw [List.filter_eq_nil_iff.2]
      · rfl
      · intro n hn hk
        have hk2 := (isKid_iff ok.wf hn).1 hk
        have := (ok.wf.up n hn hk2.2).1
        have := (ok.wf.below n hn).2
        omega
    · obtain ⟨hz1, hz2⟩ := hmem z h
      have : (x.d.i.path == z.d.i.path) = false := by simp; exact fun e => hz2 e.symm
      rw [this, if_neg (by simp)]
      exact ok.kids z hz1
  · rcases cases4 z hz with rfl | rfl | h
    · exact ok.bytes x hx
    · exact ⟨by simp, by simp, fun k _ => by simp [byteAt, freshN]⟩
    · exact ok.bytes z (hmem z h).1
  · show lk (dir, nm) (upd (x.d.i.path, t.name) (u64V s.next) y.cl) = (childF (s.L ++ [freshN s x.d.i.path t]) dir nm).map u64V
    rw [lk_upd, child_app, kid]
    by_cases e : (dir, nm) = (x.d.i.path, t.name)
    · rw [if_pos e]
      simp only [Prod.mk.injEq] at e
      obtain ⟨rfl, rfl⟩ := e
      rw [hc]
      simp [freshN]
    · rw [if_neg e, ok.child]
      have : ((x.d.i.path == dir) && (freshN s x.d.i.path t).i.name == nm) = false := by
        simp only [freshN]
        cases h1 : x.d.i.path == dir
        · rfl
        · cases h2 : t.name == nm
          · rfl
          · exact absurd (by simp at h1 h2; rw [h1, h2]) e
      rw [this, if_neg (by simp), Option.or_none]
def TurnR (w0 : World) (A : HP) (b : Nat) (st rc : Int) (r : SD × Nat × Nat) (e : Ending) (w' : World) : Prop :=
  ∃ y', StoreOk r.1 y' ∧ St w0 (StoreQ b st rc r.1 y' * A) w' ∧ e = .returned (.tuple #[.int .u64 r.2.1, .int .i64 r.2.2])
structure InfIn (t : Inf) : Prop where
  mode : t.mode < 4294967296
  name : t.name.length ≤ 4294967296
  uid : t.uid.length ≤ 4294967296
  gid : t.gid.length ≤ 4294967296
  muid : t.muid.length ≤ 4294967296
section
variable {w0 w : World} {A : HP} {b B K : Nat} {s : SD} {y : SX} {X1 X2 : List NN} {x : NN} {t : Inf} {st rc : Int} {e : FA} {R : Ending → World → Prop}
section
attribute [local go_sem] F65.t13_eq
theorem make_t13 (ok : StoreOk s y) (hs : y.X = X1 ++ x :: X2) (hnext : s.next < 9223372036854775808) (hc : childF s.L x.d.i.path t.name = none)
    (hw : Wf { s with next := s.next + 1, L := s.L ++ [freshN s x.d.i.path t] })
    (h : St w0 (Blk K (.cells [.int .u64 (x.d.i.path : Int), .string (strOf t.name)].toArray 142 (0, 0)) * (infB B t * (NodeB x.n 0 x.d.i x.vk x.vb * (RowU x.vk x.ks * (BlksP x.vb x.P * (StoreR b st rc s y (y.X.map kv) (X1 ++ X2) * A)))))) w)
    (hd : e.ds = []) (e0 : e.ρ 0 = .pointer (some ⟨b, 0, none⟩)) (e1 : e.ρ 1 = .pointer (some ⟨x.n, 0, none⟩)) (e5 : e.ρ 5 = .pointer (some ⟨B, 0, none⟩)) (e8 : e.ρ 8 = .pointer (some ⟨K, 0, none⟩)) :
    cwE Tryz.prog F65.t13 (fnP Tryz.prog #[.tmp 6, .tmp 7] (TurnR w0 A b st rc ({ s with next := s.next + 1, L := s.L ++ [freshN s x.d.i.path t] }, s.next, 0))) e w := by
  have few := ok.wf.few
  have most := ok.wf.most
  rw [F65.t13_eq]
  simp -dsimp -implicitDefEqProofs (disch := omega) only [go_sem, hd, e0, e1, e5, e8, h.cl b]
  refine h.sto (b := b) (by simp) rfl fun w1 h1 => ?_
  simp only [List.setIfInBounds_toArray, List.set_cons_succ, List.set_cons_zero] at h1
  simp -dsimp -implicitDefEqProofs (disch := omega) only [go_sem, hd, e0, e1, e5, e8, h1.drew.cl b, h1.drew.cl K, h1.drew.cl B]
  refine onV_of (v := .agg (infL (freshN s x.d.i.path t).i).toArray) (by kernel_rfl) ?_
  simp -dsimp -implicitDefEqProofs (disch := omega) only [go_sem, hd, e0, e1, e5, e8]
  refine onV_of (v := .agg (nodeC 0 (freshN s x.d.i.path t).i (.slice none 0 0) (.slice none 0 0))) (by kernel_rfl) ?_
  simp -dsimp -implicitDefEqProofs (disch := omega) only [go_sem, hd, e0, e1, e5, e8]
  refine h1.drew.new fun M w2 h2 => ?_
  simp -dsimp -implicitDefEqProofs (disch := omega) only [go_sem, hd, e0, e1, e5, e8, h2.cl b, h2.cl K, h2.cl B]
  refine h2.updH (b := y.N) (x := (s.next : Int)) Tryz.underlying96 lawU fun w3 h3 => ?_
  simp -dsimp -implicitDefEqProofs (disch := omega) only [go_sem, hd, e0, e1, e5, e8, h3.cl b, h3.cl K, h3.cl B]
  refine h3.lit (t := 97) (n := 1) (cells := [u64V s.next]) rowTy_u64 rfl (by decide) (by decide) fun v4 w4 h4 => ?_
  simp -dsimp -implicitDefEqProofs (disch := omega) only [go_sem, hd, e0, e1, e5, e8, h4.cl b]
  refine h4.appR (v := y.ov) (x := v4) rowTy_u64 Tryz.underlying97 (fun u hu => by simp at hu; subst hu; rfl) (by simp) (show _ ≤ 9223372036854775807 by simp; omega) (by simp; omega) fun v5 w5 h5 => ?_
  obtain ⟨a5, c5, rfl, _⟩ := h5.rowForm v5
  simp -dsimp -implicitDefEqProofs (disch := omega) only [go_sem, hd, e0, e1, e5, e8, h5.cl b]
  refine h5.sto (b := b) (by simp) rfl fun w6 h6 => ?_
  simp only [List.setIfInBounds_toArray, List.set_cons_succ, List.set_cons_zero] at h6
  have hK := h6.drew.rowH K 2 rfl
  simp -dsimp -implicitDefEqProofs (disch := omega) only [go_sem, hd, e0, e1, e5, e8, h6.drew.cl b, hK]
  refine h6.drew.updH (b := y.C) (x := ((x.d.i.path, t.name) : KD)) Tryz.underlying98 lawK fun w7 h7 => ?_
  have hK7 := h7.rowH K 2 rfl
  simp -dsimp -implicitDefEqProofs (disch := omega) only [go_sem, hd, e0, e1, e5, e8, h7.cl b, h7.cl x.n, hK7]
  refine h7.lit (t := 97) (n := 1) (cells := [u64V s.next]) rowTy_u64 rfl (by decide) (by decide) fun v8 w8 h8 => ?_
  simp -dsimp -implicitDefEqProofs (disch := omega) only [go_sem, hd, e0, e1, e5, e8, h8.cl b, h8.cl x.n]
  have hkl := kids_len s.L x.d.i.path
  have hk := ok.kids x (by rw [hs]; simp)
  refine h8.appR (v := x.vk) (x := v8) rowTy_u64 Tryz.underlying97 (fun u hu => by simp at hu; subst hu; rfl) (by simp) (show _ ≤ 9223372036854775807 by rw [hk]; omega) (by rw [hk]; omega) fun v9 w9 h9 => ?_
  obtain ⟨a9, c9, rfl, _⟩ := h9.rowForm v9
  simp -dsimp -implicitDefEqProofs (disch := omega) only [go_sem, hd, e0, e1, e5, e8, h9.cl b, h9.cl x.n]
  refine h9.sto (b := x.n) (by simp) rfl fun w10 h10 => ?_
  simp only [List.setIfInBounds_toArray, List.set_cons_succ, List.set_cons_zero] at h10
  simp -dsimp -implicitDefEqProofs (disch := omega) only [go_sem, hd, e0, e1, e5, e8]
  have hkeys : ((s.next : Int)) ∉ (y.X.map kv).map (·.1) := by
    intro hm
    rw [List.map_map] at hm
    obtain ⟨z, hz, he⟩ := List.mem_map.1 hm
    have h1 : (z.d.i.path : Int) = s.next := he
    have := (ok.wf.below z.d (ok.perm.mem_iff.1 (List.mem_map.2 ⟨z, hz, rfl⟩))).2
    omega
  rw [upd_new hkeys] at h10
  refine ⟨_, storeOk_make (M := M) (vk' := .slice a9 (x.ks.length + 1) c9) (ov' := .slice a5 ((s.L.map (·.i.path)).length + 1) c5) ok hs hc hw, ?_, rfl⟩
  obtain ⟨nn, hnn⟩ : ∃ nn : NN, nn = ⟨freshN s x.d.i.path t, M, .slice none 0 0, .slice none 0 0, [], []⟩ := ⟨_, rfl⟩
  obtain ⟨x', hx'⟩ : ∃ x' : NN, x' = { x with vk := .slice a9 (x.ks.length + 1) c9, ks := x.ks ++ [s.next] } := ⟨_, rfl⟩
  rw [← hnn, ← hx']
  have e1 : RowU (.slice a5 ((s.L.map (·.i.path)).length + 1) c5) ((s.L ++ [freshN s x.d.i.path t]).map (·.i.path)) = RowO 34 1 (.slice a5 ((s.L.map (·.i.path)).length + 1) c5) ((s.L.map (·.i.path)).length + 1) ((s.L.map (·.i.path)).map u64V ++ [u64V s.next]) := by
    show RowO _ 1 _ (List.length _) (List.map _ _) = _
    rw [List.map_append, List.length_append, List.map_append]; rfl
  have e2 : nodeP x' = NodeB x.n 0 x.d.i (.slice a9 (x.ks.length + 1) c9) x.vb * (RowO 34 1 (.slice a9 (x.ks.length + 1) c9) (x.ks.length + 1) (x.ks.map u64V ++ [u64V s.next]) * BlksP x.vb x.P) := by
    rw [hx']
    show NodeB x.n 0 x.d.i _ x.vb * (RowO _ 1 _ (List.length (x.ks ++ [s.next])) (List.map _ _) * BlksP x.vb x.P) = _
    rw [List.length_append, List.map_append]; rfl
  have e3 : nodeP nn = Blk M (.cells (nodeC 0 (freshN s x.d.i.path t).i (.slice none 0 0) (.slice none 0 0)) 104 (0, 0)) * (RowO 34 1 (.slice none 0 0) 0 [] * (RowO 136 1 (.slice none 0 0) 0 [] * EmpH)) := by
    rw [hnn]; rfl
  have e4 : starL nodeP (X1 ++ x' :: (X2 ++ [nn])) = nodeP x' * (nodeP nn * starL nodeP (X1 ++ X2)) := by
    rw [starL_split, ← List.append_assoc, starL_split, List.append_nil]
  have e5 : (X1 ++ x' :: (X2 ++ [nn])).map kv = y.X.map kv ++ [((s.next : Int), .pointer (some ⟨M, 0, none⟩))] := by
    rw [hs, hx', hnn]
    simp [kv, freshN]
  obtain ⟨Mc, hMc⟩ : ∃ Mc, Mc = MapP encK y.C (upd ((x.d.i.path, t.name) : KD) (.int .u64 (s.next : Int)) y.cl) := ⟨_, rfl⟩
  have h10 : St w0 (RowO 34 1 v8 1 [u64V s.next] * (RowO 34 1 v4 1 [u64V s.next] * (Blk M (.cells (nodeC 0 (freshN s x.d.i.path t).i (.slice none 0 0) (.slice none 0 0)) 104 (0, 0)) * (Blk K (.cells [.int .u64 (x.d.i.path : Int), .string (strOf t.name)].toArray 142 (0, 0)) * (infB B t * (NodeB x.n 0 x.d.i (.slice a9 (x.ks.length + 1) c9) x.vb * (RowO 34 1 (.slice a9 (x.ks.length + 1) c9) (x.ks.length + 1) (x.ks.map u64V ++ [u64V s.next]) * (BlksP x.vb x.P * (
      Blk b (.cells #[.int .i32 st, .int .u32 0, .int .u32 0, .int .u32 0, .int .i32 rc, .int .i32 0, .int .i64 s.most, .int .u64 ((s.next : Int) + 1), .map (some y.N), .slice a5 ((s.L.map (·.i.path)).length + 1) c5, .map (some y.C)] 100 (0, 0)) *
        (MapP encU y.N (y.X.map kv ++ [((s.next : Int), .pointer (some ⟨M, 0, none⟩))]) * (Mc * (RowO 34 1 (.slice a5 ((s.L.map (·.i.path)).length + 1) c5) ((s.L.map (·.i.path)).length + 1) ((s.L.map (·.i.path)).map u64V ++ [u64V s.next]) * starL nodeP (X1 ++ X2)))) * A))))))))) w10 := by
    rw [hMc]; exact h10
  have h11 := ((h10.nilR 34 1).nilR 136 1).ent (Ent.embL _)
  show St w0 (Blk b (.cells #[.int .i32 st, .int .u32 0, .int .u32 0, .int .u32 0, .int .i32 rc, .int .i32 0, .int .i64 s.most, .int .u64 ((s.next : Int) + 1), .map (some y.N), .slice a5 ((s.L.map (·.i.path)).length + 1) c5, .map (some y.C)] 100 (0, 0)) * (MapP encU y.N ((X1 ++ x' :: (X2 ++ [nn])).map kv) * (MapP encK y.C (upd ((x.d.i.path, t.name) : KD) (.int .u64 (s.next : Int)) y.cl) * (RowU (.slice a5 ((s.L.map (·.i.path)).length + 1) c5) ((s.L ++ [freshN s x.d.i.path t]).map (·.i.path)) * starL nodeP (X1 ++ x' :: (X2 ++ [nn]))))) * A) w10
  rw [e4, e5, e1, e2, e3, ← hMc]
  refine St.right (A := RowO 34 1 v8 1 [u64V s.next] * (RowO 34 1 v4 1 [u64V s.next] * (Blk K (.cells [.int .u64 (x.d.i.path : Int), .string (strOf t.name)].toArray 142 (0, 0)) * infB B t))) (h11.ac ?_)
  simp only [NodeB, nodeC]
  ac_rfl
end
theorem makes_any [Gives A Tabs] (ok : StoreOk s y) (hs : y.X = X1 ++ x :: X2) (ht : InfIn t) (hnext : s.next < 9223372036854775808) (hw : Wf (makeF s x.d t).1)
    (h : St w0 (StoreQ b st rc s y * A) w) :
    Calls Tryz.prog 65 #[.pointer (some ⟨b, 0, none⟩), .pointer (some ⟨x.n, 0, none⟩), .agg (infL t).toArray] w (TurnR w0 A b st rc (makeF s x.d t)) := by
  have hx : x ∈ y.X := by rw [hs]; simp
  have hdm : x.d ∈ s.L := ok.perm.mem_iff.1 (List.mem_map.2 ⟨x, hx, rfl⟩)
  have nok := ok.wf.ok _ hdm
  have h0 := h.ac (StoreQ.eq hs)
  refine F65.calls (by simp) ?_
  unfold F65.code
  simp -dsimp -implicitDefEqProofs (disch := omega) only [go_sem]
  refine h0.new fun B w1 h1 => ?_
  have hd1 := h1.drew.cl x.n
  have hB1 := h1.drew.cl B
  simp -dsimp -implicitDefEqProofs (disch := omega) only [go_sem, hd1, hB1]
  refine onV_of (v := encK (x.d.i.path, t.name)) (by kernel_rfl) ?_
  simp -dsimp -implicitDefEqProofs (disch := omega) only [go_sem]
  refine h1.drew.new fun K w2 h2 => ?_
  simp -dsimp -implicitDefEqProofs (disch := omega) only [go_sem, h2.cl x.n, h2.cl B]
  simp only [encK]
  refine h2.stoAll (b := K) (cs := [.int .u64 (x.d.i.path : Int), .string (strOf t.name)]) rfl rfl (by intro v hv; simp at hv; rcases hv with rfl | rfl <;> rfl) fun w3 h3 => ?_
  have hK := h3.drew.rowH K 2 rfl
  have hK3 := h3.rowH K 2 rfl
  simp -dsimp -implicitDefEqProofs (disch := omega) only [go_sem, h3.cl x.n, h3.cl B, h3.drew.cl x.n, h3.drew.cl B, h3.drew.cl b, hK, hK3]
  refine h3.drew.lkH (b := y.C) (x := ((x.d.i.path, t.name) : KD)) Tryz.underlying98 lawK (z := .int .u64 0) (by kernel_rfl) ?_
  rw [ok.child]
  have hl : lkV (.int .u64 0) true ((childF s.L x.d.i.path t.name).map u64V) = .tuple #[u64V ((childF s.L x.d.i.path t.name).getD 0), .bool (childF s.L x.d.i.path t.name).isSome] := lkV_get (f := u64V) (d := 0) _
  rw [hl]
  obtain ⟨kb, hkb⟩ : ∃ kb, kb = Blk K (.cells [.int .u64 (x.d.i.path : Int), .string (strOf t.name)].toArray 142 (0, 0)) := ⟨_, rfl⟩
  have h4 : St w0 (Blk K (.cells [.int .u64 (x.d.i.path : Int), .string (strOf t.name)].toArray 142 (0, 0)) * (infB B t * (NodeB x.n 0 x.d.i x.vk x.vb * (RowU x.vk x.ks * (BlksP x.vb x.P * (StoreR b st rc s y (y.X.map kv) (X1 ++ X2) * A)))))) w3.drew := h3.drew
  have err : ∀ (w' : World) (k : Nat), St w0 (Blk K (.cells [.int .u64 (x.d.i.path : Int), .string (strOf t.name)].toArray 142 (0, 0)) * (infB B t * (NodeB x.n 0 x.d.i x.vk x.vb * (RowU x.vk x.ks * (BlksP x.vb x.P * (StoreR b st rc s y (y.X.map kv) (X1 ++ X2) * A)))))) w' →
      makeF s x.d t = (s, 0, k) → TurnR w0 A b st rc (makeF s x.d t) (.returned (.tuple #[.int .u64 0, .int .i64 k])) w' := fun w' k h hm => by
    rw [hm]
    exact ⟨y, ok, h.right.right.ac (StoreQ.eq hs).symm, rfl⟩
  have bd := bDir (P := Tryz.prog) (T := 33) nok.mode
  cases hd : dirF x.d.i.mode
  case false =>
    simp only [hd, if_false, Bool.false_eq_true] at bd
    simp -dsimp -implicitDefEqProofs (disch := omega) only [go_sem, bd, h4.cl x.n]
    exact err _ 81 h4 (by simp [makeF, hd])
  simp only [hd, if_true] at bd
  simp -dsimp -implicitDefEqProofs (disch := omega) only [go_sem, bd, h4.cl x.n, h4.cl B]
  refine (mayMode_any h4 ht.mode).mono ?_
  rintro e w5 ⟨h5, rfl⟩
  cases g1 : modeF t.mode
  case false =>
    simp -dsimp -implicitDefEqProofs (disch := omega) only [go_sem]
    exact err _ 1 h5 (by simp [makeF, hd, g1])
  simp -dsimp -implicitDefEqProofs (disch := omega) only [go_sem, h5.cl B]
  refine (mayUser_any h5 (Nat.le_trans ht.uid (by omega))).mono ?_
  rintro e w6 ⟨h6, rfl⟩
  cases g2 : userF t.uid
  case false =>
    simp -dsimp -implicitDefEqProofs (disch := omega) only [go_sem]
    exact err _ 1 h6 (by simp [makeF, hd, g2])
  simp -dsimp -implicitDefEqProofs (disch := omega) only [go_sem, h6.cl B]
  refine (mayUser_any h6 (Nat.le_trans ht.gid (by omega))).mono ?_
  rintro e w7 ⟨h7, rfl⟩
  cases g3 : userF t.gid
  case false =>
    simp -dsimp -implicitDefEqProofs (disch := omega) only [go_sem]
    exact err _ 1 h7 (by simp [makeF, hd, g3])
  simp -dsimp -implicitDefEqProofs (disch := omega) only [go_sem, h7.cl B]
  refine (mayUser_any h7 (Nat.le_trans ht.muid (by omega))).mono ?_
  rintro e w8 ⟨h8, rfl⟩
  cases g4 : userF t.muid
  case false =>
    simp -dsimp -implicitDefEqProofs (disch := omega) only [go_sem]
    exact err _ 1 h8 (by simp [makeF, hd, g4])
  simp -dsimp -implicitDefEqProofs (disch := omega) only [go_sem, h8.cl B]
  refine (check_any h8 (Nat.le_trans ht.name (by omega))).mono ?_
  rintro e w9 ⟨h9, rfl⟩
  cases g5 : okName t.name
  case false =>
    simp only [Bool.false_eq_true, if_false]
    simp -dsimp -implicitDefEqProofs (disch := omega) only [go_sem]
    exact err _ 50 h9 (by simp [makeF, hd, g1, g2, g3, g4, g5])
  simp only [if_true]
  cases g6 : (childF s.L x.d.i.path t.name).isSome
  case true =>
    simp -dsimp -implicitDefEqProofs (disch := omega) only [go_sem]
    exact err _ 82 h9 (by simp [makeF, hd, g1, g2, g3, g4, g5, g6])
  simp -dsimp -implicitDefEqProofs (disch := omega) only [go_sem, h9.drew.cl b]
  refine h9.drew.lenH (b := y.N) Tryz.underlying96 ?_
  rw [List.length_map, ok.len]
  by_cases g7 : (s.most : Int) ≤ (s.L.length : Int)
  · simp -dsimp -implicitDefEqProofs (disch := omega) only [go_sem, h9.drew.cl b, g7]
    exact err _ 83 h9.drew (by simp [makeF, hd, g1, g2, g3, g4, g5, g6]; omega)
  simp -dsimp -implicitDefEqProofs (disch := omega) only [go_sem, h9.drew.cl b, g7]
  have g6' : childF s.L x.d.i.path t.name = none := by simpa using g6
  have hmk : makeF s x.d t = ({ s with next := s.next + 1, L := s.L ++ [freshN s x.d.i.path t] }, s.next, 0) := by
    unfold makeF
    rw [if_neg (by simp [hd]), if_neg (by simp [g1, g2, g3, g4]), if_neg (by simp [g5]), if_neg (by simp [g6]), if_neg (by omega)]
    rfl
  rw [hmk] at hw ⊢
  exact make_t13 ok hs hnext g6' hw h9.drew (by simp -dsimp -implicitDefEqProofs only [go_sem]) (by simp -dsimp -implicitDefEqProofs only [go_sem]) (by simp -dsimp -implicitDefEqProofs only [go_sem]) (by simp -dsimp -implicitDefEqProofs only [go_sem]) (by simp -dsimp -implicitDefEqProofs only [go_sem])
end
section
variable {κ : Type} [DecidableEq κ]
theorem lk_del {x y : κ} : ∀ {l : List (κ × Value)}, (l.map (·.1)).Nodup → lk x (del y l) = if x = y then none else lk x l
  | [], _ => by simp [del, lk]
  | (z, u) :: l, hn => by
    simp only [List.map_cons, List.nodup_cons] at hn
    by_cases h : y = z
    · subst h
      simp only [del, if_true, lk]
      by_cases hx : x = y
      · subst hx
        rw [if_pos rfl, lk_not hn.1]
      · rw [if_neg hx, if_neg hx]
    · simp only [del, h, if_false, lk]
      rw [lk_del hn.2]
      by_cases hx : x = z
      · have : ¬ x = y := fun e => h (by rw [← e, hx])
        simp [hx, Ne.symm h]
      · simp [hx]
theorem del_mid {x : κ} {v : Value} : ∀ {l r : List (κ × Value)}, x ∉ l.map (·.1) → del x (l ++ (x, v) :: r) = l ++ r
  | [], r, _ => by simp [del]
  | (z, u) :: l, r, h => by
    simp only [List.map_cons, List.mem_cons, not_or] at h
    simp only [List.cons_append, del, if_neg h.1, del_mid h.2]
end
theorem find_filter {α : Type} {f g : α → Bool} : ∀ {L : List α}, (∀ y ∈ L, g y = true → f y = true) → (L.filter f).find? g = L.find? g
  | [], _ => rfl
  | x :: L, h => by
    have ih := find_filter (L := L) fun y hy => h y (List.mem_cons_of_mem _ hy)
    rw [List.filter_cons]
    cases hg : g x
    · simp only [List.find?, hg]
      split
      · simp only [List.find?, hg]; exact ih
      · exact ih
    · rw [if_pos (h x List.mem_cons_self hg)]
      simp only [List.find?, hg]
theorem kids_drop (L : List NodeD) (p q : Nat) : kidsF (dropN L p) q = (kidsF L q).filter fun k => !(k == p) := by
  unfold kidsF dropN
  rw [List.filter_map, List.filter_filter, List.filter_filter]
  congr 1
  apply List.filter_congr
  intro x _
  simp only [Function.comp]
  rw [Bool.and_comm]
theorem storeOk_drop {s : SD} {y : SX} (ok : StoreOk s y) {X1 X2 Z1 Z2 : List NN} {x z : NN} {vk' ov' : Value} (hs : y.X = X1 ++ x :: X2) (hz : X1 ++ X2 = Z1 ++ z :: Z2) (hzp : z.d.i.path = x.d.i.parent) (h1 : x.d.i.path ≠ 1)
    (hcl : (y.cl.map (·.1)).Nodup) (hw : Wf { s with L := dropN s.L x.d.i.path }) :
    StoreOk { s with L := dropN s.L x.d.i.path } { y with ov := ov', X := Z1 ++ { z with vk := vk', ks := z.ks.filter fun k => !(k == x.d.i.path) } :: Z2, cl := del (x.d.i.parent, x.d.i.name) y.cl } := by
  have hx : x ∈ y.X := by rw [hs]; simp
  have hd : x.d ∈ s.L := ok.perm.mem_iff.1 (List.mem_map.2 ⟨x, hx, rfl⟩)
  have hnd := ok.paths
  have hmem : ∀ u, u ∈ X1 ++ X2 → u ∈ y.X ∧ u.d.i.path ≠ x.d.i.path := fun u hu => by
    rw [hs, List.map_append, List.map_cons, List.nodup_append] at hnd
    obtain ⟨_, h2, h3⟩ := hnd
    rw [List.nodup_cons] at h2
    rw [hs]
    rcases List.mem_append.1 hu with h | h
    · exact ⟨by simp [h], fun e => h3 _ (List.mem_map.2 ⟨u, h, rfl⟩) _ List.mem_cons_self e⟩
    · exact ⟨by simp [h], fun e => h2.1 (List.mem_map.2 ⟨u, h, e⟩)⟩
  have hzm : z ∈ X1 ++ X2 := by rw [hz]; simp
  have hzu : ∀ u, u ∈ Z1 ∨ u ∈ Z2 → u ∈ X1 ++ X2 ∧ u.d.i.path ≠ z.d.i.path := fun u hu => by
    have hn : ((X1 ++ X2).map (fun x => x.d.i.path)).Nodup := by
      rw [hs] at hnd
      have : ((X1 ++ X2).map (fun x => x.d.i.path)).Sublist ((X1 ++ x :: X2).map (fun x => x.d.i.path)) := by
        apply List.Sublist.map
        exact List.Sublist.append_left (List.sublist_cons_self _ _) _
      exact this.nodup hnd
    rw [hz, List.map_append, List.map_cons, List.nodup_append] at hn
    obtain ⟨_, h2, h3⟩ := hn
    rw [List.nodup_cons] at h2
    rw [hz]
    rcases hu with h | h
    · exact ⟨by simp [h], fun e => h3 _ (List.mem_map.2 ⟨u, h, rfl⟩) _ List.mem_cons_self e⟩
    · exact ⟨by simp [h], fun e => h2.1 (List.mem_map.2 ⟨u, h, e⟩)⟩
  have cases3 : ∀ u, u ∈ Z1 ++ { z with vk := vk', ks := z.ks.filter fun k => !(k == x.d.i.path) } :: Z2 → u = { z with vk := vk', ks := z.ks.filter fun k => !(k == x.d.i.path) } ∨ (u ∈ Z1 ∨ u ∈ Z2) := fun u hu => by
    simp only [List.mem_append, List.mem_cons] at hu
    rcases hu with h | h | h
    · exact .inr (.inl h)
    · exact .inl h
    · exact .inr (.inr h)
  refine ⟨hw, ?_, fun u hu => ?_, fun u hu => ?_, fun dir nm => ?_⟩
  · have h4 := ok.perm.filter (fun n => !(n.i.path == x.d.i.path))
    have h5 : (y.X.map (·.d)).filter (fun n => !(n.i.path == x.d.i.path)) = (X1 ++ X2).map (·.d) := by
      have hall : ∀ n ∈ (X1 ++ X2).map (·.d), (!(n.i.path == x.d.i.path)) = true := fun n hn => by
        obtain ⟨u, hu, rfl⟩ := List.mem_map.1 hn
        have := (hmem u hu).2
        simpa using this
      rw [hs, List.map_append, List.map_cons, List.filter_append, List.filter_cons, if_neg (by simp), ← List.filter_append, ← List.map_append]
      exact List.filter_eq_self.2 hall
    rw [h5, hz] at h4
    show List.Perm ((Z1 ++ { z with vk := vk', ks := z.ks.filter fun k => !(k == x.d.i.path) } :: Z2).map (·.d)) (dropN s.L x.d.i.path)
    have h6 : (Z1 ++ { z with vk := vk', ks := z.ks.filter fun k => !(k == x.d.i.path) } :: Z2).map (·.d) = (Z1 ++ z :: Z2).map (·.d) := by simp
    rw [h6]
    exact h4
  · show u.ks = kidsF (dropN s.L x.d.i.path) u.d.i.path
    rw [kids_drop]
    rcases cases3 u hu with rfl | h
    · rw [ok.kids z (hmem z hzm).1]
    · obtain ⟨h2, h3⟩ := hzu u h
      rw [ok.kids u (hmem u h2).1]
      refine (List.filter_eq_self.2 fun k hk => ?_).symm
      unfold kidsF at hk
      obtain ⟨m, hm, rfl⟩ := List.mem_map.1 hk
      obtain ⟨hm1, hm2⟩ := List.mem_filter.1 hm
      have hm3 := (isKid_iff ok.wf hm1).1 hm2
      cases e : m.i.path == x.d.i.path
      · rfl
      · have := rise_inj ok.wf.rise hm1 hd (by simpa using e)
        subst this
        exact absurd (by rw [hzp, hm3.1]) h3
  · rcases cases3 u hu with rfl | h
    · exact ok.bytes z (hmem z hzm).1
    · exact ok.bytes u (hmem u (hzu u h).1).1
  · show lk (dir, nm) (del (x.d.i.parent, x.d.i.name) y.cl) = (childF (dropN s.L x.d.i.path) dir nm).map u64V
    rw [lk_del hcl]
    by_cases e : (dir, nm) = (x.d.i.parent, x.d.i.name)
    · rw [if_pos e]
      simp only [Prod.mk.injEq] at e
      obtain ⟨rfl, rfl⟩ := e
      have : childF (dropN s.L x.d.i.path) x.d.i.parent x.d.i.name = none := by
        cases hc : childF (dropN s.L x.d.i.path) x.d.i.parent x.d.i.name with
        | none => rfl
        | some q =>
          obtain ⟨m, hm, rfl, hk, hn⟩ := child_some hc
          obtain ⟨hm1, hm2⟩ := List.mem_filter.1 hm
          obtain ⟨k1, k2⟩ := (isKid_iff ok.wf hm1).1 hk
          have := ok.wf.one m hm1 x.d hd k2 h1 k1 hn
          simp [this] at hm2
      rw [this]; rfl
    · rw [if_neg e, ok.child]
      congr 1
      unfold childF dropN
      rw [find_filter]
      intro m hm hg
      simp only [Bool.and_eq_true, beq_iff_eq] at hg
      cases e2 : m.i.path == x.d.i.path
      · rfl
      · have := rise_inj ok.wf.rise hm hd (by simpa using e2)
        subst this
        have hk := (isKid_iff ok.wf hm).1 hg.1
        exact absurd (by rw [hk.1, hg.2]) e
theorem drop_paths (L : List NodeD) (p : Nat) : (dropN L p).map (·.i.path) = (L.map (·.i.path)).filter fun k => !(k == p) := by
  unfold dropN
  rw [List.filter_map]; rfl
section
variable {w0 w : World} {A : HP} {b B K : Nat} {s : SD} {y : SX} {X1 X2 : List NN} {x : NN} {t : Inf} {st rc : Int} {e : FA} {R : Ending → World → Prop}
section
attribute [local go_sem] F66.t6_eq
theorem drop_any (ok : StoreOk s y) (hs : y.X = X1 ++ x :: X2) (hw : Wf (delF s x.d).1) (h : St w0 (StoreQ b st rc s y * A) w) :
    Calls Tryz.prog 66 #[.pointer (some ⟨b, 0, none⟩), .pointer (some ⟨x.n, 0, none⟩)] w (TurnR w0 A b st rc (delF s x.d)) := by
  have hx : x ∈ y.X := by rw [hs]; simp
  have hdm : x.d ∈ s.L := ok.perm.mem_iff.1 (List.mem_map.2 ⟨x, hx, rfl⟩)
  have hks := ok.kids x hx
  have few := ok.wf.few
  have most := ok.wf.most
  have h0 := h.ac (StoreQ.eq hs)
  obtain ⟨a, c, hvk, hl0, hnc, hcm⟩ := h0.rowForm x.vk
  refine F66.calls (by simp) ?_
  unfold F66.code
  by_cases c1 : (x.d.i.path : Int) = 1
  · have hr : delF s x.d = (s, 0, 81) := by unfold delF; rw [if_pos (by omega)]
    rw [hr]
    simp -dsimp -implicitDefEqProofs (disch := omega) only [go_sem, h0.cl x.n, c1]
    exact ⟨y, ok, h0.ac (StoreQ.eq hs).symm, rfl⟩
  by_cases c2 : (0 : Int) < (x.ks.length : Int)
  · have hr : delF s x.d = (s, 0, 85) := by unfold delF; rw [if_neg (by omega), if_pos (by rw [← hks]; omega)]
    rw [hr]
    simp -dsimp -implicitDefEqProofs (disch := omega) only [go_sem, h0.cl x.n, c1, hvk, c2]
    exact ⟨y, ok, h0.ac (StoreQ.eq hs).symm, rfl⟩
  have h1 : x.d.i.path ≠ 1 := by omega
  have hr : delF s x.d = ({ s with L := dropN s.L x.d.i.path }, x.d.i.path, 0) := by unfold delF; rw [if_neg h1, if_neg (by rw [← hks]; omega)]
  rw [hr] at hw ⊢
  obtain ⟨hup, d, hfd, _⟩ := ok.wf.up _ hdm h1
  obtain ⟨Y1, z, Y2, hy, rfl, hzy, hlz⟩ := ok.some hfd
  have hzp := (find_some hfd).2
  have hzx : z ∈ X1 ++ X2 := by
    rw [hs] at hzy
    rcases List.mem_append.1 hzy with h | h
    · simp [h]
    · rcases List.mem_cons.1 h with h | h
      · subst h; omega
      · simp [h]
  obtain ⟨Z1, Z2, hz⟩ := List.append_of_mem hzx
  have h2 : St w0 (NodeB x.n 0 x.d.i x.vk x.vb * (RowU x.vk x.ks * (BlksP x.vb x.P * (NodeB z.n 0 z.d.i z.vk z.vb * (RowU z.vk z.ks * (BlksP z.vb z.P * (StoreR b st rc s y (y.X.map kv) (Z1 ++ Z2) * A))))))) w := by
    have e1 : starL nodeP (X1 ++ X2) = NodeB z.n 0 z.d.i z.vk z.vb * (RowU z.vk z.ks * BlksP z.vb z.P) * starL nodeP (Z1 ++ Z2) := by
      rw [hz, starL_split]; rfl
    refine h0.ac ?_
    simp only [StoreR]
    rw [e1]
    ac_rfl
  simp -dsimp -implicitDefEqProofs (disch := omega) only [go_sem, h2.cl x.n, c1, hvk, c2, h2.drew.cl x.n, h2.drew.cl b]
  refine h2.drew.lkH (b := y.N) (x := (x.d.i.parent : Int)) Tryz.underlying96 lawU zero_ptr ?_
  rw [hlz]
  simp -dsimp -implicitDefEqProofs (disch := omega) only [go_sem, lkV, h2.drew.cl x.n, h2.drew.cl b, h2.drew.cl z.n]
  have hzks := ok.kids z hzy
  have hzl := kids_len s.L z.d.i.path
  have h3 : St w0 (RowU z.vk z.ks * (NodeB x.n 0 x.d.i x.vk x.vb * (NodeB z.n 0 z.d.i z.vk z.vb * (BlksP z.vb z.P * (StoreR b st rc s y (y.X.map kv) (Z1 ++ Z2) * A))))) w.drew := by
    have := h2.drew
    refine St.right (A := RowU x.vk x.ks * BlksP x.vb x.P) (this.ac ?_)
    ac_rfl
  refine (without_any (l := z.ks) h3 (by rw [hzks]; exact kids_rise ok.wf _) (by rw [hzks]; omega)).mono ?_
  rintro e w4 ⟨v4, h4, rfl⟩
  obtain ⟨a4, c4, rfl, _⟩ := h4.rowForm v4
  simp -dsimp -implicitDefEqProofs (disch := omega) only [go_sem, h4.cl z.n]
  refine h4.sto (b := z.n) (by simp) rfl fun w5 h5 => ?_
  simp only [List.setIfInBounds_toArray, List.set_cons_succ, List.set_cons_zero] at h5
  simp -dsimp -implicitDefEqProofs (disch := omega) only [go_sem, h5.cl b]
  obtain ⟨zk, hzk⟩ : ∃ zk, zk = z.ks.filter fun k => !(k == x.d.i.path) := ⟨_, rfl⟩
  rw [← hzk] at h5
  have h6 : St w0 (RowU y.ov (s.L.map (·.i.path)) * (RowU (.slice a4 zk.length c4) zk * (NodeB x.n 0 x.d.i x.vk x.vb * (NodeB z.n 0 z.d.i (.slice a4 zk.length c4) z.vb * (BlksP z.vb z.P * (StoreB b st rc s y * (MapP encU y.N (y.X.map kv) * (MapP encK y.C y.cl * (starL nodeP (Z1 ++ Z2) * A))))))))) w5 := by
    refine St.ac (A := RowU (.slice a4 zk.length c4) zk * (NodeB x.n 0 x.d.i x.vk x.vb * (NodeB z.n 0 z.d.i (.slice a4 zk.length c4) z.vb * (BlksP z.vb z.P * (StoreR b st rc s y (y.X.map kv) (Z1 ++ Z2) * A))))) h5 ?_
    simp only [StoreR]
    ac_rfl
  refine (without_any (l := s.L.map (·.i.path)) h6 (rise_paths.1 ok.wf.rise) (by simp; omega)).mono ?_
  rintro e w7 ⟨v7, h7, rfl⟩
  obtain ⟨a7, c7, rfl, _⟩ := h7.rowForm v7
  simp -dsimp -implicitDefEqProofs (disch := omega) only [go_sem, h7.cl b]
  refine h7.sto (b := b) (by simp) rfl fun w8 h8 => ?_
  simp only [List.setIfInBounds_toArray, List.set_cons_succ, List.set_cons_zero] at h8
  simp -dsimp -implicitDefEqProofs (disch := omega) only [go_sem, h8.drew.cl b, h8.drew.cl x.n]
  refine onV_of (v := encK (x.d.i.parent, x.d.i.name)) (by kernel_rfl) ?_
  simp -dsimp -implicitDefEqProofs (disch := omega) only [go_sem, h8.drew.cl b, h8.drew.cl x.n]
  have hcl := h8.mapNodup y.C
  refine h8.drew.delH (b := y.C) (x := ((x.d.i.parent, x.d.i.name) : KD)) Tryz.underlying98 lawK fun w9 h9 => ?_
  simp -dsimp -implicitDefEqProofs (disch := omega) only [go_sem, h9.cl b, h9.cl x.n]
  refine h9.delH (b := y.N) (x := (x.d.i.path : Int)) Tryz.underlying96 lawU fun w10 h10 => ?_
  simp -dsimp -implicitDefEqProofs (disch := omega) only [go_sem, h10.cl b]
  have hnk : (x.d.i.path : Int) ∉ (X1.map kv).map (·.1) := by
    have := ok.keys
    rw [hs, List.map_append, List.map_cons, List.map_append, List.map_cons, List.nodup_append] at this
    intro hm
    exact this.2.2 _ hm _ List.mem_cons_self rfl
  obtain ⟨z', hz'⟩ : ∃ z' : NN, z' = { z with vk := .slice a4 zk.length c4, ks := z.ks.filter fun k => !(k == x.d.i.path) } := ⟨_, rfl⟩
  have e1 : del (x.d.i.path : Int) (y.X.map kv) = (Z1 ++ z' :: Z2).map kv := by
    have e2 : y.X.map kv = X1.map kv ++ ((x.d.i.path : Int), .pointer (some ⟨x.n, 0, none⟩)) :: X2.map kv := by rw [hs, List.map_append, List.map_cons]; rfl
    rw [e2, del_mid hnk, ← List.map_append, hz, hz']
    simp [kv]
  obtain ⟨of, hof⟩ : ∃ of, of = (s.L.map (·.i.path)).filter fun k => !(k == x.d.i.path) := ⟨_, rfl⟩
  rw [← hof] at h10
  refine ⟨_, storeOk_drop (vk' := .slice a4 zk.length c4) (ov' := .slice a7 of.length c7) ok hs hz hzp h1 hcl hw, ?_, rfl⟩
  rw [← hz']
  obtain ⟨Mc, hMc⟩ : ∃ Mc, Mc = MapP encK y.C (del ((x.d.i.parent, x.d.i.name) : KD) y.cl) := ⟨_, rfl⟩
  obtain ⟨Mn, hMn⟩ : ∃ Mn, Mn = MapP encU y.N (del (x.d.i.path : Int) (y.X.map kv)) := ⟨_, rfl⟩
  have h11 : St w0 (RowU (.slice a7 of.length c7) of * (RowU (.slice a4 zk.length c4) zk * (NodeB x.n 0 x.d.i x.vk x.vb * (NodeB z.n 0 z.d.i (.slice a4 zk.length c4) z.vb * (BlksP z.vb z.P * (Blk b (.cells (storeC st rc s.most s.next (.map (some y.N)) (.slice a7 of.length c7) (.map (some y.C))) 100 (0, 0)) * (Mn * (Mc * (starL nodeP (Z1 ++ Z2) * A))))))))) w10 := by
    rw [hMc, hMn]; exact h10
  have e3 : nodeP z' = NodeB z.n 0 z.d.i (.slice a4 zk.length c4) z.vb * (RowU (.slice a4 zk.length c4) zk * BlksP z.vb z.P) := by rw [hz', hzk]; rfl
  show St w0 (Blk b (.cells (storeC st rc s.most s.next (.map (some y.N)) (.slice a7 of.length c7) (.map (some y.C))) 100 (0, 0)) * (MapP encU y.N ((Z1 ++ z' :: Z2).map kv) * (MapP encK y.C (del ((x.d.i.parent, x.d.i.name) : KD) y.cl) * (RowU (.slice a7 of.length c7) ((dropN s.L x.d.i.path).map (·.i.path)) * starL nodeP (Z1 ++ z' :: Z2)))) * A) w10
  rw [← hMc, ← e1, ← hMn, drop_paths, ← hof, starL_split, e3]
  refine St.right (A := NodeB x.n 0 x.d.i x.vk x.vb) (h11.ac ?_)
  ac_rfl
end
end
def calledN (n : NodeD) (nm : List UInt8) : NodeD := ⟨{ n.i with name := nm }, n.b⟩
theorem storeOk_call {s : SD} {y : SX} (ok : StoreOk s y) {X1 X2 : List NN} {x : NN} {nm : List UInt8} (hs : y.X = X1 ++ x :: X2) (h1 : x.d.i.path ≠ 1)
    (hcl : (y.cl.map (·.1)).Nodup) (hw : Wf { s with L := updN s.L x.d.i.path fun _ => calledN x.d nm }) :
    StoreOk { s with L := updN s.L x.d.i.path fun _ => calledN x.d nm } { y with X := X1 ++ { x with d := calledN x.d nm } :: X2, cl := upd (x.d.i.parent, nm) (u64V x.d.i.path) (del (x.d.i.parent, x.d.i.name) y.cl) } := by
  have k : Keeps x.d (calledN x.d nm) := ⟨rfl, rfl, rfl⟩
  have hx : x ∈ y.X := by rw [hs]; simp
  have hd : x.d ∈ s.L := ok.perm.mem_iff.1 (List.mem_map.2 ⟨x, hx, rfl⟩)
  obtain ⟨p1, p2, p3⟩ := upd_parts (x' := { x with d := calledN x.d nm }) ok hs rfl k rfl (ok.bytes x hx)
  refine ⟨hw, p1, p2, p3, fun dir m => ?_⟩
  show lk (dir, m) (upd (x.d.i.parent, nm) (u64V x.d.i.path) (del (x.d.i.parent, x.d.i.name) y.cl)) = (childF (updN s.L x.d.i.path fun _ => calledN x.d nm) dir m).map u64V
  have hd' : calledN x.d nm ∈ updN s.L x.d.i.path fun _ => calledN x.d nm := List.mem_map.2 ⟨x.d, hd, by rw [if_pos rfl]⟩
  rw [lk_upd, lk_del hcl]
  by_cases e1 : (dir, m) = (x.d.i.parent, nm)
  · rw [if_pos e1]
    simp only [Prod.mk.injEq] at e1
    obtain ⟨rfl, rfl⟩ := e1
    have := child_of hw hd' h1
    change childF (updN s.L x.d.i.path fun _ => calledN x.d m) x.d.i.parent m = some x.d.i.path at this
    rw [this]; rfl
  rw [if_neg e1]
  by_cases e2 : (dir, m) = (x.d.i.parent, x.d.i.name)
  · rw [if_pos e2]
    simp only [Prod.mk.injEq] at e2
    obtain ⟨rfl, rfl⟩ := e2
    have : childF (updN s.L x.d.i.path fun _ => calledN x.d nm) x.d.i.parent x.d.i.name = none := by
      cases hc : childF (updN s.L x.d.i.path fun _ => calledN x.d nm) x.d.i.parent x.d.i.name with
      | none => rfl
      | some q =>
        obtain ⟨u, hu, rfl, hk, hn⟩ := child_some hc
        rcases upd_mem hu with ⟨rfl, _⟩ | ⟨hu1, hu2⟩
        · exact absurd (by show _ = (_, nm); rw [← hn]; rfl) e1
        · obtain ⟨k1, k2⟩ := (isKid_iff ok.wf hu1).1 hk
          exact absurd (ok.wf.one u hu1 x.d hd k2 h1 k1 hn) hu2
    rw [this]; rfl
  rw [if_neg e2, ok.child]
  congr 1
  unfold childF updN
  refine (find_map_congr fun u hu => ?_).symm
  rcases upd_at (d' := calledN x.d nm) ok.wf.rise hd rfl hu with ⟨rfl, e⟩ | e
  · rw [e]
    refine ⟨?_, rfl⟩
    have a1 : (isKid dir (calledN x.d nm) && (calledN x.d nm).i.name == m) = false := by
      cases hh : isKid dir (calledN x.d nm) && (calledN x.d nm).i.name == m
      · rfl
      · simp only [Bool.and_eq_true, beq_iff_eq, isKid] at hh
        exact absurd (by rw [← hh.1.1, ← hh.2]; rfl) e1
    have a2 : (isKid dir x.d && x.d.i.name == m) = false := by
      cases hh : isKid dir x.d && x.d.i.name == m
      · rfl
      · simp only [Bool.and_eq_true, beq_iff_eq, isKid] at hh
        exact absurd (by rw [← hh.1.1, ← hh.2]) e2
    rw [a1, a2]
  · rw [e]; exact ⟨rfl, rfl⟩
section
variable {w0 w : World} {A : HP} {b B K : Nat} {s : SD} {y : SX} {X1 X2 : List NN} {x : NN} {t : Inf} {st rc : Int} {nm : List UInt8} {e : FA} {R : Ending → World → Prop}
section
attribute [local go_sem] F67.t10_eq
theorem call_t10 (ok : StoreOk s y) (hs : y.X = X1 ++ x :: X2) (h1 : x.d.i.path ≠ 1) (hw : Wf { s with L := updN s.L x.d.i.path fun _ => calledN x.d nm })
    (h : St w0 (Blk K (.cells [.int .u64 (x.d.i.parent : Int), .string (strOf nm)].toArray 142 (0, 0)) * (NodeB x.n 0 x.d.i x.vk x.vb * (RowU x.vk x.ks * (BlksP x.vb x.P * (StoreR b st rc s y (y.X.map kv) (X1 ++ X2) * A))))) w)
    (hd : e.ds = []) (e0 : e.ρ 0 = .pointer (some ⟨b, 0, none⟩)) (e1 : e.ρ 1 = .pointer (some ⟨x.n, 0, none⟩)) (e2 : e.ρ 2 = .string (strOf nm)) (e8 : e.ρ 8 = .int .u64 x.d.i.path) (e9 : e.ρ 9 = .pointer (some ⟨K, 0, none⟩)) :
    cwE Tryz.prog F67.t10 (fnP Tryz.prog #[.tmp 6, .tmp 7] (TurnR w0 A b st rc ({ s with L := updN s.L x.d.i.path fun _ => calledN x.d nm }, x.d.i.path, 0))) e w := by
  rw [F67.t10_eq]
  simp -dsimp -implicitDefEqProofs (disch := omega) only [go_sem, hd, e0, e1, e2, e8, e9, h.drew.cl b, h.drew.cl x.n]
  refine onV_of (v := encK (x.d.i.parent, x.d.i.name)) (by kernel_rfl) ?_
  simp -dsimp -implicitDefEqProofs (disch := omega) only [go_sem, hd, e0, e1, e2, e8, e9, h.drew.cl b, h.drew.cl x.n]
  have hcl := h.mapNodup y.C
  refine h.drew.delH (b := y.C) (x := ((x.d.i.parent, x.d.i.name) : KD)) Tryz.underlying98 lawK fun w2 h2 => ?_
  have hK := h2.drew.rowH K 2 rfl
  have hK2 := h2.rowH K 2 rfl
  simp -dsimp -implicitDefEqProofs (disch := omega) only [go_sem, hd, e0, e1, e2, e8, e9, h2.cl b, h2.cl x.n, hK2, h2.drew.cl b, hK]
  refine h2.drew.updH (b := y.C) (x := ((x.d.i.parent, nm) : KD)) Tryz.underlying98 lawK fun w3 h3 => ?_
  have hK3 := h3.rowH K 2 rfl
  simp -dsimp -implicitDefEqProofs (disch := omega) only [go_sem, hd, e0, e1, e2, e8, e9, h3.cl b, h3.cl x.n, hK3]
  refine h3.sto (b := x.n) (by simp) rfl fun w4 h4 => ?_
  simp only [List.setIfInBounds_toArray, List.set_cons_succ, List.set_cons_zero] at h4
  simp -dsimp -implicitDefEqProofs (disch := omega) only [go_sem, hd, e0, e1, e2, e8, e9]
  refine ⟨_, storeOk_call ok hs h1 hcl hw, ?_, rfl⟩
  obtain ⟨x', hx'⟩ : ∃ x' : NN, x' = { x with d := calledN x.d nm } := ⟨_, rfl⟩
  rw [← hx']
  obtain ⟨Mc, hMc⟩ : ∃ Mc, Mc = MapP encK y.C (upd ((x.d.i.parent, nm) : KD) (u64V x.d.i.path) (del ((x.d.i.parent, x.d.i.name) : KD) y.cl)) := ⟨_, rfl⟩
  have h5 : St w0 (Blk K (.cells [.int .u64 (x.d.i.parent : Int), .string (strOf nm)].toArray 142 (0, 0)) * (NodeB x.n 0 (calledN x.d nm).i x.vk x.vb * (RowU x.vk x.ks * (BlksP x.vb x.P * ((StoreB b st rc s y * (MapP encU y.N (y.X.map kv) * (Mc * (RowU y.ov (s.L.map (·.i.path)) * starL nodeP (X1 ++ X2))))) * A))))) w4 := by
    rw [hMc]; exact h4
  have q1 : nodeP x' = NodeB x.n 0 (calledN x.d nm).i x.vk x.vb * (RowU x.vk x.ks * BlksP x.vb x.P) := by rw [hx']; rfl
  have q2 : (X1 ++ x' :: X2).map kv = y.X.map kv := by rw [hs, hx']; simp [kv, calledN]
  have q3 : (updN s.L x.d.i.path fun _ => calledN x.d nm).map (·.i.path) = s.L.map (·.i.path) := upd_paths rfl
  show St w0 (StoreB b st rc s y * (MapP encU y.N ((X1 ++ x' :: X2).map kv) * (MapP encK y.C (upd ((x.d.i.parent, nm) : KD) (u64V x.d.i.path) (del ((x.d.i.parent, x.d.i.name) : KD) y.cl)) * (RowU y.ov ((updN s.L x.d.i.path fun _ => calledN x.d nm).map (·.i.path)) * starL nodeP (X1 ++ x' :: X2)))) * A) w4
  rw [← hMc, q2, q3, starL_split, q1]
  exact (h5.right).ac (by ac_rfl)
end
theorem call_any [Gives A Tabs] (ok : StoreOk s y) (hs : y.X = X1 ++ x :: X2) (hnm : nm.length ≤ 4294967296) (hw : Wf (callF s x.d nm).1) (h : St w0 (StoreQ b st rc s y * A) w) :
    Calls Tryz.prog 67 #[.pointer (some ⟨b, 0, none⟩), .pointer (some ⟨x.n, 0, none⟩), .string (strOf nm)] w (TurnR w0 A b st rc (callF s x.d nm)) := by
  have hx : x ∈ y.X := by rw [hs]; simp
  have hdm : x.d ∈ s.L := ok.perm.mem_iff.1 (List.mem_map.2 ⟨x, hx, rfl⟩)
  have h0 := h.ac (StoreQ.eq hs)
  refine F67.calls (by simp) ?_
  unfold F67.code
  simp -dsimp -implicitDefEqProofs (disch := omega) only [go_sem, h0.cl x.n]
  refine onV_of (v := encK (x.d.i.parent, nm)) (by kernel_rfl) ?_
  simp -dsimp -implicitDefEqProofs (disch := omega) only [go_sem]
  refine h0.new fun K w1 h1 => ?_
  simp -dsimp -implicitDefEqProofs (disch := omega) only [go_sem]
  simp only [encK]
  refine h1.stoAll (b := K) (cs := [.int .u64 (x.d.i.parent : Int), .string (strOf nm)]) rfl rfl (by intro v hv; simp at hv; rcases hv with rfl | rfl <;> rfl) fun w2 h2 => ?_
  have hK := h2.drew.rowH K 2 rfl
  simp -dsimp -implicitDefEqProofs (disch := omega) only [go_sem, h2.drew.cl b, hK]
  refine h2.drew.lkH (b := y.C) (x := ((x.d.i.parent, nm) : KD)) Tryz.underlying98 lawK (z := .int .u64 0) (by kernel_rfl) ?_
  rw [ok.child]
  have hl : lkV (.int .u64 0) true ((childF s.L x.d.i.parent nm).map u64V) = .tuple #[u64V ((childF s.L x.d.i.parent nm).getD 0), .bool (childF s.L x.d.i.parent nm).isSome] := lkV_get (f := u64V) (d := 0) _
  rw [hl]
  have h3 : St w0 (Blk K (.cells [.int .u64 (x.d.i.parent : Int), .string (strOf nm)].toArray 142 (0, 0)) * (NodeB x.n 0 x.d.i x.vk x.vb * (RowU x.vk x.ks * (BlksP x.vb x.P * (StoreR b st rc s y (y.X.map kv) (X1 ++ X2) * A))))) w2.drew := h2.drew
  have err : ∀ (w' : World) (k : Nat), St w0 (Blk K (.cells [.int .u64 (x.d.i.parent : Int), .string (strOf nm)].toArray 142 (0, 0)) * (NodeB x.n 0 x.d.i x.vk x.vb * (RowU x.vk x.ks * (BlksP x.vb x.P * (StoreR b st rc s y (y.X.map kv) (X1 ++ X2) * A))))) w' →
      callF s x.d nm = (s, 0, k) → TurnR w0 A b st rc (callF s x.d nm) (.returned (.tuple #[.int .u64 0, .int .i64 k])) w' := fun w' k h hm => by
    rw [hm]
    exact ⟨y, ok, h.right.ac (StoreQ.eq hs).symm, rfl⟩
  by_cases c1 : (x.d.i.path : Int) = 1
  · simp -dsimp -implicitDefEqProofs (disch := omega) only [go_sem, c1]
    exact err _ 81 h3 (by unfold callF; rw [if_pos (by omega)])
  have h1' : x.d.i.path ≠ 1 := by omega
  simp -dsimp -implicitDefEqProofs (disch := omega) only [go_sem, c1]
  refine (check_any h3 (Nat.le_trans hnm (by omega))).mono ?_
  rintro e w4 ⟨h4, rfl⟩
  cases g5 : okName nm
  case false =>
    simp only [Bool.false_eq_true, if_false]
    simp -dsimp -implicitDefEqProofs (disch := omega) only [go_sem]
    exact err _ 50 h4 (by unfold callF; rw [if_neg h1', if_pos (by simp [g5])])
  simp only [if_true]
  have good : ∀ (hq : childF s.L x.d.i.parent nm = none ∨ childF s.L x.d.i.parent nm = some x.d.i.path), callF s x.d nm = ({ s with L := updN s.L x.d.i.path fun _ => calledN x.d nm }, x.d.i.path, 0) := fun hq => by
    have e : (updN s.L x.d.i.path fun n => ⟨{ n.i with name := nm }, n.b⟩) = updN s.L x.d.i.path fun _ => calledN x.d nm := upd_fun ok.wf.rise hdm (fun n => ⟨{ n.i with name := nm }, n.b⟩)
    unfold callF
    rw [if_neg h1', if_neg (by simp [g5])]
    rcases hq with hq | hq
    · rw [hq]; simp only; rw [e]
    · rw [hq]; simp only [if_true]; rw [e]
  cases hc : childF s.L x.d.i.parent nm with
  | none =>
    rw [good (.inl hc)] at hw ⊢
    simp only [Option.isSome_none, Option.getD_none]
    simp -dsimp -implicitDefEqProofs (disch := omega) only [go_sem, c1]
    exact call_t10 ok hs h1' hw h4 (by simp -dsimp -implicitDefEqProofs only [go_sem]) (by simp -dsimp -implicitDefEqProofs only [go_sem]) (by simp -dsimp -implicitDefEqProofs only [go_sem]) (by simp -dsimp -implicitDefEqProofs only [go_sem]) (by simp -dsimp -implicitDefEqProofs only [go_sem]) (by simp -dsimp -implicitDefEqProofs only [go_sem])
  | some q =>
    simp only [Option.isSome_some, Option.getD_some]
    by_cases c2 : (q : Int) = (x.d.i.path : Int)
    · have : q = x.d.i.path := by omega
      subst this
      rw [good (.inr hc)] at hw ⊢
      simp -dsimp -implicitDefEqProofs (disch := omega) only [go_sem, c1]
      exact call_t10 ok hs h1' hw h4 (by simp -dsimp -implicitDefEqProofs only [go_sem]) (by simp -dsimp -implicitDefEqProofs only [go_sem]) (by simp -dsimp -implicitDefEqProofs only [go_sem]) (by simp -dsimp -implicitDefEqProofs only [go_sem]) (by simp -dsimp -implicitDefEqProofs only [go_sem]) (by simp -dsimp -implicitDefEqProofs only [go_sem])
    · simp -dsimp -implicitDefEqProofs (disch := omega) only [go_sem, c1, c2]
      exact err _ 82 h4 (by unfold callF; rw [if_neg h1', if_neg (by simp [g5]), hc]; simp only; rw [if_neg (by omega)])
end
section
variable {w0 w : World} {A : HP} {b B K : Nat} {s : SD} {y : SX} {X1 X2 : List NN} {x : NN} {o : OpD} {vd : Value} {e : FA} {R : Ending → World → Prop}
theorem doF_turn {d : NodeD} (hk : 1 ≤ o.kind ∧ o.kind ≤ 3) (hf : findN s.L o.path = some d) : doF s o = if o.kind = 1 then makeF s d o.node else if o.kind = 2 then delF s d else callF s d o.name := by
  unfold doF
  rw [if_neg (by omega), hf]
  simp only
  split
  · rfl
  split
  · rfl
  · rw [if_pos (by omega)]
section
attribute [local go_sem] F29.t11_eq F29.t6_eq
theorem turn_any [Gives A Tabs] (hin : OpIn o) (hk : 1 ≤ o.kind ∧ o.kind ≤ 3) (hnext : s.next < 9223372036854775808) (h : St w0 (StoreP b 0 0 s * A) w) :
    Calls Tryz.prog 29 #[.pointer (some ⟨b, 0, none⟩), .agg (opL o vd).toArray] w fun e w' => St w0 (StoreP b 0 0 (doF s o).1 * A) w' ∧ e = .returned (.tuple #[.int .u64 (doF s o).2.1, .int .i64 (doF s o).2.2]) := by
  obtain ⟨y, ok, h⟩ := h.storeO
  have hwf := do_wf ok.wf hin.ok
  refine calls_of_cwM (types := Tryz.prog.types) follows Tryz.func29 F29.code rfl (by kernel_rfl) (by show 2 ≤ 48; decide) ?_
  show cwE _ _ (fnM _ #[.tmp 4, .tmp 5] _) _ _
  unfold F29.code
  simp -dsimp -implicitDefEqProofs (disch := omega) only [go_sem]
  refine h.new fun B w1 h1 => ?_
  have h1 : St w0 (StoreQ b 0 0 s y * (opB B o vd * A)) w1 := h1.sw2
  simp -dsimp -implicitDefEqProofs (disch := omega) only [go_sem]
  refine (wlockS h1).mono ?_
  rintro e w2 ⟨h2, rfl⟩
  simp -dsimp -implicitDefEqProofs (disch := omega) only [go_sem]
  refine deferF_of ?_
  simp -dsimp -implicitDefEqProofs (disch := omega) only [go_sem, h2.drew.cl b, h2.drew.cl B]
  refine h2.drew.lkH (b := y.N) (x := (o.path : Int)) Tryz.underlying96 lawU zero_ptr ?_
  have fin : ∀ (y' : SX) (r : SD × Nat × Nat) (w' : World) (e : FA), StoreOk r.1 y' → St w0 (StoreQ b 1 (-1073741824) r.1 y' * (opB B o vd * A)) w' → doF s o = r → e.ρ 4 = .int .u64 r.2.1 → e.ρ 5 = .int .i64 r.2.2 →
      leaveD Tryz.prog [{ target := .fn (.func 64) #[], args := #[.pointer (some ⟨b, 0, none⟩)] }] .returning w' (endM Tryz.prog #[.tmp 4, .tmp 5] e fun e w' => St w0 (StoreP b 0 0 (doF s o).1 * A) w' ∧ e = .returned (.tuple #[.int .u64 (doF s o).2.1, .int .i64 (doF s o).2.2])) := fun y' r w' e ok' h' hr e4 e5 => by
    refine wunlockS h' fun w7 h7 => ?_
    refine endT2 ?_
    rw [e4, e5, hr]
    exact ⟨h7.drop2.ent (Ent.sep (StoreP.shut ok') (Ent.rfl' A)), rfl⟩
  cases hf : findN s.L o.path with
  | none =>
    rw [ok.none hf]
    have hr : doF s o = (s, 0, 80) := by unfold doF; rw [if_neg (by omega), hf]
    simp -dsimp -implicitDefEqProofs (disch := omega) only [go_sem, lkV]
    exact fin y (s, 0, 80) _ _ ok h2.drew hr (by simp -dsimp -implicitDefEqProofs only [go_sem]) (by simp -dsimp -implicitDefEqProofs only [go_sem])
  | some d =>
    obtain ⟨X1, x, X2, hs, rfl, hx, hl⟩ := ok.some hf
    rw [hl]
    have hr := doF_turn (s := s) (o := o) hk hf
    have h3 := h2.drew
    rcases Nat.lt_or_ge o.kind 2 with hk1 | hk1
    · have k1 : (o.kind : Int) = 1 := by omega
      rw [if_pos (by omega)] at hr
      have hrow := h3.rowAtH B 4 13 (by simp)
      simp only [List.drop_succ_cons, List.drop_zero, List.take_succ_cons, List.take_zero] at hrow
      simp -dsimp -implicitDefEqProofs (disch := omega) only [go_sem, lkV, h3.cl B, k1, hrow]
      rw [hr] at hwf
      refine (makes_any (t := o.node) ok hs ⟨hin.ok.mode, hin.nname, hin.uid, hin.gid, hin.muid⟩ hnext hwf h3).mono ?_
      rintro e w5 ⟨y', ok', h5, rfl⟩
      simp -dsimp -implicitDefEqProofs (disch := omega) only [go_sem]
      exact fin y' _ _ _ ok' h5 hr (by simp -dsimp -implicitDefEqProofs only [go_sem]) (by simp -dsimp -implicitDefEqProofs only [go_sem])
    have k1 : ¬ (o.kind : Int) = 1 := by omega
    rw [if_neg (by omega)] at hr
    rcases Nat.lt_or_ge o.kind 3 with hk2 | hk2
    · have k2 : (o.kind : Int) = 2 := by omega
      rw [if_pos (by omega)] at hr
      simp -dsimp -implicitDefEqProofs (disch := omega) only [go_sem, lkV, h3.cl B, k1, k2]
      rw [hr] at hwf
      refine (drop_any ok hs hwf h3).mono ?_
      rintro e w5 ⟨y', ok', h5, rfl⟩
      simp -dsimp -implicitDefEqProofs (disch := omega) only [go_sem]
      exact fin y' _ _ _ ok' h5 hr (by simp -dsimp -implicitDefEqProofs only [go_sem]) (by simp -dsimp -implicitDefEqProofs only [go_sem])
    have k2 : ¬ (o.kind : Int) = 2 := by omega
    rw [if_neg (by omega)] at hr
    simp -dsimp -implicitDefEqProofs (disch := omega) only [go_sem, lkV, h3.cl B, k1, k2]
    rw [hr] at hwf
    refine (call_any ok hs hin.name hwf h3).mono ?_
    rintro e w5 ⟨y', ok', h5, rfl⟩
    simp -dsimp -implicitDefEqProofs (disch := omega) only [go_sem]
    exact fin y' _ _ _ ok' h5 hr (by simp -dsimp -implicitDefEqProofs only [go_sem]) (by simp -dsimp -implicitDefEqProofs only [go_sem])
end
section
attribute [local go_sem] F10.t2_eq F10.t6_eq F10.t30_eq F10.t28_eq F10.t11_eq
theorem do_t11 [Gives A Tabs] [Gives A (RdB vd o.data)] (hin : OpIn o) (hk : 4 ≤ o.kind ∧ o.kind ≤ 7) (h : St w0 (StoreP b 0 0 s * (opB B o vd * A)) w)
    (hd : e.ds = []) (e0 : e.ρ 0 = .pointer (some ⟨b, 0, none⟩)) (e3 : e.ρ 3 = .pointer (some ⟨B, 0, none⟩))
    (hR : ∀ w', St w0 (StoreP b 0 0 (doF s o).1 * A) w' → R (.returned (.tuple #[.int .u64 (doF s o).2.1, .int .i64 (doF s o).2.2])) w') :
    cwE Tryz.prog F10.t11 (fnM Tryz.prog #[.tmp 4, .tmp 5] R) e w := by
  obtain ⟨y, ok, h⟩ := h.storeO
  rw [F10.t11_eq]
  simp -dsimp -implicitDefEqProofs (disch := omega) only [go_sem, hd, e0, e3]
  refine (rlockS h).mono ?_
  rintro e' w1 ⟨h1, rfl⟩
  simp -dsimp -implicitDefEqProofs (disch := omega) only [go_sem, hd, e0, e3]
  refine deferF_of ?_
  simp -dsimp -implicitDefEqProofs (disch := omega) only [go_sem, hd, e0, e3, h1.drew.cl b, h1.drew.cl B]
  refine h1.drew.lkH (b := y.N) (x := (o.path : Int)) Tryz.underlying96 lawU zero_ptr ?_
  cases hf : findN s.L o.path with
  | none =>
    rw [ok.none hf]
    have hr : doF s o = (s, 0, 80) := by unfold doF; rw [if_neg (by omega), hf]
    rw [hr] at hR
    simp -dsimp -implicitDefEqProofs (disch := omega) only [go_sem, lkV, hd, e0, e3]
    refine runlockS h1.drew fun w2 h2 => ?_
    refine endT2 ?_
    have := hR w2 (h2.drop2.ent (Ent.sep (StoreP.shut ok) (Ent.rfl' A)))
    simp -dsimp -implicitDefEqProofs only [go_sem]
    exact this
  | some d =>
    obtain ⟨X1, x, X2, hs, rfl, hx, hl⟩ := ok.some hf
    rw [hl]
    simp -dsimp -implicitDefEqProofs (disch := omega) only [go_sem, lkV, hd, e0, e3]
    exact do_t16 (vd := vd) (B := B) hin hk ok hs hf (h1.drew.ac (StoreQ.eq hs)) (by simp -dsimp -implicitDefEqProofs only [go_sem, hd, e0]) (by simp -dsimp -implicitDefEqProofs only [go_sem, e3]) (by simp -dsimp -implicitDefEqProofs only [go_sem]) hR
end
section
attribute [local go_sem] F10.t2_eq F10.t6_eq F10.t30_eq F10.t28_eq F10.t16_eq
theorem do_any [Gives A Tabs] [Gives A (RdB vd o.data)] (hin : OpIn o) (hkind : o.kind < 256) (hnext : s.next < 9223372036854775808) (h : St w0 (StoreP b 0 0 s * A) w) :
    Calls Tryz.prog 10 #[.pointer (some ⟨b, 0, none⟩), .agg (opL o vd).toArray] w fun e w' => St w0 (StoreP b 0 0 (doF s o).1 * A) w' ∧ e = .returned (.tuple #[.int .u64 (doF s o).2.1, .int .i64 (doF s o).2.2]) := by
  refine calls_of_cwM (types := Tryz.prog.types) follows Tryz.func10 F10.code rfl (by kernel_rfl) (by show 2 ≤ 82; decide) ?_
  show cwE _ _ (fnM _ #[.tmp 4, .tmp 5] _) _ _
  unfold F10.code
  simp -dsimp -implicitDefEqProofs (disch := omega) only [go_sem]
  refine h.new fun B w1 h1 => ?_
  have h1 : St w0 (StoreP b 0 0 s * (opB B o vd * A)) w1 := h1.sw2
  have hrow := h1.rowH B 20 rfl
  by_cases hk : 1 ≤ o.kind ∧ o.kind ≤ 3
  · have turn : ∀ (R : Ending → World → Prop), (∀ w', St w0 (StoreP b 0 0 (doF s o).1 * A) w' → R (.returned (.tuple #[.int .u64 (doF s o).2.1, .int .i64 (doF s o).2.2])) w') → Calls Tryz.prog 29 #[.pointer (some ⟨b, 0, none⟩), .agg (opL o vd).toArray] w1 R := fun R hR => by
      refine (turn_any (vd := vd) hin hk hnext h1).mono ?_
      rintro e w2 ⟨h2, rfl⟩
      exact hR _ h2.drop2
    rcases (by omega : o.kind = 1 ∨ o.kind = 2 ∨ o.kind = 3) with k | k | k
    · have k1 : (o.kind : Int) = 1 := by omega
      simp -dsimp -implicitDefEqProofs (disch := omega) only [go_sem, h1.cl B, k1, hrow]
      refine (turn_any (vd := vd) hin hk hnext h1).mono ?_
      rintro e w2 ⟨h2, rfl⟩
      simp -dsimp -implicitDefEqProofs (disch := omega) only [go_sem]
      refine endT2 ?_
      simp -dsimp -implicitDefEqProofs only [go_sem]
      exact h2.drop2
    · have k1 : ¬ (o.kind : Int) = 1 := by omega
      have k2 : (o.kind : Int) = 2 := by omega
      simp -dsimp -implicitDefEqProofs (disch := omega) only [go_sem, h1.cl B, k1, k2, hrow]
      refine (turn_any (vd := vd) hin hk hnext h1).mono ?_
      rintro e w2 ⟨h2, rfl⟩
      simp -dsimp -implicitDefEqProofs (disch := omega) only [go_sem]
      refine endT2 ?_
      simp -dsimp -implicitDefEqProofs only [go_sem]
      exact h2.drop2
    · have k1 : ¬ (o.kind : Int) = 1 := by omega
      have k2 : ¬ (o.kind : Int) = 2 := by omega
      have k3 : (o.kind : Int) = 3 := by omega
      simp -dsimp -implicitDefEqProofs (disch := omega) only [go_sem, h1.cl B, k1, k2, k3, hrow]
      refine (turn_any (vd := vd) hin hk hnext h1).mono ?_
      rintro e w2 ⟨h2, rfl⟩
      simp -dsimp -implicitDefEqProofs (disch := omega) only [go_sem]
      refine endT2 ?_
      simp -dsimp -implicitDefEqProofs only [go_sem]
      exact h2.drop2
  have k1 : ¬ (o.kind : Int) = 1 := by omega
  have k2 : ¬ (o.kind : Int) = 2 := by omega
  have k3 : ¬ (o.kind : Int) = 3 := by omega
  by_cases hk4 : 4 ≤ o.kind ∧ o.kind ≤ 7
  case neg =>
    have hr : doF s o = (s, 0, 1) := by unfold doF; rw [if_pos (by omega)]
    have k4 : ¬ (o.kind : Int) = 4 := by omega
    have k5 : ¬ (o.kind : Int) = 5 := by omega
    have k6 : ¬ (o.kind : Int) = 6 := by omega
    have k7 : ¬ (o.kind : Int) = 7 := by omega
    rw [hr]
    simp -dsimp -implicitDefEqProofs (disch := omega) only [go_sem, h1.cl B, k1, k2, k3, k4, k5, k6, k7]
    refine endT2 ?_
    simp -dsimp -implicitDefEqProofs only [go_sem]
    exact h1.drop2
  have go : ∀ (e : FA), e.ds = [] → e.ρ 0 = .pointer (some ⟨b, 0, none⟩) → e.ρ 3 = .pointer (some ⟨B, 0, none⟩) → cwE Tryz.prog F10.t11 (fnM Tryz.prog #[.tmp 4, .tmp 5] fun e w' => St w0 (StoreP b 0 0 (doF s o).1 * A) w' ∧ e = .returned (.tuple #[.int .u64 (doF s o).2.1, .int .i64 (doF s o).2.2])) e w1 := fun e hd e0 e3 =>
    do_t11 hin hk4 h1 hd e0 e3 fun w' h' => ⟨h', rfl⟩
  rcases (by omega : o.kind = 4 ∨ o.kind = 5 ∨ o.kind = 6 ∨ o.kind = 7) with k | k | k | k
  · have k4 : (o.kind : Int) = 4 := by omega
    simp -dsimp -implicitDefEqProofs (disch := omega) only [go_sem, h1.cl B, k1, k2, k3, k4]
    exact go _ (by simp -dsimp -implicitDefEqProofs only [go_sem]) (by simp -dsimp -implicitDefEqProofs only [go_sem]) (by simp -dsimp -implicitDefEqProofs only [go_sem])
  · have k4 : ¬ (o.kind : Int) = 4 := by omega
    have k5 : (o.kind : Int) = 5 := by omega
    simp -dsimp -implicitDefEqProofs (disch := omega) only [go_sem, h1.cl B, k1, k2, k3, k4, k5]
    exact go _ (by simp -dsimp -implicitDefEqProofs only [go_sem]) (by simp -dsimp -implicitDefEqProofs only [go_sem]) (by simp -dsimp -implicitDefEqProofs only [go_sem])
  · have k4 : ¬ (o.kind : Int) = 4 := by omega
    have k5 : ¬ (o.kind : Int) = 5 := by omega
    have k6 : (o.kind : Int) = 6 := by omega
    simp -dsimp -implicitDefEqProofs (disch := omega) only [go_sem, h1.cl B, k1, k2, k3, k4, k5, k6]
    exact go _ (by simp -dsimp -implicitDefEqProofs only [go_sem]) (by simp -dsimp -implicitDefEqProofs only [go_sem]) (by simp -dsimp -implicitDefEqProofs only [go_sem])
  · have k4 : ¬ (o.kind : Int) = 4 := by omega
    have k5 : ¬ (o.kind : Int) = 5 := by omega
    have k6 : ¬ (o.kind : Int) = 6 := by omega
    have k7 : (o.kind : Int) = 7 := by omega
    simp -dsimp -implicitDefEqProofs (disch := omega) only [go_sem, h1.cl B, k1, k2, k3, k4, k5, k6, k7]
    exact go _ (by simp -dsimp -implicitDefEqProofs only [go_sem]) (by simp -dsimp -implicitDefEqProofs only [go_sem]) (by simp -dsimp -implicitDefEqProofs only [go_sem])
end
end
structure CfgD where
  users : List UInt8
  owner : List UInt8
  group : List UInt8
  perm : Nat
  v4 : Int
  v5 : Int
  v6 : Int
  v7 : Int
  nodes : Int
  v9 : Int
abbrev cfgL (c : CfgD) : List Value := [.string (strOf c.users), .string (strOf c.owner), .string (strOf c.group), .int .u32 c.perm, .int .u64 c.v4, .int .u32 c.v5, .int .i64 c.v6, .int .i64 c.v7, .int .i64 c.nodes, .int .i64 c.v9]
def rootD (c : CfgD) : NodeD := ⟨⟨1, 1, [47], 2147483648 ||| c.perm, c.owner, c.group, c.owner, 0, 0, 0, 0, 0, 0⟩, []⟩
def newF (c : CfgD) : Except Nat SD :=
  if c.nodes < 1 ∨ 4096 < c.nodes ∨ ¬ c.perm &&& 4294966784 = 0 then .error 1
  else if c.owner = [] ∨ c.group = [] ∨ userF c.owner = false ∨ userF c.group = false then .error 1
  else .ok ⟨c.nodes.toNat, 2, [rootD c]⟩
structure CfgIn (c : CfgD) : Prop where
  perm : c.perm < 4294967296
  n0 : -9223372036854775808 ≤ c.nodes
  n1 : c.nodes ≤ 9223372036854775807
  owner : c.owner.length ≤ 4294967296
  group : c.group.length ≤ 4294967296
theorem bPerm {P : Program} {T : TypeId} {m : Nat} (hm : m < 4294967296) : binV P .andNot T (.int .u32 m) (.int .u32 511) = some (.int .u32 ((m &&& 4294966784 : Nat) : Int)) := by
  rw [bNot32 hm (by omega)]
  rfl
theorem bDirO {P : Program} {T : TypeId} {m : Nat} (hm : m < 4294967296) : binV P .or T (.int .u32 2147483648) (.int .u32 m) = some (.int .u32 ((2147483648 ||| m : Nat) : Int)) := by
  rw [bOr32 hm (by omega)]
  rfl
theorem root_wf {c : CfgD} (hc : CfgIn c) (h1 : ¬ (c.nodes < 1 ∨ 4096 < c.nodes)) (g1 : userF c.owner = true) (g2 : userF c.group = true) : Wf ⟨c.nodes.toNat, 2, [rootD c]⟩ := by
  have hm : 2147483648 ||| c.perm < 4294967296 := Nat.or_lt_two_pow (n := 32) (by decide) hc.perm
  have hd : dirF (2147483648 ||| c.perm) = true := by unfold dirF; exact decide_eq_true Nat.left_le_or
  have u1 := userF_len g1
  have u2 := userF_len g2
  refine ⟨?_, by simp, ?_, ⟨rootD c, rfl, rfl, hd⟩, ?_, ?_, by simp; omega, by simp; omega⟩
  · intro n hn
    simp only [List.mem_cons, List.not_mem_nil, or_false] at hn
    subst hn
    exact ⟨rfl, by simp [rootD], rfl, hm, by simp [rootD], by simp [rootD], by simp [rootD], by simp [rootD], by simp [rootD], fun _ => rfl, by simp [rootD], u1, u2, u1⟩
  · intro n hn
    simp only [List.mem_cons, List.not_mem_nil, or_false] at hn
    subst hn
    exact ⟨by simp [rootD], by simp [rootD]⟩
  · intro n hn h
    simp only [List.mem_cons, List.not_mem_nil, or_false] at hn
    subst hn
    exact absurd rfl h
  · intro a ha b hb h
    simp only [List.mem_cons, List.not_mem_nil, or_false] at ha
    subst ha
    exact absurd rfl h
section
variable {w0 w : World} {A : HP} {c : CfgD}
section
attribute [local go_sem] F18.t5_eq F18.t3_eq
theorem new_any [Gives A Tabs] (hc : CfgIn c) (h : St w0 A w) :
    Calls Tryz.prog 18 #[.agg (cfgL c).toArray] w fun e w' => match newF c with
      | .error k => St w0 A w' ∧ e = .returned (.tuple #[.pointer none, .int .i64 k])
      | .ok s => ∃ b, St w0 (StoreP b 0 0 s * A) w' ∧ e = .returned (.tuple #[.pointer (some ⟨b, 0, none⟩), .int .i64 0]) := by
  refine F18.calls (by simp) ?_
  unfold F18.code
  simp -dsimp -implicitDefEqProofs (disch := omega) only [go_sem]
  refine h.new fun B w1 h1 => ?_
  have hp := bPerm (P := Tryz.prog) (T := 33) hc.perm
  by_cases c1 : c.nodes < 1
  · have hr : newF c = .error 1 := by unfold newF; rw [if_pos (.inl c1)]
    rw [hr]
    simp -dsimp -implicitDefEqProofs (disch := omega) only [go_sem, h1.cl B, c1, hp]
    exact h1.right
  by_cases c2 : 4096 < c.nodes
  · have hr : newF c = .error 1 := by unfold newF; rw [if_pos (.inr (.inl c2))]
    rw [hr]
    simp -dsimp -implicitDefEqProofs (disch := omega) only [go_sem, h1.cl B, c1, c2, hp]
    exact h1.right
  by_cases c3 : ((c.perm &&& 4294966784 : Nat) : Int) = 0
  case neg =>
    have hr : newF c = .error 1 := by unfold newF; rw [if_pos (.inr (.inr (by omega)))]
    rw [hr]
    simp -dsimp -implicitDefEqProofs (disch := omega) only [go_sem, h1.cl B, c1, c2, hp, c3]
    exact h1.right
  have hn1 : ¬ (c.nodes < 1 ∨ 4096 < c.nodes ∨ ¬ c.perm &&& 4294966784 = 0) := by omega
  by_cases c4 : c.owner = []
  · have hr : newF c = .error 1 := by unfold newF; rw [if_neg hn1, if_pos (.inl c4)]
    rw [hr]
    have e4 : decide (c.owner = []) = true := decide_eq_true c4
    simp -dsimp -implicitDefEqProofs (disch := omega) only [go_sem, h1.cl B, c1, c2, hp, c3, e4]
    exact h1.right
  by_cases c5 : c.group = []
  · have hr : newF c = .error 1 := by unfold newF; rw [if_neg hn1, if_pos (.inr (.inl c5))]
    rw [hr]
    have e5 : decide (c.group = []) = true := decide_eq_true c5
    simp -dsimp -implicitDefEqProofs (disch := omega) only [go_sem, h1.cl B, c1, c2, hp, c3, c4, e5]
    exact h1.right
  simp -dsimp -implicitDefEqProofs (disch := omega) only [go_sem, h1.cl B, c1, c2, hp, c3, c4, c5]
  refine (mayUser_any h1 (Nat.le_trans hc.owner (by omega))).mono ?_
  rintro e w2 ⟨h2, rfl⟩
  cases g1 : userF c.owner
  case false =>
    have hr : newF c = .error 1 := by unfold newF; rw [if_neg hn1, if_pos (.inr (.inr (.inl g1)))]
    rw [hr]
    simp -dsimp -implicitDefEqProofs (disch := omega) only [go_sem]
    exact h2.right
  simp -dsimp -implicitDefEqProofs (disch := omega) only [go_sem, h2.cl B]
  refine (mayUser_any h2 (Nat.le_trans hc.group (by omega))).mono ?_
  rintro e w3 ⟨h3, rfl⟩
  cases g2 : userF c.group
  case false =>
    have hr : newF c = .error 1 := by unfold newF; rw [if_neg hn1, if_pos (.inr (.inr (.inr g2)))]
    rw [hr]
    simp -dsimp -implicitDefEqProofs (disch := omega) only [go_sem]
    exact h3.right
  have hr : newF c = .ok ⟨c.nodes.toNat, 2, [rootD c]⟩ := by
    unfold newF
    rw [if_neg hn1, if_neg (by simp [c4, c5, g1, g2])]
  rw [hr]
  have ho := bDirO (P := Tryz.prog) (T := 33) hc.perm
  simp -dsimp -implicitDefEqProofs (disch := omega) only [go_sem, h3.cl B, ho]
  refine onV_of (v := .agg (infL (rootD c).i).toArray) (by kernel_rfl) ?_
  simp -dsimp -implicitDefEqProofs (disch := omega) only [go_sem]
  refine onV_of (v := .agg (nodeC 0 (rootD c).i (.slice none 0 0) (.slice none 0 0))) (by kernel_rfl) ?_
  simp -dsimp -implicitDefEqProofs (disch := omega) only [go_sem]
  refine h3.new fun M w4 h4 => ?_
  simp -dsimp -implicitDefEqProofs (disch := omega) only [go_sem, h4.cl B]
  refine h4.makeMap (enc := encU) fun N w5 h5 => ?_
  simp -dsimp -implicitDefEqProofs (disch := omega) only [go_sem, h5.cl B]
  refine h5.updH (b := N) (x := (1 : Int)) Tryz.underlying96 lawU fun w6 h6 => ?_
  simp -dsimp -implicitDefEqProofs (disch := omega) only [go_sem, h6.cl B]
  refine h6.lit (t := 97) (n := 1) (cells := [u64V 1]) rowTy_u64 rfl (by decide) (by decide) fun v7 w7 h7 => ?_
  obtain ⟨a7, c7, rfl, _⟩ := h7.rowForm v7
  simp -dsimp -implicitDefEqProofs (disch := omega) only [go_sem, h7.cl B]
  refine h7.makeMap (enc := encK) fun C w8 h8 => ?_
  simp -dsimp -implicitDefEqProofs (disch := omega) only [go_sem, h8.cl B]
  refine onV_of (v := .agg (storeC 0 0 c.nodes.toNat 2 (.map (some N)) (.slice a7 1 c7) (.map (some C)))) ?_ ?_
  · have hn' : Value.int .i64 c.nodes = .int .i64 ((c.nodes.toNat : Nat) : Int) := by
      congr 1
      omega
    rw [hn']
    rfl
  simp -dsimp -implicitDefEqProofs (disch := omega) only [go_sem]
  refine h8.new fun b w9 h9 => ?_
  simp -dsimp -implicitDefEqProofs (disch := omega) only [go_sem]
  have hw := root_wf hc (by omega) g1 g2
  have ok : StoreOk ⟨c.nodes.toNat, 2, [rootD c]⟩ ⟨N, C, .slice a7 1 c7, [⟨rootD c, M, .slice none 0 0, .slice none 0 0, [], []⟩], []⟩ := by
    refine ⟨hw, List.Perm.refl _, fun z hz => ?_, fun z hz => ?_, fun dir nm => ?_⟩
    · simp only [List.mem_cons, List.not_mem_nil, or_false] at hz
      subst hz; rfl
    · simp only [List.mem_cons, List.not_mem_nil, or_false] at hz
      subst hz
      exact ⟨by simp, by simp, fun k _ => by simp [byteAt, rootD]⟩
    · have : isKid dir (rootD c) = false := by simp [isKid, rootD]
      simp [lk, childF, List.find?, this]
  have h10 := (h9.nilR 34 1).nilR 136 1
  have h11 := h10.ent (Ent.embL _)
  have h12 := h11.ent (Ent.embL _)
  have h13 : St w0 (Blk B (.cells (cfgL c).toArray 36 (0, 0)) * (Blk b (.cells (storeC 0 0 c.nodes.toNat 2 (.map (some N)) (.slice a7 1 c7) (.map (some C))) 100 (0, 0)) * (MapP encU N (upd (1 : Int) (.pointer (some ⟨M, 0, none⟩)) []) * (MapP encK C [] * (RowO 34 1 (.slice a7 1 c7) 1 [u64V 1] *
      (Blk M (.cells (nodeC 0 (rootD c).i (.slice none 0 0) (.slice none 0 0)) 104 (0, 0)) * (RowO 34 1 (.slice none 0 0) 0 [] * (RowO 136 1 (.slice none 0 0) 0 [] * EmpH)) * EmpH)))) * A)) w9 := h12.ac (by ac_rfl)
  have h14 : St w0 (StoreQ b 0 0 ⟨c.nodes.toNat, 2, [rootD c]⟩ ⟨N, C, .slice a7 1 c7, [⟨rootD c, M, .slice none 0 0, .slice none 0 0, [], []⟩], []⟩ * A) w9 := h13.right
  exact ⟨b, h14.ent (Ent.sep (StoreP.shut ok) (Ent.rfl' A)), rfl⟩
end
end
abbrev ann : List UInt8 := [97, 110, 110]
abbrev staff : List UInt8 := [115, 116, 97, 102, 102]
def storeCfg (most : Int) : CfgD := ⟨[], ann, staff, 493, 0, 0, 0, 0, most, 0⟩
def storeF (n : Nat) : SD := ⟨n, 2, [rootD (storeCfg n)]⟩
theorem storeCfg_in {most : Int} (h : -9223372036854775808 ≤ most ∧ most ≤ 9223372036854775807) : CfgIn (storeCfg most) := ⟨by show (493 : Nat) < _; decide, h.1, h.2, by show ann.length ≤ _; decide, by show staff.length ≤ _; decide⟩
theorem newF_store {n : Nat} (h : 1 ≤ n ∧ n ≤ 4096) : newF (storeCfg n) = .ok (storeF n) := by
  unfold newF
  have h0 : 493 &&& 4294966784 = 0 := by decide
  have g1 : userF ann = true := by decide
  have g2 : userF staff = true := by decide
  have e1 : ¬ ((storeCfg n).nodes < 1 ∨ 4096 < (storeCfg n).nodes ∨ ¬ (storeCfg n).perm &&& 4294966784 = 0) := by
    show ¬ ((n : Int) < 1 ∨ 4096 < (n : Int) ∨ ¬ 493 &&& 4294966784 = 0)
    rw [h0]; omega
  have e2 : ¬ ((storeCfg n).owner = [] ∨ (storeCfg n).group = [] ∨ userF (storeCfg n).owner = false ∨ userF (storeCfg n).group = false) := by
    show ¬ (ann = [] ∨ staff = [] ∨ userF ann = false ∨ userF staff = false)
    rw [g1, g2]; decide
  rw [if_neg e1, if_neg e2]
  rfl
section
variable {w0 w : World} {A : HP}
section
attribute [local go_sem] F8.t4_eq
theorem store_any [Gives A Tabs] {n : Nat} (hn : 1 ≤ n ∧ n ≤ 4096) (h : St w0 A w) :
    Calls Tryz.prog 8 #[.int .i64 n] w fun e w' => ∃ b, St w0 (StoreP b 0 0 (storeF n) * A) w' ∧ e = .returned (.pointer (some ⟨b, 0, none⟩)) := by
  refine F8.calls (by simp) ?_
  unfold F8.code
  simp -dsimp -implicitDefEqProofs (disch := omega) only [go_sem]
  refine onV_of (v := .agg (cfgL (storeCfg n)).toArray) (by kernel_rfl) ?_
  simp -dsimp -implicitDefEqProofs (disch := omega) only [go_sem]
  refine (new_any (c := storeCfg n) (storeCfg_in (by omega)) h).mono ?_
  intro e w1 hq
  rw [newF_store hn] at hq
  obtain ⟨b, h1, rfl⟩ := hq
  simp -dsimp -implicitDefEqProofs (disch := omega) only [go_sem]
  exact ⟨b, h1, rfl⟩
def makF (p : Nat) (nm : List UInt8) (m : Nat) : OpD := ⟨1, p, nm.take 0, 0, ⟨0, 0, nm, m, ann, staff, ann, 0, 0, 0, 0, 0, 0⟩, 0, [], 0⟩
end
theorem mak_any (h : St w0 A w) {p m : Nat} {nm : List UInt8} :
    Calls Tryz.prog 23 #[.int .u64 p, .string (strOf nm), .int .u32 m] w fun e w' => St w0 A w' ∧ e = .returned (.agg (opL (makF p nm m) (.slice none 0 0)).toArray) := by
  refine F23.calls (by simp) ?_
  unfold F23.code
  simp -dsimp -implicitDefEqProofs (disch := omega) only [go_sem]
  refine h.new fun B w1 h1 => ?_
  simp -dsimp -implicitDefEqProofs (disch := omega) only [go_sem]
  refine onV_of (v := .agg (infL (makF p nm m).node).toArray) (by kernel_rfl) ?_
  simp -dsimp -implicitDefEqProofs (disch := omega) only [go_sem]
  refine onV_of (v := .agg (opL (makF p nm m) (.slice none 0 0)).toArray) (by kernel_rfl) ?_
  simp -dsimp -implicitDefEqProofs (disch := omega) only [go_sem]
  refine h1.stoAll (b := B) (cs := opL (makF p nm m) (.slice none 0 0)) rfl rfl (by intro v hv; simp only [opL, List.mem_cons, List.not_mem_nil, or_false] at hv; rcases hv with rfl | rfl | rfl | rfl | rfl | rfl | rfl | rfl | rfl | rfl | rfl | rfl | rfl | rfl | rfl | rfl | rfl | rfl | rfl | rfl <;> rfl) fun w2 h2 => ?_
  simp -dsimp -implicitDefEqProofs (disch := omega) only [go_sem]
  refine resC_1 (a := ⟨B, 0, none⟩) (v := .agg (opL (makF p nm m) (.slice none 0 0)).toArray) (by simp -dsimp -implicitDefEqProofs only [go_sem]) (run_loadVar_row fact_aggSz_45 (h2.rowH B 20 rfl)) ?_
  exact ⟨h2.right, rfl⟩
end
abbrev o1 : OpD := makF 1 [97] 2147484096
abbrev o2 : OpD := makF 2 [98] 384
abbrev o3 : OpD := makF 2 [99] 384
abbrev o4 : OpD := ⟨6, 3, [], 0, infZ, 250, [1, 2, 3, 4, 5, 6], 0⟩
abbrev o5 : OpD := ⟨6, 3, [], 0, infZ, 250, [1, 2, 3, 4, 5, 6, 7], 0⟩
def s0 : SD := storeF 3
def s1 : SD := (doF s0 o1).1
def s2 : SD := (doF s1 o2).1
def s4 : SD := (doF s2 o4).1
theorem r1 : (doF s0 o1).2 = (2, 0) := by decide
theorem r2 : (doF s1 o2).2 = (3, 0) := by decide
theorem r3 : doF s2 o2 = (s2, 0, 82) := by rfl
theorem r4 : doF s2 o3 = (s2, 0, 83) := by rfl
theorem r5 : (doF s2 o4).2 = (3, 0) := by decide
theorem r6 : doF s4 o5 = (s4, 0, 84) := by rfl
theorem r7 : readS s4 3 248 4 = [0, 0, 1, 2] := by decide
theorem r8 : (toldI s4 3).length = 256 ∧ (toldI s4 3).parent = 2 ∧ (toldI s4 3).name = [98] ∧ (findN s4.L 3).isSome = true ∧ s4.L.length = 3 := by decide
theorem mak_in {p m : Nat} {nm : List UInt8} (hm : m < 4294967296) (hn : nm.length ≤ 4294967296) : OpIn (makF p nm m) :=
  ⟨⟨hm, by show (0 : Nat) < _; decide, by show (0 : Nat) < _; decide⟩, by show (0 : Nat) < _; decide, by show (0 : Nat) < _; decide, by show _ ≤ (0 : Int); decide, by show (0 : Int) ≤ _; decide, by show (0 : Nat) ≤ _; decide, by show (nm.take 0).length ≤ _; simp, hn, by show ann.length ≤ _; decide, by show staff.length ≤ _; decide, by show ann.length ≤ _; decide⟩
section
variable {w0 w : World} {A : HP}
section
attribute [local go_sem] F5.t11_eq F5.t4_eq
theorem works_any [Gives A Tabs] (h : St w0 A w) : Calls Tryz.prog 5 #[] w fun e w' => St w0 A w' ∧ e = .returned (.bool true) := by
  refine F5.calls (by simp) ?_
  unfold F5.code
  have hN := h.nilR 5 1
  haveI gN : Gives (RowO 5 1 (.slice none 0 0) 0 [] * A) (RdB (.slice none 0 0) []) := ⟨(Ent.left _ _).trans (RowO.reads _ _ _ _ _)⟩
  haveI g1 : Gives (RowO 5 1 (.slice none 0 0) 0 [] * A) (RdB (.slice none 0 0) o1.data) := gN
  haveI g2 : Gives (RowO 5 1 (.slice none 0 0) 0 [] * A) (RdB (.slice none 0 0) o2.data) := gN
  haveI g3 : Gives (RowO 5 1 (.slice none 0 0) 0 [] * A) (RdB (.slice none 0 0) o3.data) := gN
  simp -dsimp -implicitDefEqProofs (disch := omega) only [go_sem]
  refine (store_any (n := 3) (by decide) hN).mono ?_
  rintro e w1 ⟨b, h1, rfl⟩
  simp -dsimp -implicitDefEqProofs (disch := omega) only [go_sem]
  refine (next_any h1).mono ?_
  rintro e w2 ⟨h2, rfl⟩
  simp -dsimp -implicitDefEqProofs (disch := omega) only [go_sem]
  refine (mak_any (p := 1) (nm := [97]) (m := 2147484096) h2).mono ?_
  rintro e w3 ⟨h3, rfl⟩
  simp -dsimp -implicitDefEqProofs (disch := omega) only [go_sem]
  refine (do_any (o := o1) (vd := .slice none 0 0) (mak_in (by decide) (by decide)) (by decide) (by decide) h3).mono ?_
  rintro e w4 ⟨h4, rfl⟩
  have h4 : St w0 (StoreP b 0 0 s1 * (RowO 5 1 (.slice none 0 0) 0 [] * A)) w4 := h4
  rw [show (doF (storeF 3) o1).2 = (2, 0) from r1]
  simp -dsimp -implicitDefEqProofs (disch := omega) only [go_sem]
  refine (mak_any (p := 2) (nm := [98]) (m := 384) h4).mono ?_
  rintro e w5 ⟨h5, rfl⟩
  simp -dsimp -implicitDefEqProofs (disch := omega) only [go_sem]
  refine (do_any (o := o2) (vd := .slice none 0 0) (mak_in (by decide) (by decide)) (by decide) (by decide) h5).mono ?_
  rintro e w6 ⟨h6, rfl⟩
  have h6 : St w0 (StoreP b 0 0 s2 * (RowO 5 1 (.slice none 0 0) 0 [] * A)) w6 := h6
  rw [r2]
  simp -dsimp -implicitDefEqProofs (disch := omega) only [go_sem]
  refine (mak_any (p := 2) (nm := [98]) (m := 384) h6).mono ?_
  rintro e w7 ⟨h7, rfl⟩
  simp -dsimp -implicitDefEqProofs (disch := omega) only [go_sem]
  refine (do_any (o := o2) (vd := .slice none 0 0) (mak_in (by decide) (by decide)) (by decide) (by decide) h7).mono ?_
  rintro e w8 ⟨h8, rfl⟩
  rw [r3] at h8 ⊢
  simp -dsimp -implicitDefEqProofs (disch := omega) only [go_sem]
  refine (mak_any (p := 2) (nm := [99]) (m := 384) h8).mono ?_
  rintro e w9 ⟨h9, rfl⟩
  simp -dsimp -implicitDefEqProofs (disch := omega) only [go_sem]
  refine (do_any (o := o3) (vd := .slice none 0 0) (mak_in (by decide) (by decide)) (by decide) (by decide) h9).mono ?_
  rintro e w10 ⟨h10, rfl⟩
  rw [r4] at h10 ⊢
  have hn : ((storeF 3).next : Int) = 2 := rfl
  simp -dsimp -implicitDefEqProofs (disch := omega) only [go_sem, hn]
  refine h10.lit (t := 43) (n := 6) (cells := ([1, 2, 3, 4, 5, 6] : List UInt8).map bv) rowTy_bytes rfl (by decide) (by decide) fun v11 w11 h11 => ?_
  obtain ⟨a11, c11, rfl, _⟩ := h11.rowForm v11
  simp -dsimp -implicitDefEqProofs (disch := omega) only [go_sem, hn]
  refine onV_of (v := .agg (opL o4 (.slice a11 6 c11)).toArray) (by rfl) ?_
  simp -dsimp -implicitDefEqProofs (disch := omega) only [go_sem, hn]
  haveI g4 : Gives (RowO 5 1 (.slice a11 6 c11) 6 (([1, 2, 3, 4, 5, 6] : List UInt8).map bv) * (RowO 5 1 (.slice none 0 0) 0 [] * A)) (RdB (.slice a11 6 c11) o4.data) := ⟨(Ent.left _ _).trans (RowO.reads _ _ _ _ _)⟩
  have i4 : OpIn o4 := ⟨⟨by decide, by decide, by decide⟩, by decide, by decide, by decide, by decide, by decide, by decide, by decide, by decide, by decide, by decide⟩
  refine (do_any (o := o4) (vd := .slice a11 6 c11) i4 (by decide) (by decide) h11.sw2).mono ?_
  rintro e w12 ⟨h12, rfl⟩
  have h12 : St w0 (StoreP b 0 0 s4 * (RowO 5 1 (.slice none 0 0) 0 [] * A)) w12 := h12.drop2
  rw [r5]
  simp -dsimp -implicitDefEqProofs (disch := omega) only [go_sem, hn]
  refine h12.lit (t := 43) (n := 7) (cells := ([1, 2, 3, 4, 5, 6, 7] : List UInt8).map bv) rowTy_bytes rfl (by decide) (by decide) fun v13 w13 h13 => ?_
  obtain ⟨a13, c13, rfl, _⟩ := h13.rowForm v13
  simp -dsimp -implicitDefEqProofs (disch := omega) only [go_sem, hn]
  refine onV_of (v := .agg (opL o5 (.slice a13 7 c13)).toArray) (by rfl) ?_
  simp -dsimp -implicitDefEqProofs (disch := omega) only [go_sem, hn]
  haveI g5 : Gives (RowO 5 1 (.slice a13 7 c13) 7 (([1, 2, 3, 4, 5, 6, 7] : List UInt8).map bv) * (RowO 5 1 (.slice none 0 0) 0 [] * A)) (RdB (.slice a13 7 c13) o5.data) := ⟨(Ent.left _ _).trans (RowO.reads _ _ _ _ _)⟩
  have i5 : OpIn o5 := ⟨⟨by decide, by decide, by decide⟩, by decide, by decide, by decide, by decide, by decide, by decide, by decide, by decide, by decide, by decide⟩
  refine (do_any (o := o5) (vd := .slice a13 7 c13) i5 (by decide) (by decide) h13.sw2).mono ?_
  rintro e w14 ⟨h14, rfl⟩
  have h14 := h14.drop2
  rw [r6] at h14 ⊢
  simp -dsimp -implicitDefEqProofs (disch := omega) only [go_sem, hn]
  refine (sread_any (p := 3) (off := 248) (k := 4) h14 (by decide) (by decide)).mono ?_
  rintro e w15 ⟨v15, h15, rfl⟩
  rw [r7] at h15
  obtain ⟨a15, c15, rfl, _⟩ := h15.rowForm v15
  simp -dsimp -implicitDefEqProofs (disch := omega) only [go_sem, hn]
  refine (node_any (p := 3) h15.sw2).mono ?_
  rintro e w16 ⟨h16, rfl⟩
  obtain ⟨q1, q2, q3, q4, q5⟩ := r8
  simp -dsimp -implicitDefEqProofs (disch := omega) only [go_sem, hn, toldV, q4]
  refine h16.new fun D w17 h17 => ?_
  simp -dsimp -implicitDefEqProofs (disch := omega) only [go_sem, hn]
  refine h17.stoAll (b := D) (cs := infL (toldI s4 3)) rfl rfl (infL_cells _) fun w18 h18 => ?_
  simp -dsimp -implicitDefEqProofs (disch := omega) only [go_sem, hn]
  refine (count_any (h18.sw2)).mono ?_
  rintro e w19 ⟨h19, rfl⟩
  simp -dsimp -implicitDefEqProofs (disch := omega) only [go_sem, hn, q5]
  refine St.str (bs := [0, 0, 1, 2]) h19 ((Ent.right _ _).trans ((Ent.right _ _).trans ((Ent.left _ _).trans (RowO.reads _ _ _ _ _)))) Tryz.underlying43 Tryz.underlying5 Tryz.underlying9 ?_
  have e1 : ((toldI s4 3).length : Int) = 256 := by rw [q1]; rfl
  have e2 : ((toldI s4 3).parent : Int) = 2 := by rw [q2]; rfl
  simp -dsimp -implicitDefEqProofs (disch := omega) only [go_sem, hn, q5, h19.cl D, e1, e2, q3]
  exact h19.right.right.right.right
end
end
theorem rSlice_choose {α β : Type} {s b : Nat} {R : Rdr α} {enc : β → List Value} {p : β → Heap → Prop} (he : ∀ x cs h, R.rel x cs h → ∃ y, cs = enc y ∧ p y h) (hk : ∀ y, (enc y).length = s) {xs : List α} {v : Value} {h : Heap}
    (c : (rSlice s b R).rel xs [v] h) : ∃ ys : List β, ys.length = xs.length ∧ (∀ y ∈ ys, p y h) ∧ Reads s v ys.length (ys.flatMap enc) h := by
  obtain ⟨a, cap, e, l, m, r, k⟩ := c
  simp only [List.cons.injEq, and_true] at e
  subst e
  rcases k with k | ⟨g, o, cur, T, fr, ea, hg, hj⟩
  · subst k
    exact ⟨[], rfl, fun y hy => by simp at hy, by simp, a, cap, rfl, l, .inl rfl⟩
  · obtain ⟨ys, hl, hy⟩ := choose_list (n := xs.length) (p := fun j (y : β) => (cur.toList.drop (o + j * s)).take s = enc y ∧ p y h) fun j hj' => he _ _ _ (hj j hj').2
    refine ⟨ys, hl, fun y hm => ?_, ?_⟩
    · obtain ⟨i, hi, rfl⟩ := List.getElem_of_mem hm
      exact (hy i hi).2
    · refine ⟨flatMap_length hk ys, a, cap, by rw [hl], by omega, .inr ⟨g, o, cur, T, fr, ea, hg, fun t ht => ?_⟩⟩
      rw [flatMap_length hk] at ht
      obtain ⟨i, j, hi, hjs, e, hf⟩ := flatMap_at_all hk ys t ht
      rw [hf, ← (hy i hi).1, e, List.getElem?_take_of_lt hjs, List.getElem?_drop, Array.getElem?_toList]
      congr 1
      omega
theorem rowV_part {w : World} {b o k lo n : Nat} {cs : List Value} (hk : cs.length = k) (hc : ∀ j, j < k → w.cell? ⟨b, o + j, none⟩ = cs[j]?) (h : lo + n ≤ k) : rowV w ⟨b, o + lo, none⟩ n = some (.agg ((cs.drop lo).take n).toArray) := by
  unfold rowV
  rw [cellsFrom_of w _ n 0 ((cs.drop lo).take n) (by rw [List.length_take, List.length_drop]; omega) fun j hj => by
    rw [Nat.zero_add, add_lit, Nat.add_assoc, hc (lo + j) (by omega), List.getElem?_take_of_lt hj, List.getElem?_drop]]
  rfl
theorem wf_i64 {z : Int} (h : (Lit.int .i64 z).wf = true) : -9223372036854775808 ≤ z ∧ z ≤ 9223372036854775807 := by
  simpa [Lit.wf, IntKind.min, IntKind.max, IntKind.signed, IntKind.bits] using h
theorem rSlice_len {α : Type} {s b : Nat} {R : Rdr α} {xs : List α} {v : Value} {h : Heap} (k : (rSlice s b R).rel xs [v] h) : xs.length * b ≤ reachBytes := by
  obtain ⟨_, _, _, _, _, r, _⟩ := k
  exact r
structure OpV where
  o : OpD
  v : Value
def opVL (x : OpV) : List Value := opL x.o x.v
structure OpIs (x : OpV) (h : Heap) : Prop where
  kind : x.o.kind < 256
  mask : x.o.mask < 256
  offset : x.o.offset < 18446744073709551616
  mode : x.o.node.mode < 4294967296
  atime : x.o.node.atime < 4294967296
  mtime : x.o.node.mtime < 4294967296
  n0 : -9223372036854775808 ≤ x.o.n
  n1 : x.o.n ≤ 9223372036854775807
  data : RdB x.v x.o.data h
  dlen : x.o.data.length ≤ 140737488355328
  name : x.o.name.length ≤ 140737488355328
  nname : x.o.node.name.length ≤ 140737488355328
  uid : x.o.node.uid.length ≤ 140737488355328
  gid : x.o.node.gid.length ≤ 140737488355328
  muid : x.o.node.muid.length ≤ 140737488355328
abbrev rInf := rCons 1 (rInt .u64) (rCons 1 (rInt .u64) (rCons 1 rStr (rCons 1 (rInt .u32) (rCons 1 rStr (rCons 1 rStr (rCons 1 rStr (rCons 1 (rInt .u32) (rCons 1 (rInt .u32) (rCons 1 (rInt .u32) (rCons 1 (rInt .u64) (rCons 1 (rInt .i64) (rCons 1 (rInt .i64) (rEnd)))))))))))))
theorem wf_u8 {z : Int} (h : (Lit.int .u8 z).wf = true) : ((z.toNat : Nat) : Int) = z ∧ z.toNat < 256 := by
  have : 0 ≤ z ∧ z ≤ 255 := by simpa [Lit.wf, IntKind.min, IntKind.max, IntKind.signed, IntKind.bits] using h
  omega
theorem wf_u32 {z : Int} (h : (Lit.int .u32 z).wf = true) : ((z.toNat : Nat) : Int) = z ∧ z.toNat < 4294967296 := by
  have : 0 ≤ z ∧ z ≤ 4294967295 := by simpa [Lit.wf, IntKind.min, IntKind.max, IntKind.signed, IntKind.bits] using h
  omega
theorem wf_u64 {z : Int} (h : (Lit.int .u64 z).wf = true) : ((z.toNat : Nat) : Int) = z ∧ z.toNat < 18446744073709551616 := by
  have : 0 ≤ z ∧ z ≤ 18446744073709551615 := by simpa [Lit.wf, IntKind.min, IntKind.max, IntKind.signed, IntKind.bits] using h
  omega
theorem str_reach {s : ByteArray} (h : s.size ≤ reachBytes) : s.data.toList.length ≤ 140737488355328 := by
  have hq : reachBytes = 140737488351232 := rfl
  rw [Lib.size_eq] at h
  omega
def wtO (o : OpD) : Nat := 100 + o.data.length + o.name.length + o.node.name.length + o.node.uid.length + o.node.gid.length + o.node.muid.length
structure OpA (A : HP) (x : OpV) : Prop where
  kind : x.o.kind < 256
  mask : x.o.mask < 256
  offset : x.o.offset < 18446744073709551616
  mode : x.o.node.mode < 4294967296
  atime : x.o.node.atime < 4294967296
  mtime : x.o.node.mtime < 4294967296
  n0 : -9223372036854775808 ≤ x.o.n
  n1 : x.o.n ≤ 9223372036854775807
  data : Ent A (RdB x.v x.o.data)
  form : ∃ a c, x.v = .slice a x.o.data.length c
  wt : wtO x.o ≤ 1000000000000000
theorem OpIs.a {W : World} {x : OpV} (h : OpIs x (heapOf W)) : OpA (Old W) x := by
  refine ⟨h.kind, h.mask, h.offset, h.mode, h.atime, h.mtime, h.n0, h.n1, Ent.of fun _ ho => Reads.mono (fun b o e => ho b o e) h.data, ?_, ?_⟩
  · obtain ⟨_, a, c, e, _⟩ := h.data
    exact ⟨a, c, e⟩
  · have h1 := h.dlen
    have h2 := h.name
    have h3 := h.nname
    have h4 := h.uid
    have h5 := h.gid
    have h6 := h.muid
    unfold wtO
    omega
theorem OpA.in_ {A : HP} {x : OpV} (h : OpA A x) (hw : wtO x.o ≤ 8388608) : OpIn x.o := by
  unfold wtO at hw
  exact ⟨⟨h.mode, h.atime, h.mtime⟩, h.mask, h.offset, h.n0, h.n1, by omega, by omega, by omega, by omega, by omega, by omega⟩
section
variable {w0 w : World} {A : HP}
theorem ofOp_any {x : OpV} (hx : OpA A x) (h : St w0 A w) :
    Calls Tryz.prog 27 #[.agg (opVL x).toArray] w fun e w' => St w0 A w' ∧ e = .returned (.int .i64 (wtO x.o)) := by
  refine F27.calls (by simp) ?_
  unfold F27.code opVL
  obtain ⟨a, c, hv⟩ := hx.form
  have hw := hx.wt
  have e1 : ((wtO x.o : Nat) : Int) = 100 + x.o.data.length + x.o.name.length + x.o.node.name.length + x.o.node.uid.length + x.o.node.gid.length + x.o.node.muid.length := by unfold wtO; omega
  rw [hv]
  unfold wtO at hw
  simp -dsimp -implicitDefEqProofs (disch := omega) only [go_sem]
  refine h.new fun B w1 h1 => ?_
  simp -dsimp -implicitDefEqProofs (disch := omega) only [go_sem, h1.cl B]
  exact ⟨h1.right, by omega⟩
section
attribute [local go_sem] F6.t3_eq F6.t4_eq F6.t5_eq
theorem one_next (s : SD) (p : Nat) (r : Except Nat NodeD) : (oneF s p r).1.next = s.next := by cases r <;> rfl
theorem do_next (s : SD) (o : OpD) : (doF s o).1.next ≤ s.next + 1 := by
  unfold doF
  split
  · simp
  split
  · simp
  split
  · unfold makeF; split <;> (try simp) <;> split <;> (try simp) <;> split <;> (try simp) <;> split <;> (try simp) <;> split <;> simp
  split
  · unfold delF; split <;> (try simp) <;> split <;> simp
  split
  · unfold callF; split <;> (try simp) <;> split <;> (try simp) <;> split <;> (try simp) <;> split <;> simp
  split
  · rw [one_next]; omega
  split
  · rw [one_next]; omega
  split
  · rw [one_next]; omega
  · rw [one_next]; omega
end
end
structure PInv (i nx last : Nat) (P : List (Nat × Nat)) : Prop where
  rise : (P.map (·.1)).Pairwise (· < ·)
  lo : ∀ x ∈ P, 2 ≤ x.1 ∧ x.1 < nx
  ix : ∀ x ∈ P, x.2 < i
  few : P.length ≤ 39
  la : last < nx
  n1 : nx ≤ i + 2
  n2 : 2 ≤ nx
theorem PInv.nil : PInv 0 2 1 [] := ⟨by simp, by simp, by simp, by simp, by decide, by decide, by decide⟩
theorem PInv.drop {i nx last : Nat} {P : List (Nat × Nat)} (h : PInv i nx last P) {k : Nat} (hk : k < P.length) : PInv (i + 1) nx last (P.eraseIdx k) := by
  have hs : (P.eraseIdx k).Sublist P := List.eraseIdx_sublist ..
  exact ⟨h.rise.sublist (hs.map _), fun x hx => h.lo x (hs.subset hx), fun x hx => by have := h.ix x (hs.subset hx); omega, Nat.le_trans hs.length_le h.few, h.la, by have := h.n1; omega, h.n2⟩
theorem PInv.make {i nx last : Nat} {P : List (Nat × Nat)} (h : PInv i nx last P) (hl : P.length < 39) : PInv (i + 1) (nx + 1) nx (P ++ [(nx, i)]) := by
  refine ⟨?_, fun x hx => ?_, fun x hx => ?_, by simp; omega, by omega, by have := h.n1; omega, by have := h.n2; omega⟩
  · rw [List.map_append, List.pairwise_append]
    refine ⟨h.rise, by simp, fun a ha b hb => ?_⟩
    simp only [List.map_cons, List.map_nil, List.mem_singleton] at hb
    subst hb
    obtain ⟨x, hx, rfl⟩ := List.mem_map.1 ha
    exact (h.lo x hx).2
  · rcases List.mem_append.1 hx with hx | hx
    · have := h.lo x hx; omega
    · simp only [List.mem_singleton] at hx; subst hx; exact ⟨h.n2, by show nx < nx + 1; omega⟩
  · rcases List.mem_append.1 hx with hx | hx
    · have := h.ix x hx; omega
    · simp only [List.mem_singleton] at hx; subst hx; show i < i + 1; omega
theorem rise_find {l : List Nat} (hl : l.Pairwise (· < ·)) {j : Nat} {at_ : Nat} (hj : ∀ k (hk : k < l.length), k < j → l[k] ≤ at_) (hb : ∀ k (hk : k < l.length), j ≤ k → at_ < l[k]) : l.find? (fun k => decide (at_ < k)) = l[j]? := by
  induction l generalizing j with
  | nil => rfl
  | cons y l ih =>
    rw [List.pairwise_cons] at hl
    cases j with
    | zero =>
      have := hb 0 (by simp) (Nat.le_refl _)
      rw [List.find?_cons]
      simp only [List.getElem_cons_zero] at this
      simp [this]
    | succ j =>
      have h0 := hj 0 (by simp) (by omega)
      simp only [List.getElem_cons_zero] at h0
      rw [List.find?_cons]
      have : decide (at_ < y) = false := by simp; omega
      rw [this]
      simp only [List.getElem?_cons_succ]
      refine ih hl.2 (fun k hk hkj => ?_) fun k hk hkj => ?_
      · have := hj (k + 1) (by simpa using hk) (by omega); simpa using this
      · have := hb (k + 1) (by simpa using hk) (by omega); simpa using this
end Go.Proofs.YtijnmokpihhhcaaGreatDoor
