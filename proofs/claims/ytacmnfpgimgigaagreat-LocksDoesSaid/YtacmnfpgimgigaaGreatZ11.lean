/- Maps of one's own gone through, in whatever order. · Maps gone through, the frame looked through by instances. · Sorts over rows of one's own: the bridge from a sort's contract over its own words. · The library's sorts, over rows of one's own. · The library's sorts and their like, laid at this program (by the kit's own command, in plain words). · The table of locks: Waits, Held; the law's small functions. · The table of locks: Held. · The table of locks: Held's walk. · The table of locks: Leave. · The table of locks: Leave. · The table of locks: Leave's walk. · Holders; the laws' 'holds' and 'move'. · The table of locks: what stays true of it. Plain law. · The laws' 'told'. · The law LocksSound: a lock's holders, counted. · The plain law behind LocksFirst: whom a step lets in, and what is left of each queue. · Who is stuck, as a law of the table's states: the greatest set of people each of whom waits for a lock that one of them holds. · The keys of a map, in rising order: maps.Keys, slices.AppendSeq, Collect, Sorted. · Who is stuck: somebody who holds something and does not wait. · Arguments, read out of memory as they came: readers by the type's shape. · Arguments that are rows of plain structs, as rows that are read. · The library's sorts and their like, laid at this program (by the kit's own command, in plain words). · Who is stuck: a table's copy. · Who is stuck: Stuck's walk. -/
import Derived.Test.YtacmnfpgimgigaaGreatZ1
import Derived.Test.YtacmnfpgimgigaaGreatZ2
import Derived.Test.YtacmnfpgimgigaaGreatZ3
import Derived.Test.YtacmnfpgimgigaaGreatZ4
import Derived.Test.YtacmnfpgimgigaaGreatZ5
import Derived.Test.YtacmnfpgimgigaaGreatZ6
import Derived.Test.YtacmnfpgimgigaaGreatZ7
import Derived.Test.YtacmnfpgimgigaaGreatZ8
import Derived.Test.YtacmnfpgimgigaaGreatZ9
import Derived.Test.YtacmnfpgimgigaaGreatZ10
import Derived.Sort.Row
import Derived.Sort.Grow
import Derived.Deep.Draws
import Derived.Shelf.SlSortCmp.NoneTotal
import Derived.Shelf.SortM.Plain
import Derived.Shelf.SortM.SortNone
import Derived.Test.YtacmnfpgimgigaaGreatProg
import Derived.KernelRfl
import Derived.ChangeArms
import Derived.SizedLaws
import Derived.Laws.MakeOwn
import Derived.Shelf.SlMaps.Clone
namespace Go.Proofs.YtacmnfpgimgigaaGreat
open Go
open Go.ChangeMaps (setBlock)

section
variable {κ : Type} {P : Program}

/-- The map b is gone through by the iterator r: what is left. -/
def IterP (enc : κ → Value) (b r : Nat) (l left : List (κ × Value)) : HP :=
  HP.ex fun x : Array MapEntry × Nat × Array Nat => HP.fact ((leftOf x.1 x.2.2).toList.map (fun e => (e.key, e.val)) = left.map (fun p => (enc p.1, p.2))) (MapE enc b x.1 x.2.1 l * Blk r (.mapIter (some b) x.2.1 x.2.2 x.2.1))

/-- The same behind a step that handed out k and v. -/
def IterAt (enc : κ → Value) (b r : Nat) (l left : List (κ × Value)) (k : κ) (v : Value) : HP :=
  HP.ex fun x : Array MapEntry × Nat × Array Nat × MapEntry => HP.fact ((leftOf x.1 (x.2.2.1.push x.2.2.2.born)).toList.map (fun e => (e.key, e.val)) = left.map (fun p => (enc p.1, p.2)) ∧ x.2.2.2 ∈ x.1.toList ∧ x.2.2.2.key = enc k ∧ x.2.2.2.val = v)
    (MapE enc b x.1 x.2.1 l * Blk r (.mapIter (some b) x.2.1 (x.2.2.1.push x.2.2.2.born) x.2.1))

theorem HP.ex_intro {α : Type} {A : α → HP} {B : HP} (x : α) (h : Ent B (A x)) : Ent B (HP.ex A) := h.trans (Ent.ex A x)
theorem HP.ex_elim {α : Type} {A : α → HP} {B : HP} (h : ∀ x, Ent (A x) B) : Ent (HP.ex A) B := fun hp ⟨x, a⟩ => h x hp a
theorem HP.fact_elim {p : Prop} {A B : HP} (h : p → Ent A B) : Ent (HP.fact p A) B := fun hp ⟨q, a⟩ => h q hp a

theorem IterAt.iter (enc : κ → Value) (b r : Nat) (l left : List (κ × Value)) (k : κ) (v : Value) : Ent (IterAt enc b r l left k v) (IterP enc b r l left) :=
  HP.ex_elim fun x => HP.fact_elim fun h => HP.ex_intro (x.1, x.2.1, x.2.2.1.push x.2.2.2.born) (Ent.fact h.1 _)
theorem IterP.map (enc : κ → Value) (b r : Nat) (l left : List (κ × Value)) : Ent (IterP enc b r l left) (MapP enc b l) :=
  HP.ex_elim fun x => HP.fact_elim fun _ => (Ent.left _ _).trans (MapE.shut enc b x.1 x.2.1 l)

/-- How much is left, in the world. -/
def iterLeft (b r : Nat) (w : World) : Nat :=
  match w.heap[b]?, w.heap[r]? with
  | some (.map es _), some (.mapIter _ _ seen _) => (leftOf es seen).size
  | _, _ => 0

theorem IterP.left {enc : κ → Value} {b r : Nat} {l left : List (κ × Value)} {w0 w : World} {F : HP} (h : St w0 (IterP enc b r l left * F) w) : iterLeft b r w = left.length := by
  obtain ⟨⟨es, clock, seen⟩, h⟩ := h.exF
  obtain ⟨hl, h⟩ := h.factF
  simp only at hl h
  have h' := h.ac (show _ = MapE enc b es clock l * (Blk r (.mapIter (some b) clock seen clock) * F) by ac_rfl)
  have hb := (MapE.heap h').1
  have hr := h'.sw2.blk
  simp only [iterLeft, hb, hr]
  have := congrArg List.length hl
  simpa using this

theorem St.range {enc : κ → Value} {b : Nat} {l : List (κ × Value)} {T kt et : TypeId} {w0 w : World} {F : HP} {K : Value → World → Prop} {θ : Tag K} (h : St w0 (MapP enc b l * F) w) (hu : P.underlying T = some (.map kt et))
    (hK : ∀ r w', St w0 (IterP enc b r l l * F) w' → K (.pointer (some ⟨r, 0, none⟩)) w') : semD P (kRange T (.map (some b))) w K θ := by
  show semD P (Instr.range T (.map (some b))) w K θ
  obtain ⟨es, clock, h1⟩ := MapP.open h
  obtain ⟨hb, hm⟩ := MapE.heap h1
  refine ⟨.pointer (some ⟨w.heap.size, 0, none⟩), w.alloc (.mapIter (some b) clock #[] clock), ?_, hK _ _ ?_⟩
  · simp only [Instr.range, Sem.run_bind, run_underlying' hu, Result.andThen_ok, MapKept.run_getObj_map hb, Sem.run_pure]
    rfl
  · have h2 := h1.alloc (.mapIter (some b) clock #[] clock)
    refine (h2.ac (show _ = (MapE enc b es clock l * Blk w.heap.size (.mapIter (some b) clock #[] clock)) * F by ac_rfl)).ent (Ent.sep (HP.ex_intro (es, clock, #[]) (Ent.fact ?_ _)) (Ent.rfl' F))
    simp only [leftOf]
    rw [← hm.list]
    simp only [Array.toList_filter]
    rw [List.filter_eq_self.2 (by simp)]

theorem leftOf_push {es : Array MapEntry} {seen : Array Nat} {j : Nat} (hn : (es.toList.map (·.born)).Nodup) (hj : j < (leftOf es seen).size) :
    (leftOf es (seen.push (leftOf es seen)[j].born)).toList = (leftOf es seen).toList.eraseIdx j := by
  have e1 : (leftOf es (seen.push (leftOf es seen)[j].born)).toList = (leftOf es seen).toList.filter (fun e => e.born != (leftOf es seen)[j].born) := by
    simp only [leftOf, Array.toList_filter, List.filter_filter]
    apply List.filter_congr
    intro x _
    simp only [Array.contains_push, Bool.not_or]
    rw [Bool.and_comm]
    first
      | rfl
      | (congr 1; done)
      | (congr 1; rw [Bool.eq_iff_iff]; simp)
  rw [e1]
  have hn2 : ((leftOf es seen).toList.map (·.born)).Nodup := by
    refine List.Nodup.sublist ?_ hn
    simp only [leftOf, Array.toList_filter]
    exact List.Sublist.map _ (List.filter_sublist)
  have hj' : j < (leftOf es seen).toList.length := by simpa using hj
  have hx : (leftOf es seen)[j].born = ((leftOf es seen).toList[j]).born := by simp
  rw [hx]
  clear hx e1 hj hn
  generalize (leftOf es seen).toList = L at hn2 hj'
  induction L generalizing j with
  | nil => simp at hj'
  | cons a L ih =>
    simp only [List.map_cons, List.nodup_cons] at hn2
    cases j with
    | zero =>
      simp only [List.getElem_cons_zero, List.filter_cons, bne_self_eq_false, Bool.false_eq_true, if_false, List.eraseIdx_cons_zero]
      rw [List.filter_eq_self]
      intro x hx
      simp only [bne_iff_ne, ne_eq]
      intro he
      exact hn2.1 (List.mem_map.2 ⟨x, hx, he⟩)
    | succ j =>
      simp only [List.length_cons, Nat.succ_lt_succ_iff] at hj'
      have hne : (a.born != (L[j]).born) = true := by
        simp only [bne_iff_ne, ne_eq]
        intro he
        exact hn2.1 (he ▸ List.mem_map.2 ⟨L[j], List.getElem_mem _, rfl⟩)
      simp only [List.getElem_cons_succ, List.filter_cons, hne, if_true, List.eraseIdx_cons_succ]
      rw [ih hn2.2 hj']

theorem St.next {enc : κ → Value} {b r : Nat} {l left : List (κ × Value)} {ty : TypeId} {w0 w : World} {F : HP} {K : Value → World → Prop} {θ : Tag K} (h : St w0 (IterP enc b r l left * F) w)
    (h0 : left = [] → K (.tuple #[.bool false]) w)
    (h1 : ∀ j (hj : j < left.length) w', St w0 (IterAt enc b r l (left.eraseIdx j) (left[j]).1 (left[j]).2 * F) w' → K (.tuple #[.bool true, enc (left[j]).1, (left[j]).2]) w') : semD P (kNext (.pointer (some ⟨r, 0, none⟩)) false ty) w K θ := by
  show semD P (Instr.next (.pointer (some ⟨r, 0, none⟩)) false ty) w K θ
  obtain ⟨⟨es, clock, seen⟩, h⟩ := h.exF
  obtain ⟨hl, h⟩ := h.factF
  simp only at hl h
  have h2 := h.ac (show _ = MapE enc b es clock l * (Blk r (.mapIter (some b) clock seen clock) * F) by ac_rfl)
  obtain ⟨hb, hm⟩ := MapE.heap h2
  have hr := h2.sw2.blk
  have hlen : (leftOf es seen).size = left.length := by simpa using congrArg List.length hl
  rcases run_next_at (P := P) w ty r b clock clock seen es clock hr hb hm.born (Nat.le_refl _) with ⟨hz, hrun⟩ | ⟨e, he, w1, hw1, hrun⟩
  · exact ⟨_, _, hrun, h0 (List.eq_nil_of_length_eq_zero (by omega))⟩
  · obtain ⟨j, hj, rfl⟩ := List.getElem_of_mem he
    have hj' : j < (leftOf es seen).size := by simpa using hj
    have hjl : j < left.length := by omega
    have hkv : ((leftOf es seen)[j].key, (leftOf es seen)[j].val) = (enc (left[j]).1, (left[j]).2) := by
      have := congrArg (fun l => l[j]?) hl
      simpa [hj', hjl] using this
    simp only [Prod.mk.injEq] at hkv
    refine ⟨_, _, hrun, ?_⟩
    simp only [Array.getElem_toList]
    rw [hkv.1, hkv.2]
    refine h1 j hjl _ ?_
    have h3 : St w0 (Blk r (.mapIter (some b) clock seen clock) * (MapE enc b es clock l * F)) w1 := by
      rcases hw1 with rfl | rfl
      · exact h2.sw2
      · exact h2.sw2.drew
    have h4 := h3.putObj (.mapIter (some b) clock (seen.push (leftOf es seen)[j].born) clock)
    refine (h4.ac (show _ = (MapE enc b es clock l * Blk r (.mapIter (some b) clock (seen.push (leftOf es seen)[j].born) clock)) * F by ac_rfl)).ent (Ent.sep (HP.ex_intro (es, clock, seen, (leftOf es seen)[j]) (Ent.fact ⟨?_, ?_, hkv.1, hkv.2⟩ _)) (Ent.rfl' F))
    · simp only [leftOf_push hm.nodup hj', ChangeMaps.map_eraseIdx, hl]
    · have : (leftOf es seen)[j] ∈ leftOf es seen := Array.getElem_mem _
      simp only [leftOf, Array.mem_filter] at this
      exact Array.mem_toList_iff.2 this.1

theorem St.entry {enc : κ → Value} {b r : Nat} {l left : List (κ × Value)} {k : κ} {v : Value} {w0 w : World} {F : HP} {K : Value → Prop} {θ : Tag K} (h : St w0 (IterAt enc b r l left k v * F) w)
    (hK : K (.tuple #[enc k, v])) : readR P (kEntry (.pointer (some ⟨r, 0, none⟩))) w K θ := by
  show readR P (Instr.entry (.pointer (some ⟨r, 0, none⟩))) w K θ
  obtain ⟨⟨es, clock, seen, e⟩, h⟩ := h.exF
  obtain ⟨⟨_, he, hk, hv⟩, h⟩ := h.factF
  simp only at he hk hv h
  have h2 := h.ac (show _ = MapE enc b es clock l * (Blk r (.mapIter (some b) clock (seen.push e.born) clock) * F) by ac_rfl)
  obtain ⟨hb, hm⟩ := MapE.heap h2
  have hr := h2.sw2.blk
  refine ⟨_, run_entry_at w r b clock seen es clock e hr hb he hm.nodup, ?_⟩
  rw [hk, hv]
  exact hK

end

end Go.Proofs.YtacmnfpgimgigaaGreat

namespace Go.Proofs.YtacmnfpgimgigaaGreat
open Go
set_option linter.unusedVariables false
instance {κ : Type} (enc : κ → Value) (b r : Nat) (l left : List (κ × Value)) : Face (.map b) (IterP enc b r l left) := ⟨⟩
instance {κ : Type} (enc : κ → Value) (b r : Nat) (l left : List (κ × Value)) (k : κ) (v : Value) : Face (.map b) (IterAt enc b r l left k v) := ⟨⟩

theorem perm_eraseIdx {α : Type} : ∀ (l : List α) (j : Nat) (hj : j < l.length), (l[j] :: l.eraseIdx j).Perm l
  | a :: l, 0, _ => .refl _
  | a :: l, j + 1, hj => by
    simp only [List.getElem_cons_succ, List.eraseIdx_cons_succ]
    exact (List.Perm.swap _ _ _).trans ((perm_eraseIdx l j (by simpa using hj)).cons a)

section
variable {κ : Type} {P : Program} {w0 w : World} {A F X : HP} {C : HP → HP} {enc : κ → Value} {b r : Nat} {l left : List (κ × Value)}

theorem St.mapNodup (h : St w0 A w) (b : Nat) [i : Hole (.map b) A (MapP enc b l) C] : (l.map (·.1)).Nodup := by
  obtain ⟨R, hR, h'⟩ := h.out (.map b)
  obtain ⟨es, clock, h2⟩ := MapP.open h'
  exact (MapE.heap h2).2.keys
theorem St.iterLeft (h : St w0 A w) (b : Nat) [i : Hole (.map b) A (IterP enc b r l left) C] : Go.Proofs.YtacmnfpgimgigaaGreat.iterLeft b r w = left.length := by
  obtain ⟨R, hR, h'⟩ := h.out (.map b)
  exact IterP.left h'
theorem St.rangeH {T kt et : TypeId} {K : Value → World → Prop} {θ : Tag K} (h : St w0 A w) [i : Hole (.map b) A (MapP enc b l) C] (hu : P.underlying T = some (.map kt et))
    (hK : ∀ r w', St w0 (C (IterP enc b r l l)) w' → K (.pointer (some ⟨r, 0, none⟩)) w') : semD P (kRange T (.map (some b))) w K θ := by
  obtain ⟨R, hR, h'⟩ := h.out (.map b)
  exact h'.range hu fun r w' hw => hK r w' (by rw [hR]; exact hw)
theorem St.nextH {ty : TypeId} {K : Value → World → Prop} {θ : Tag K} (h : St w0 A w) (b : Nat) [i : Hole (.map b) A (IterP enc b r l left) C]
    (h0 : left = [] → K (.tuple #[.bool false]) w)
    (h1 : ∀ j (hj : j < left.length) w', St w0 (C (IterAt enc b r l (left.eraseIdx j) (left[j]).1 (left[j]).2)) w' → K (.tuple #[.bool true, enc (left[j]).1, (left[j]).2]) w') : semD P (kNext (.pointer (some ⟨r, 0, none⟩)) false ty) w K θ := by
  obtain ⟨R, hR, h'⟩ := h.out (.map b)
  exact h'.next h0 fun j hj w' hw => h1 j hj w' (by rw [hR]; exact hw)
theorem St.entryH {k : κ} {v : Value} {K : Value → Prop} {θ : Tag K} (h : St w0 A w) (b : Nat) [i : Hole (.map b) A (IterAt enc b r l left k v) C] (hK : K (.tuple #[enc k, v])) : readR P (kEntry (.pointer (some ⟨r, 0, none⟩))) w K θ := by
  obtain ⟨R, hR, h'⟩ := h.out (.map b)
  exact h'.entry hK
theorem St.iterDone {k : κ} {v : Value} (h : St w0 A w) (b : Nat) [i : Hole (.map b) A (IterAt enc b r l left k v) C] : St w0 (C (IterP enc b r l left)) w := h.turnTo (.map b) (IterAt.iter enc b r l left k v)
theorem St.iterEnd (h : St w0 A w) (b : Nat) [i : Hole (.map b) A (IterP enc b r l left) C] : St w0 (C (MapP enc b l)) w := h.turnTo (.map b) (IterP.map enc b r l left)

/-- A step, the entries being those of a list of one's own. -/
theorem St.nextP {α : Type} {f : α → Value} {lf : List (κ × α)} {ty : TypeId} {K : Value → World → Prop} {θ : Tag K} (h : St w0 A w) (b : Nat) [i : Hole (.map b) A (IterP enc b r l (amap f lf)) C]
    (h0 : lf = [] → K (.tuple #[.bool false]) w)
    (h1 : ∀ (x : κ × α) (rest : List (κ × α)) w', (x :: rest).Perm lf → St w0 (C (IterAt enc b r l (amap f rest) x.1 (f x.2))) w' → K (.tuple #[.bool true, enc x.1, f x.2]) w') : semD P (kNext (.pointer (some ⟨r, 0, none⟩)) false ty) w K θ := by
  refine h.nextH b (fun e => h0 (by simpa [amap] using e)) fun j hj w' hw => ?_
  have hj' : j < lf.length := by simpa [amap] using hj
  have e1 : (amap f lf)[j] = ((lf[j]).1, f (lf[j]).2) := by simp [amap]
  have e2 : (amap f lf).eraseIdx j = amap f (lf.eraseIdx j) := by simp only [amap, ChangeMaps.map_eraseIdx]
  rw [e1] at hw ⊢
  rw [e2] at hw
  exact h1 lf[j] (lf.eraseIdx j) w' (perm_eraseIdx lf j hj') hw
end
end Go.Proofs.YtacmnfpgimgigaaGreat

namespace Go.Proofs.YtacmnfpgimgigaaGreat
open Go Go.Sort Go.RowKit
set_option linter.unusedVariables false

/-- A world in which all of W lies as it lay: W with draws and new blocks. -/
theorem St.exact {W W' : World} (h : St W (Old W) W') : ∃ q os, W' = grow (W.drewN q) os := by
  obtain ⟨x, l, hx⟩ := h.sat
  have ho := h.os
  have ht := h.tape
  have hu := h.output
  have hd := h.drawn
  have hs := h.size
  refine ⟨W'.drawn - W.drawn, W'.heap.extract W.heap.size W'.heap.size, ?_⟩
  have hh : W'.heap = W.heap ++ W'.heap.extract W.heap.size W'.heap.size := by
    apply Array.ext_getElem?
    intro i
    by_cases hi : i < W.heap.size
    · rw [Array.getElem?_append_left hi, Array.getElem?_eq_getElem hi]
      exact l i _ (hx i _ (Array.getElem?_eq_getElem hi))
    · rw [Array.getElem?_append_right (by omega), Array.getElem?_extract]
      by_cases hj : i < W'.heap.size
      · rw [if_pos (by omega), show W.heap.size + (i - W.heap.size) = i by omega]
      · rw [if_neg (by omega), Array.getElem?_eq_none (by omega)]
  cases W'
  cases W
  simp only [grow, World.drewN] at *
  subst ho ht hu
  simp only [World.mk.injEq, true_and, and_true]
  exact ⟨hh, by omega⟩

section
variable {β : Type} [Inhabited β] {enc : β → Value}

theorem putCells_row {o : Nat} {d : Array β} {c : Array Value} (h : o + d.size ≤ c.size) : ((putCells enc o d c).toList.drop o).take d.size = d.toList.map enc := by
  apply List.ext_getElem?
  intro i
  by_cases hi : i < d.size
  · rw [List.getElem?_take_of_lt hi, List.getElem?_drop, Array.getElem?_toList, putCells, Array.getElem?_mapIdx, Array.getElem?_eq_getElem (by omega : o + i < c.size), Option.map_some, if_pos (by omega), List.getElem?_map, Array.getElem?_toList, Array.getElem?_eq_getElem hi, Option.map_some,
      show o + i - o = i by omega, getElem!_pos d i hi]
  · rw [List.getElem?_take_eq_none (by omega), List.getElem?_map, Array.getElem?_toList, Array.getElem?_eq_none (by omega)]; rfl

theorem RowO.place {T s : Nat} {v : Value} {n : Nat} {xs : List Value} {F : HP} {w0 w : World} (h : St w0 (RowO T s v n xs * F) w) : (v = .slice none 0 0 ∧ n = 0 ∧ xs = []) ∨ ∃ g o cap cur, v = .slice (some ⟨g, o, none⟩) n cap ∧ w.heap[g]? = some (.cells cur T (0, 0)) ∧ o + cap * s ≤ cur.size ∧ n ≤ cap ∧ (cur.toList.drop o).take (n * s) = xs ∧ xs.length = n * s := by
  obtain ⟨x, l, h1, _, _, l1, _, a, _⟩ := h.sat
  rcases a with a | ⟨g, o, cap, cur, e1, e2, e3, e4, e5, e6, e7⟩
  · exact .inl a
  · exact .inr ⟨g, o, cap, cur, e1, l _ _ (l1 _ _ e2), e5, e3, e6, e7⟩

/-- A row written over, draws, new blocks. -/
theorem St.putRow {T s g o cap n m : Nat} {xs : List Value} {F : HP} {w0 w : World} {d' : Array β} {os : Array Obj} (h : St w0 (RowO T s (.slice (some ⟨g, o, none⟩) n cap) n xs * F) w) (hs : d'.size = xs.length) :
    St w0 (RowO T s (.slice (some ⟨g, o, none⟩) n cap) n (d'.toList.map enc) * F) (grow (Sort.putRow enc (Sort.ahead w m) g o d') os) := by
  have hlen : xs.length = n * s := by
    rcases RowO.place h with ⟨hv, _⟩ | ⟨_, _, _, _, _, _, _, _, _, e⟩
    · cases hv
    · exact e
  have hsz : (grow (Sort.putRow enc (Sort.ahead w m) g o d') os).heap.size = w.heap.size + os.size := by simp [grow, Sort.putRow, mapBlock, Sort.ahead]
  obtain ⟨x, l, h1, h2, dj, l1, l2, a, f⟩ := h.sat
  rcases a with ⟨hv, _⟩ | ⟨g', o', cap', cur, e1, e2, e3, e4, e5, e6, e7⟩
  · cases hv
  simp only [Value.slice.injEq, Option.some.injEq, Addr.mk.injEq, and_true, true_and] at e1
  obtain ⟨⟨rfl, rfl⟩, rfl⟩ := e1
  have hg : w.heap[g]? = some (.cells cur T (0, 0)) := l _ _ (l1 _ _ e2)
  have hgl := (Array.getElem?_eq_some_iff.1 hg).1
  have hk : ∀ k, k < w.heap.size → (grow (Sort.putRow enc (Sort.ahead w m) g o d') os).heap[k]? = if k = g then some (.cells (putCells enc o d' cur) T (0, 0)) else w.heap[k]? := by
    intro k hk
    have hm : (w.heap.modify g (onCells (putCells enc o d'))).size = w.heap.size := by simp
    show (w.heap.modify g (onCells (putCells enc o d')) ++ os)[k]? = _
    rw [Array.getElem?_append_left (by omega), Array.getElem?_modify]
    by_cases hkg : g = k
    · subst hkg
      rw [if_pos rfl, if_pos rfl, hg]
      rfl
    · rw [if_neg hkg, if_neg (fun e => hkg e.symm)]
  have hcs : n * s ≤ cap * s := Nat.mul_le_mul_right s e3
  have hG : Go.Proofs.YtacmnfpgimgigaaGreat.RowO T s (.slice (some ⟨g, o, none⟩) n cap) n (d'.toList.map enc) = Go.Proofs.YtacmnfpgimgigaaGreat.RowO T s (.slice (some ⟨g, o, none⟩) n cap) n (d'.toList.map enc) := rfl
  -- the row of old, its block alone
  have hself : St w0 (Blk g (.cells cur T (0, 0)) * F) w := by
    refine ⟨h.os, h.tape, h.output, h.drawn, h.size, x, l, fun k => if k = g then some (.cells cur T (0, 0)) else none, h2, fun k => ?_, fun k o' e => ?_, l2, by simp [Blk], f⟩
    · by_cases hkg : k = g
      · subst hkg; exact .inr ((dj k).resolve_left (by rw [e2]; simp))
      · left; simp [hkg]
    · by_cases hkg : k = g
      · subst hkg; simp only [if_true] at e; cases e; exact l1 _ _ e2
      · simp [hkg] at e
  have hnew : St w0 (Blk g (.cells (putCells enc o d' cur) T (0, 0)) * F) (grow (Sort.putRow enc (Sort.ahead w m) g o d') os) := by
    refine hself.blk_turn rfl rfl rfl (by rw [hsz]; omega) (by rw [hk g hgl, if_pos rfl]) (fun k hkg hlt => by rw [hk k hlt, if_neg hkg]) (hdr := ?_)
    simp [grow, Sort.putRow, mapBlock, Sort.ahead]
  refine hnew.ent (Ent.sep (Ent.of fun h hb => ?_) (Ent.rfl' F))
  refine .inr ⟨g, o, cap, putCells enc o d' cur, rfl, hb, e3, e4, by simpa [putCells] using e5, ?_, by rw [List.length_map, Array.length_toList, hs, hlen]⟩
  have := putCells_row (enc := enc) (o := o) (d := d') (c := cur) (by omega)
  rw [hs, hlen] at this
  exact this

theorem RowO.holds {T s g o cap n : Nat} {xs : List Value} {F : HP} {w0 w : World} {d : Array β} (h : St w0 (RowO T s (.slice (some ⟨g, o, none⟩) n cap) n xs * F) w) (hx : d.toList.map enc = xs) : Holds enc w g o d ∧ g < w.heap.size := by
  rcases RowO.place h with ⟨hv, _⟩ | ⟨g', o', cap', cur, e1, e2, e3, e4, e5, e6⟩
  · cases hv
  simp only [Value.slice.injEq, Option.some.injEq, Addr.mk.injEq, and_true, true_and] at e1
  obtain ⟨⟨rfl, rfl⟩, rfl⟩ := e1
  refine ⟨fun j hj => ?_, (Array.getElem?_eq_some_iff.1 e2).1⟩
  have hl : d.size = n * s := by rw [← e6, ← hx]; simp
  refine ⟨?_, frozen_of_heap e2 _⟩
  rw [cell_of_heap e2]
  have h1 : (xs)[j]? = some (enc d[j]!) := by rw [← hx, List.getElem?_map, Array.getElem?_toList, Array.getElem?_eq_getElem hj, getElem!_pos d j hj]; rfl
  rw [← e5, List.getElem?_take_of_lt (by omega), List.getElem?_drop, Array.getElem?_toList] at h1
  exact h1

/-- From a sort's contract over its own words to rows of one's own. -/
theorem sort_bridge {P : Program} {fn : Nat} {args : Value → Array Value} {T s n : Nat} {v : Value} {xs : List Value} {F : HP} {w0 w : World} {d d' : Array β} (h : St w0 (RowO T s v n xs * F) w) (hx : d.toList.map enc = xs) (hs : d'.size = d.size)
    (hnone : ∀ p cap, Calls P fn (args (.slice p 0 cap)) w fun e w' => e = .returned (.tuple #[]) ∧ w' = w)
    (hsome : ∀ g o cap, v = .slice (some ⟨g, o, none⟩) n cap → Holds enc w g o d → g < w.heap.size → Calls P fn (args (.slice (some ⟨g, o, none⟩) n cap)) w fun e w' => e = .returned (.tuple #[]) ∧ ∃ m os, w' = grow (Sort.putRow enc (Sort.ahead w m) g o d') os) :
    Calls P fn (args v) w fun e w' => St w0 (RowO T s v n (d'.toList.map enc) * F) w' ∧ e = .returned (.tuple #[]) := by
  have hlx : d.size = xs.length := by rw [← hx]; simp
  rcases RowO.place h with ⟨rfl, rfl, rfl⟩ | ⟨g, o, cap, cur, rfl, _⟩
  · have : d' = #[] := Array.eq_empty_of_size_eq_zero (by rw [hs, hlx]; rfl)
    subst this
    exact (hnone none 0).mono fun e w' ⟨he, hw⟩ => ⟨by rw [hw]; exact h, he⟩
  · obtain ⟨hH, hg⟩ := RowO.holds (enc := enc) h hx
    refine (hsome g o cap rfl hH hg).mono ?_
    rintro e w' ⟨he, m, os, rfl⟩
    exact ⟨h.putRow (by rw [hs, hlx]), he⟩

end

/-- Of two sorted lists of the same things the one is the other. -/
theorem perm_sorted_unique {α : Type} {r : α → α → Prop} : ∀ {l l' : List α}, (∀ x ∈ l, ∀ y ∈ l, r x y → r y x → x = y) → l.Perm l' → l.Pairwise r → l'.Pairwise r → (∀ x ∈ l, r x x) → l = l'
  | [], l', _, hp, _, _, _ => (List.nil_perm.1 hp).symm
  | a :: l, [], _, hp, _, _, _ => by have := hp.length_eq; simp at this
  | a :: l, b :: l', ha, hp, h1, h2, hr => by
    have hab : a = b := by
      have hbl : b ∈ a :: l := hp.mem_iff.2 (by simp)
      have hal : a ∈ b :: l' := hp.mem_iff.1 (by simp)
      refine ha a (by simp) b hbl ?_ ?_
      · rcases List.mem_cons.1 hbl with rfl | hb
        · exact hr _ (by simp)
        · exact List.rel_of_pairwise_cons h1 hb
      · rcases List.mem_cons.1 hal with rfl | hb
        · exact hr _ (by simp)
        · exact List.rel_of_pairwise_cons h2 hb
    subst hab
    rw [perm_sorted_unique (fun x hx y hy => ha x (by simp [hx]) y (by simp [hy])) (List.Perm.cons_inv hp) (List.Pairwise.of_cons h1) (List.Pairwise.of_cons h2) (fun x hx => hr x (by simp [hx]))]

end Go.Proofs.YtacmnfpgimgigaaGreat

namespace Go.Proofs.YtacmnfpgimgigaaGreat
open Go Go.Sort Go.RowKit Go.Shelf
set_option linter.unusedVariables false

theorem flatK_flat {α : Type} [Inhabited α] {enc : α → List Value} {k : Nat} (hk : ∀ x, (enc x).length = k) (d : Array α) : (Sort.flatK enc k d).toList.map id = d.toList.flatMap enc := by
  rw [List.map_id]
  have hl : ∀ l : List α, (l.flatMap enc).length = l.length * k := fun l => by
    induction l with
    | nil => simp
    | cons x l ih => rw [List.flatMap_cons, List.length_append, hk, ih, List.length_cons, Nat.add_mul]; omega
  have hg : ∀ (l : List α) (t : Nat), t < l.length * k → (l.flatMap enc)[t]? = some ((enc l[t / k]!)[t % k]!) := fun l => by
    induction l with
    | nil => intro t h; simp at h
    | cons x l ih =>
      intro t ht
      rw [List.length_cons, Nat.add_mul] at ht
      have k0 : 0 < k := by rcases Nat.eq_zero_or_pos k with h | h; · subst h; simp at ht
                            · exact h
      rw [List.flatMap_cons]
      by_cases h1 : t < k
      · rw [List.getElem?_append_left (by rw [hk]; exact h1), Nat.div_eq_of_lt h1, Nat.mod_eq_of_lt h1]
        have : t < (enc x).length := by rw [hk]; exact h1
        rw [List.getElem?_eq_getElem this]
        simp [this]
      · rw [List.getElem?_append_right (by rw [hk]; omega), hk, ih (t - k) (by omega)]
        have e1 : t / k = (t - k) / k + 1 := by rw [← Nat.add_div_right _ k0, Nat.sub_add_cancel (by omega)]
        have e2 : t % k = (t - k) % k := by rw [Nat.mod_eq_sub_mod (by omega)]
        rw [e1, e2]
        simp
  apply List.ext_getElem?
  intro t
  by_cases ht : t < d.size * k
  · rw [hg d.toList t (by simpa using ht), Array.getElem?_toList, Array.getElem?_eq_getElem (by simpa using ht)]
    have := Sort.get_flatK enc k d t ht
    rw [getElem!_pos _ t (by simpa using ht)] at this
    have hdk : t / k < d.size := Nat.div_lt_of_lt_mul (by rw [Nat.mul_comm]; exact ht)
    rw [this, getElem!_pos d _ hdk, getElem!_pos d.toList _ (by simpa using hdk)]
    simp
  · rw [Array.getElem?_toList, Array.getElem?_eq_none (by simpa using ht), List.getElem?_eq_none (by rw [hl]; simpa using ht)]

/-- slices.SortFunc, of structs. -/
theorem St.sortFuncK {P : Program} {ρ : Ren} {α : Type} [Inhabited α] (L : SlLaysF0.n6 P ρ) {k : Nat} (aE : ∀ w, (isAgg (ρ.t 24)).run P w = .ok true w) (zE : ∀ w, (Go.sizeOf (ρ.t 24)).run P w = .ok k w) {enc : α → List Value} (hk : ∀ x, (enc x).length = k) (h1 : ∀ x, ∀ v ∈ enc x, v.oneCell' = true) {cf : α → α → Int} (hO : SWO (ltOf cf))
    {g : Nat} (eg : ∀ args w, (callFunc g args).run P w = .ok (.enter g args) w) (hcmp : ∀ (W : World) (x y : α), Calls P g #[.agg (enc x).toArray, .agg (enc y).toArray] W fun e w' => St W (Old W) w' ∧ e = .returned (.int .i64 (cf x y)))
    (hT : ∀ x y, (ltOf cf) x y = false → (ltOf cf) y x = false → x = y) {T : TypeId} {v : Value} {l : List α} {F : HP} {w0 w : World} (h : St w0 (RowO T k v l.length (l.flatMap enc) * F) w) (hsz : l.length < 4611686018427387904) :
    Calls P (ρ.f 6) #[v, .func (.func g) #[] #[]] w fun e w' => St w0 (RowO T k v l.length ((l.mergeSort fun x y => !(ltOf cf) y x).flatMap enc) * F) w' ∧ e = .returned (.tuple #[]) := by
  have hx := flatK_flat hk l.toArray
  have hx' := flatK_flat hk (l.mergeSort fun x y => !(ltOf cf) y x).toArray
  rw [List.toList_toArray] at hx hx'
  have key := sort_bridge (enc := id) (fn := ρ.f 6) (args := fun v => #[v, .func (.func g) #[] #[]]) (d' := Sort.flatK enc k (l.mergeSort fun x y => !(ltOf cf) y x).toArray) (P := P) h hx (by simp)
    (fun p cap => AnyF.slices_SortFunc_none { L with } p cap _ w) (fun b o cap hv hH hb => by
      have hc : CmpLays P g #[] enc k cf b o l.toArray.size w := fun m os dk _ x y => (hcmp _ x y).mono fun e w' ⟨hst, he⟩ => ⟨he, hst.exact⟩
      have := AnyQ.slices_SortFunc_total L k aE zE enc hk h1 cf hO g #[] b o cap l.toArray w eg hc hH hb (by simpa using hsz) hT
      simpa [sortWorldK, putRowK] using this)
  rw [hx'] at key
  exact key

/-- slices.SortFunc, of structs of which some may be alike to it. -/
theorem St.sortFuncP {P : Program} {ρ : Ren} {α : Type} [Inhabited α] (L : SlLaysF0.n6 P ρ) {k : Nat} (aE : ∀ w, (isAgg (ρ.t 24)).run P w = .ok true w) (zE : ∀ w, (Go.sizeOf (ρ.t 24)).run P w = .ok k w) {enc : α → List Value} (hk : ∀ x, (enc x).length = k) (h1 : ∀ x, ∀ v ∈ enc x, v.oneCell' = true) {cf : α → α → Int} (hO : SWO (ltOf cf))
    {g : Nat} (eg : ∀ args w, (callFunc g args).run P w = .ok (.enter g args) w) (hcmp : ∀ (W : World) (x y : α), Calls P g #[.agg (enc x).toArray, .agg (enc y).toArray] W fun e w' => St W (Old W) w' ∧ e = .returned (.int .i64 (cf x y)))
    {T : TypeId} {v : Value} {l : List α} {F : HP} {w0 w : World} (h : St w0 (RowO T k v l.length (l.flatMap enc) * F) w) (hsz : l.length < 4611686018427387904) :
    Calls P (ρ.f 6) #[v, .func (.func g) #[] #[]] w fun e w' => ∃ l' : List α, l'.Perm l ∧ l'.Pairwise (fun x y => ltOf cf y x = false) ∧ St w0 (RowO T k v l.length (l'.flatMap enc) * F) w' ∧ e = .returned (.tuple #[]) := by
  have hx := flatK_flat hk l.toArray
  rw [List.toList_toArray] at hx
  have hx := flatK_flat hk l.toArray
  rw [List.toList_toArray] at hx
  rcases RowO.place h with ⟨rfl, hl, _⟩ | ⟨b, o, cap, cur, rfl, _⟩
  · obtain rfl : l = [] := List.eq_nil_of_length_eq_zero hl
    exact (AnyF.slices_SortFunc_none { L with } none 0 _ w).mono fun e w' ⟨he, hw⟩ => ⟨[], .refl _, .nil, by rw [hw]; exact h, he⟩
  · obtain ⟨hH, hb⟩ := RowO.holds (enc := id) h hx
    have hc : CmpLays P g #[] enc k cf b o l.toArray.size w := fun m os dk _ x y => (hcmp _ x y).mono fun e w' ⟨hst, he⟩ => ⟨he, hst.exact⟩
    refine (AnyQ.slices_SortFunc L k aE zE enc hk h1 cf hO g #[] b o cap l.toArray w eg hc hH hb (by simpa using hsz)).mono ?_
    rintro e w' ⟨he, d', m, os, hp, hs, rfl⟩
    have hd : d'.size = l.length := by simpa using hp.1
    have hpm : d'.toList.Perm l := by
      have := hp.2.2
      simp only [List.size_toArray, ← hd, Array.extract_size] at this
      rw [hd] at this
      simpa using this
    refine ⟨d'.toList, hpm, ?_, ?_, he⟩
    · rw [List.pairwise_iff_getElem]
      intro i j hi hj hij
      have := hs i j (Nat.zero_le _) hij (by simpa [hd] using hj)
      rw [getElem!_pos d' j (by simpa using hj), getElem!_pos d' i (by simpa using hi)] at this
      simpa using this
    · have hx' := flatK_flat hk d'
      rw [← hx']
      exact h.putRow (enc := id) (d' := Sort.flatK enc k d') (by rw [← hx, List.length_map, Array.length_toList, Sort.size_flatK, Sort.size_flatK, hd]; simp)

/-- slices.Sort, of ints. -/
theorem St.sortInts {P : Program} {ρ : Ren} (L : SlLaysM.n5 P ρ) {T : TypeId} {v : Value} {l : List Int} {F : HP} {w0 w : World} (h : St w0 (RowO T 1 v l.length (l.map (Value.int .i64)) * F) w) (hsz : l.length < 4611686018427387904) :
    Calls P (ρ.f 5) #[v] w fun e w' => St w0 (RowO T 1 v l.length ((l.mergeSort fun x y => decide (x ≤ y)).map (Value.int .i64)) * F) w' ∧ e = .returned (.tuple #[]) :=
  sort_bridge (enc := Value.int .i64) (fn := ρ.f 5) (args := fun v => #[v]) (d := l.toArray) (d' := (l.mergeSort fun x y => decide (x ≤ y)).toArray) h (by simp) (by simp)
    (fun p cap => AnyM.slices_Sort_int_none L p cap w) (fun b o cap _ hH hb => AnyM.slices_Sort_int L b o cap l w hH hb hsz)

end Go.Proofs.YtacmnfpgimgigaaGreat

namespace Go.Proofs.YtacmnfpgimgigaaGreat
open Go.Shelf
set_option maxRecDepth 100000

def sortNeedL_ren : Go.Shelf.Ren := ⟨fun | 6 => 52 | 14 => 65 | 15 => 66 | 20 => 76 | 21 => 77 | 22 => 78 | 23 => 79 | 24 => 80 | 25 => 81 | 26 => 82 | 27 => 83 | 28 => 84 | 29 => 85 | 46 => 100 | 47 => 101 | 48 => 102 | 49 => 103 | 50 => 104 | 57 => 108 | n => n, fun | 22 => 63 | 24 => 42 | 25 => 92 | 39 => 103 | 45 => 112 | 46 => 113 | 50 => 93 | 53 => 119 | 55 => 38 | 66 => 131 | 70 => 135 | 76 => 139 | 77 => 140 | n => n, fun | n => n⟩

theorem sortNeedL : Go.Proofs.SlLaysF0.n6 Tryz.prog sortNeedL_ren := {
  mixed := by kernel_rfl,
  f6 := ⟨Tryz.f52.name, by decide, Tryz.func52.trans (congrArg some (by kernel_rfl))⟩,
  f14 := ⟨Tryz.f65.name, by decide, Tryz.func65.trans (congrArg some (by kernel_rfl))⟩,
  f15 := Tryz.func66.trans (congrArg some (by kernel_rfl)),
  f20 := ⟨Tryz.f76.name, by decide, Tryz.func76.trans (congrArg some (by kernel_rfl))⟩,
  f21 := ⟨Tryz.f77.name, by decide, Tryz.func77.trans (congrArg some (by kernel_rfl))⟩,
  f22 := ⟨Tryz.f78.name, by decide, Tryz.func78.trans (congrArg some (by kernel_rfl))⟩,
  f23 := ⟨Tryz.f79.name, by decide, Tryz.func79.trans (congrArg some (by kernel_rfl))⟩,
  f24 := ⟨Tryz.f80.name, by decide, Tryz.func80.trans (congrArg some (by kernel_rfl))⟩,
  f25 := ⟨Tryz.f81.name, by decide, Tryz.func81.trans (congrArg some (by kernel_rfl))⟩,
  f26 := ⟨Tryz.f82.name, by decide, Tryz.func82.trans (congrArg some (by kernel_rfl))⟩,
  f27 := ⟨Tryz.f83.name, by decide, Tryz.func83.trans (congrArg some (by kernel_rfl))⟩,
  f28 := Tryz.func84.trans (congrArg some (by kernel_rfl)),
  f29 := Tryz.func85.trans (congrArg some (by kernel_rfl)),
  f46 := ⟨Tryz.f100.name, by decide, Tryz.func100.trans (congrArg some (by kernel_rfl))⟩,
  f47 := Tryz.func101.trans (congrArg some (by kernel_rfl)),
  f48 := Tryz.func102.trans (congrArg some (by kernel_rfl)),
  f49 := ⟨Tryz.f103.name, by decide, Tryz.func103.trans (congrArg some (by kernel_rfl))⟩,
  f50 := ⟨Tryz.f104.name, by decide, Tryz.func104.trans (congrArg some (by kernel_rfl))⟩,
  f57 := ⟨Tryz.f108.name, by decide, Tryz.func108.trans (congrArg some (by kernel_rfl))⟩,
  t0 := Tryz.underlying0,
  a0 := Tryz.isAgg0,
  z0 := Tryz.sizeOf0,
  v0 := Tryz.zeroValue0,
  t3 := Tryz.underlying3,
  a3 := Tryz.isAgg3,
  z3 := Tryz.sizeOf3,
  v3 := Tryz.zeroValue3,
  t4 := Tryz.underlying4,
  a4 := Tryz.isAgg4,
  z4 := Tryz.sizeOf4,
  v4 := Tryz.zeroValue4,
  t5 := Tryz.underlying5,
  a5 := Tryz.isAgg5,
  z5 := Tryz.sizeOf5,
  v5 := Tryz.zeroValue5,
  t9 := Tryz.underlying9,
  a9 := Tryz.isAgg9,
  z9 := Tryz.sizeOf9,
  v9 := Tryz.zeroValue9,
  t22 := Tryz.underlying63,
  a22 := Tryz.isAgg63,
  z22 := Tryz.sizeOf63,
  v22 := Tryz.zeroValue63,
  t25 := Tryz.underlying92,
  a25 := Tryz.isAgg92,
  z25 := Tryz.sizeOf92,
  v25 := Tryz.zeroValue92,
  t39 := Tryz.underlying103,
  a39 := Tryz.isAgg103,
  z39 := Tryz.sizeOf103,
  v39 := Tryz.zeroValue103,
  t45 := Tryz.underlying112,
  a45 := Tryz.isAgg112,
  z45 := Tryz.sizeOf112,
  v45 := Tryz.zeroValue112,
  t46 := Tryz.underlying113,
  a46 := Tryz.isAgg113,
  z46 := Tryz.sizeOf113,
  v46 := Tryz.zeroValue113,
  t50 := Tryz.underlying93,
  a50 := Tryz.isAgg93,
  z50 := Tryz.sizeOf93,
  v50 := Tryz.zeroValue93,
  t53 := Tryz.underlying119,
  a53 := Tryz.isAgg119,
  z53 := Tryz.sizeOf119,
  v53 := Tryz.zeroValue119,
  t55 := Tryz.underlying38,
  a55 := Tryz.isAgg38,
  z55 := Tryz.sizeOf38,
  v55 := Tryz.zeroValue38,
  t66 := Tryz.underlying131,
  a66 := Tryz.isAgg131,
  z66 := Tryz.sizeOf131,
  v66 := Tryz.zeroValue131,
  t70 := Tryz.underlying135,
  a70 := Tryz.isAgg135,
  z70 := Tryz.sizeOf135,
  v70 := Tryz.zeroValue135,
  t76 := Tryz.underlying139,
  a76 := Tryz.isAgg139,
  z76 := Tryz.sizeOf139,
  v76 := Tryz.zeroValue139,
  t77 := Tryz.underlying140,
  a77 := Tryz.isAgg140,
  z77 := Tryz.sizeOf140,
  v77 := Tryz.zeroValue140 }

def sortIntL_ren : Go.Shelf.Ren := ⟨fun | 5 => 55 | 7 => 71 | 8 => 66 | 10 => 89 | 11 => 90 | 12 => 91 | 13 => 92 | 14 => 93 | 15 => 94 | 16 => 95 | 17 => 96 | 18 => 97 | 19 => 84 | 20 => 85 | 30 => 105 | 31 => 101 | 32 => 102 | 33 => 106 | 34 => 107 | 35 => 87 | 40 => 109 | n => n, fun | 22 => 32 | 23 => 32 | 25 => 3 | 32 => 103 | 35 => 112 | 36 => 113 | 41 => 93 | 44 => 119 | 46 => 38 | 53 => 131 | 57 => 135 | 63 => 139 | 64 => 140 | n => n, fun | n => n⟩

theorem sortIntL : Go.Proofs.SlLaysM.n5 Tryz.prog sortIntL_ren := {
  mixed := by kernel_rfl,
  f5 := ⟨Tryz.f55.name, by decide, Tryz.func55.trans (congrArg some (by kernel_rfl))⟩,
  f7 := ⟨Tryz.f71.name, by decide, Tryz.func71.trans (congrArg some (by kernel_rfl))⟩,
  f8 := Tryz.func66.trans (congrArg some (by kernel_rfl)),
  f10 := ⟨Tryz.f89.name, by decide, Tryz.func89.trans (congrArg some (by kernel_rfl))⟩,
  f11 := ⟨Tryz.f90.name, by decide, Tryz.func90.trans (congrArg some (by kernel_rfl))⟩,
  f12 := ⟨Tryz.f91.name, by decide, Tryz.func91.trans (congrArg some (by kernel_rfl))⟩,
  f13 := ⟨Tryz.f92.name, by decide, Tryz.func92.trans (congrArg some (by kernel_rfl))⟩,
  f14 := ⟨Tryz.f93.name, by decide, Tryz.func93.trans (congrArg some (by kernel_rfl))⟩,
  f15 := ⟨Tryz.f94.name, by decide, Tryz.func94.trans (congrArg some (by kernel_rfl))⟩,
  f16 := ⟨Tryz.f95.name, by decide, Tryz.func95.trans (congrArg some (by kernel_rfl))⟩,
  f17 := ⟨Tryz.f96.name, by decide, Tryz.func96.trans (congrArg some (by kernel_rfl))⟩,
  f18 := ⟨Tryz.f97.name, by decide, Tryz.func97.trans (congrArg some (by kernel_rfl))⟩,
  f19 := Tryz.func84.trans (congrArg some (by kernel_rfl)),
  f20 := Tryz.func85.trans (congrArg some (by kernel_rfl)),
  f30 := ⟨Tryz.f105.name, by decide, Tryz.func105.trans (congrArg some (by kernel_rfl))⟩,
  f31 := Tryz.func101.trans (congrArg some (by kernel_rfl)),
  f32 := Tryz.func102.trans (congrArg some (by kernel_rfl)),
  f33 := ⟨Tryz.f106.name, by decide, Tryz.func106.trans (congrArg some (by kernel_rfl))⟩,
  f34 := ⟨Tryz.f107.name, by decide, Tryz.func107.trans (congrArg some (by kernel_rfl))⟩,
  f35 := ⟨Tryz.f87.name, by decide, Tryz.func87.trans (congrArg some (by kernel_rfl))⟩,
  f40 := ⟨Tryz.f109.name, by decide, Tryz.func109.trans (congrArg some (by kernel_rfl))⟩,
  t0 := Tryz.underlying0,
  a0 := Tryz.isAgg0,
  z0 := Tryz.sizeOf0,
  v0 := Tryz.zeroValue0,
  t3 := Tryz.underlying3,
  a3 := Tryz.isAgg3,
  z3 := Tryz.sizeOf3,
  v3 := Tryz.zeroValue3,
  t4 := Tryz.underlying4,
  a4 := Tryz.isAgg4,
  z4 := Tryz.sizeOf4,
  v4 := Tryz.zeroValue4,
  t5 := Tryz.underlying5,
  a5 := Tryz.isAgg5,
  z5 := Tryz.sizeOf5,
  v5 := Tryz.zeroValue5,
  t9 := Tryz.underlying9,
  a9 := Tryz.isAgg9,
  z9 := Tryz.sizeOf9,
  v9 := Tryz.zeroValue9,
  t22 := Tryz.underlying32,
  a22 := Tryz.isAgg32,
  z22 := Tryz.sizeOf32,
  v22 := Tryz.zeroValue32,
  t23 := Tryz.underlying32,
  a23 := Tryz.isAgg32,
  z23 := Tryz.sizeOf32,
  v23 := Tryz.zeroValue32,
  t25 := Tryz.underlying3,
  a25 := Tryz.isAgg3,
  z25 := Tryz.sizeOf3,
  v25 := Tryz.zeroValue3,
  t32 := Tryz.underlying103,
  a32 := Tryz.isAgg103,
  z32 := Tryz.sizeOf103,
  v32 := Tryz.zeroValue103,
  t35 := Tryz.underlying112,
  a35 := Tryz.isAgg112,
  z35 := Tryz.sizeOf112,
  v35 := Tryz.zeroValue112,
  t36 := Tryz.underlying113,
  a36 := Tryz.isAgg113,
  z36 := Tryz.sizeOf113,
  v36 := Tryz.zeroValue113,
  t41 := Tryz.underlying93,
  a41 := Tryz.isAgg93,
  z41 := Tryz.sizeOf93,
  v41 := Tryz.zeroValue93,
  t44 := Tryz.underlying119,
  a44 := Tryz.isAgg119,
  z44 := Tryz.sizeOf119,
  v44 := Tryz.zeroValue119,
  t46 := Tryz.underlying38,
  a46 := Tryz.isAgg38,
  z46 := Tryz.sizeOf38,
  v46 := Tryz.zeroValue38,
  t53 := Tryz.underlying131,
  a53 := Tryz.isAgg131,
  z53 := Tryz.sizeOf131,
  v53 := Tryz.zeroValue131,
  t57 := Tryz.underlying135,
  a57 := Tryz.isAgg135,
  z57 := Tryz.sizeOf135,
  v57 := Tryz.zeroValue135,
  t63 := Tryz.underlying139,
  a63 := Tryz.isAgg139,
  z63 := Tryz.sizeOf139,
  v63 := Tryz.zeroValue139,
  t64 := Tryz.underlying140,
  a64 := Tryz.isAgg140,
  z64 := Tryz.sizeOf140,
  v64 := Tryz.zeroValue140 }

end Go.Proofs.YtacmnfpgimgigaaGreat

namespace Go.Proofs.YtacmnfpgimgigaaGreat
open Go
set_option linter.unusedSimpArgs false
set_option linter.unusedVariables false
set_option maxRecDepth 100000


theorem oneN_any {w0 w : World} {F : HP} {n : Int} (h : St w0 F w) (h0 : 0 ≤ n) (h1 : n < 9223372036854775808) : Calls Tryz.prog 12 #[.int .i64 n] w fun e w' => St w0 F w' ∧ e = .returned (namV (3, 0, n)) := by
  refine F12.calls (by simp) ?_
  unfold F12.code
  simp -dsimp -implicitDefEqProofs (disch := omega) only [go_sem, reqD_of, dec_t, dec_f, wrap_i64, wrap_u32, wrap_u64, wrap_u8]
  refine h.new fun B w1 h1 => ?_
  simp -dsimp -implicitDefEqProofs (disch := omega) only [go_sem, reqD_of, dec_t, dec_f, wrap_i64, wrap_u32, wrap_u64, wrap_u8]
  refine onV_of (v := namV (3, 0, n)) rfl ?_
  simp -dsimp -implicitDefEqProofs (disch := omega) only [go_sem, reqD_of, dec_t, dec_f, wrap_i64, wrap_u32, wrap_u64, wrap_u8]
  refine h1.stoAll (cs := namC (3, 0, n)) rfl rfl (namC_cells _) fun w2 h2 => ?_
  have hrow := h2.rowH B 3 rfl
  simp -dsimp -implicitDefEqProofs (disch := omega) only [go_sem, reqD_of, dec_t, dec_f, wrap_i64, wrap_u32, wrap_u64, wrap_u8]
  refine resC_1 (a := ⟨B, 0, none⟩) (v := namV (3, 0, n)) (by simp -dsimp -implicitDefEqProofs only [go_sem]) (run_loadVar_row fact_aggSz_40 (by rw [hrow])) ?_
  exact ⟨h2.right, rfl⟩

section
attribute [local go_sem] F7.t3_eq
theorem pick_any {w0 w : World} {F : HP} {c n : Int} (h : St w0 F w) (hc : -9223372036854775808 ≤ c ∧ c < 9223372036854775808) (hn : 0 < n) : Calls Tryz.prog 7 #[.int .i64 c, .int .i64 n] w fun e w' => St w0 F w' ∧ e = .returned (.int .i64 (pickI c n)) := by
  refine F7.calls (by simp) ?_
  unfold F7.code
  have hn0 : n ≠ 0 := by omega
  by_cases hneg : c < 0
  · simp -dsimp -implicitDefEqProofs (disch := omega) only [go_sem, reqD_of, dec_t, dec_f, wrap_i64, wrap_u32, wrap_u64, wrap_u8, hneg, hn0]
    exact ⟨h, by simp [pickI, hneg]⟩
  · simp -dsimp -implicitDefEqProofs (disch := omega) only [go_sem, reqD_of, dec_t, dec_f, wrap_i64, wrap_u32, wrap_u64, wrap_u8, hneg, hn0]
    exact ⟨h, by simp [pickI, hneg]⟩

def noNeed : Nee := ((0, 0, 0), false)

end

theorem waits_any {w0 w : World} {F : HP} {B : Nat} {ls : List (Nam × LkS)} {ws : List (Int × Nee)} {who : Int} (h : St w0 (TabP B ls ws * F) w) :
    Calls Tryz.prog 28 #[.pointer (some ⟨B, 0, none⟩), .int .i64 who] w fun e w' => St w0 (TabP B ls ws * F) w' ∧ e = .returned (.tuple #[needV ((agt who ws).getD noNeed), .bool (agt who ws).isSome]) := by
  obtain ⟨m1, m2, ps, hps, h1⟩ := TabP.open h
  have hT := h1
  unfold TabQ at h1
  refine F28.calls (by simp) ?_
  unfold F28.code
  simp -dsimp -implicitDefEqProofs (disch := omega) only [go_sem, reqD_of, dec_t, dec_f, wrap_i64, wrap_u32, wrap_u64, wrap_u8]
  refine h1.new fun R w1 h2 => ?_
  simp -dsimp -implicitDefEqProofs (disch := omega) only [go_sem, reqD_of, dec_t, dec_f, wrap_i64, wrap_u32, wrap_u64, wrap_u8, h2.cl]
  refine h2.lkH (b := m2) Tryz.underlying56 lawI zeroV38 ?_
  rw [lk_amap, lkV_get]
  simp -dsimp -implicitDefEqProofs (disch := omega) only [go_sem, reqD_of, dec_t, dec_f, wrap_i64, wrap_u32, wrap_u64, wrap_u8]
  refine h2.new fun N w2 h3 => ?_
  simp -dsimp -implicitDefEqProofs (disch := omega) only [go_sem, reqD_of, dec_t, dec_f, wrap_i64, wrap_u32, wrap_u64, wrap_u8]
  refine h3.stoAll (cs := needC ((agt who ws).getD noNeed)) rfl rfl (needC_cells _) fun w3 h4 => ?_
  have hN := h4.rowH N 4 rfl
  simp -dsimp -implicitDefEqProofs (disch := omega) only [go_sem, reqD_of, dec_t, dec_f, wrap_i64, wrap_u32, wrap_u64, wrap_u8, hN]
  refine h4.stoAll (b := R) (cs := needC ((agt who ws).getD noNeed)) rfl rfl (needC_cells _) fun w4 h5 => ?_
  have hR := h5.rowH R 4 rfl
  simp -dsimp -implicitDefEqProofs (disch := omega) only [go_sem, reqD_of, dec_t, dec_f, wrap_i64, wrap_u32, wrap_u64, wrap_u8]
  refine resC_2 (a := ⟨R, 0, none⟩) (v := needV ((agt who ws).getD noNeed)) (by simp -dsimp -implicitDefEqProofs only [go_sem]) (run_loadVar_row fact_aggSz_42 (by rw [hR])) ?_
  refine ⟨?_, by simp -dsimp -implicitDefEqProofs only [go_sem]⟩
  refine St.ent (A := TabQ B m1 m2 ps ws * F) ?_ (Ent.sep (TabQ.shut B m1 m2 ps ws hps) (Ent.rfl' F))
  unfold TabQ
  exact h5.right.right

end Go.Proofs.YtacmnfpgimgigaaGreat

namespace Go.Proofs.YtacmnfpgimgigaaGreat
open Go Go.Sort
set_option linter.unusedSimpArgs false
set_option linter.unusedVariables false
set_option maxRecDepth 100000

instance (b : Nat) (s : LkS) : Face (.obj b) (LkP b s) := ⟨⟩
instance (b : Nat) (v1 v2 : Value) (hs q : List Claim) : Face (.obj b) (LkQ b v1 v2 hs q) := ⟨⟩
theorem LkP.openH {w0 w : World} {A : HP} {C : HP → HP} {b : Nat} {s : LkS} (h : St w0 A w) [i : Hole (.obj b) A (LkP b s) C] : ∃ v1 v2, St w0 (C (LkQ b v1 v2 s.1 s.2)) w := by
  obtain ⟨R, hR, h'⟩ := h.out (.obj b)
  unfold LkP at h'
  obtain ⟨⟨v1, v2⟩, h''⟩ := h'.exF
  exact ⟨v1, v2, by rw [hR]; exact h''⟩
theorem LkQ.shutH {w0 w : World} {A : HP} {C : HP → HP} {v1 v2 : Value} {hs q : List Claim} (h : St w0 A w) (b : Nat) [i : Hole (.obj b) A (LkQ b v1 v2 hs q) C] : St w0 (C (LkP b (hs, q))) w := h.turnTo (.obj b) (LkQ.shut b v1 v2 hs q)
theorem LkQ.clH {w0 w : World} {A : HP} {C : HP → HP} {v1 v2 : Value} {hs q : List Claim} (h : St w0 A w) (b : Nat) [i : Hole (.obj b) A (LkQ b v1 v2 hs q) C] (i : Nat) : w.cell? ⟨b, i, none⟩ = (#[v1, v2] : Array Value)[i]? := by
  obtain ⟨R, hR, h'⟩ := h.out (.obj b)
  exact LkQ.blk h' i
instance (b : Nat) (v1 v2 : Value) (hs q : List Claim) : Gives (LkQ b v1 v2 hs q) (Reads 2 v1 hs.length (clR hs)) :=
  ⟨by unfold LkQ; exact (Ent.right _ _).trans ((Ent.left _ _).trans (RowO.reads _ _ _ _ _))⟩
instance (b : Nat) (v1 v2 : Value) (hs q : List Claim) : Gives (LkQ b v1 v2 hs q) (Reads 2 v2 q.length (clR q)) :=
  ⟨by unfold LkQ; exact (Ent.right _ _).trans ((Ent.right _ _).trans (RowO.reads _ _ _ _ _))⟩

def lksP (ps : Ptrs) : HP := stars (fun p : Nam × (Nat × LkS) => LkP p.2.1 p.2.2) ps
theorem TabQ_eq (B m1 m2 : Nat) (ps : Ptrs) (ws : List (Int × Nee)) : TabQ B m1 m2 ps ws = Blk B (.cells #[.map (some m1), .map (some m2)] 58 (0, 0)) * (MapP namV m1 (amap ptrV ps) * (MapP encI m2 (amap needV ws) * lksP ps)) := rfl
theorem lks_open {ps : Ptrs} {x : Nam} {b : Nat} {s : LkS} (hk : agt x ps = some (b, s)) : lksP ps = LkP b s * lksP (adel x ps) := stars_open _ x (b, s) ps hk

section agt
variable {κ α : Type} [DecidableEq κ]
theorem agt_of_mem {x : κ} {v : α} : ∀ {l : List (κ × α)}, (l.map (·.1)).Nodup → (x, v) ∈ l → agt x l = some v
  | (y, u) :: l, hn, hm => by
    simp only [List.map_cons, List.nodup_cons] at hn
    rcases List.mem_cons.1 hm with h | h
    · simp only [Prod.mk.injEq] at h
      simp [agt, h.1, h.2]
    · have : x ≠ y := fun e => hn.1 (e ▸ List.mem_map.2 ⟨(x, v), h, rfl⟩)
      simp only [agt, if_neg this]
      exact agt_of_mem hn.2 h
theorem mem_of_agt {x : κ} {v : α} : ∀ {l : List (κ × α)}, agt x l = some v → (x, v) ∈ l
  | (y, u) :: l, h => by
    simp only [agt] at h
    split at h
    · rename_i e
      simp only [Option.some.injEq] at h
      subst e h
      simp
    · exact List.mem_cons_of_mem _ (mem_of_agt h)
end agt

/-- A claim that somebody has on a lock, as a need. -/
def heldOf (who : Int) (p : Nam × LkS) : Option Nee := if 0 ≤ posC who p.2.1 0 then some (p.1, ((p.2.1[(posC who p.2.1 0).toNat]?).getD (0, false)).2) else none
def heldL (who : Int) (ls : List (Nam × LkS)) : List Nee := ls.filterMap (heldOf who)
def leN (x y : Nee) : Bool := !decide (cmpN y.1 x.1 < 0)
def heldS (who : Int) (ls : List (Nam × LkS)) : List Nee := (heldL who ls).mergeSort leN

theorem needR_cells (l : List Nee) : ∀ v ∈ l.flatMap needC, isCell v = true := by
  intro v hv
  obtain ⟨n, _, h⟩ := List.mem_flatMap.1 hv
  exact needC_cells n v h


theorem cmpNeed_any {w0 w : World} {F : HP} {a b : Nee} (h : St w0 F w) : Calls Tryz.prog 53 #[needV a, needV b] w fun e w' => St w0 F w' ∧ e = .returned (.int .i64 (cmpN a.1 b.1)) := by
  refine F53.calls (by simp) ?_
  unfold F53.code
  simp -dsimp -implicitDefEqProofs (disch := omega) only [go_sem, reqD_of, dec_t, dec_f, wrap_i64, wrap_u32, wrap_u64, wrap_u8]
  refine h.new fun X w1 h1 => ?_
  simp -dsimp -implicitDefEqProofs (disch := omega) only [go_sem, reqD_of, dec_t, dec_f, wrap_i64, wrap_u32, wrap_u64, wrap_u8]
  refine h1.new fun Y w2 h2 => ?_
  have hX : rowV w2 ⟨X, 0, none⟩ 3 = some (namV a.1) := h2.rowAtH X 0 3 (by simp [needC])
  have hY : rowV w2 ⟨Y, 0, none⟩ 3 = some (namV b.1) := h2.rowAtH Y 0 3 (by simp [needC])
  simp -dsimp -implicitDefEqProofs (disch := omega) only [go_sem, reqD_of, dec_t, dec_f, wrap_i64, wrap_u32, wrap_u64, wrap_u8, hX, hY]
  refine (compare_any (a := a.1) (b := b.1) h2).mono ?_
  rintro e w3 ⟨h3, rfl⟩
  simp -dsimp -implicitDefEqProofs (disch := omega) only [go_sem, reqD_of, dec_t, dec_f, wrap_i64, wrap_u32, wrap_u64, wrap_u8]
  exact h3.right.right

theorem cmp3_neg (a b : Int) : cmp3 a b < 0 ↔ a < b := by
  unfold cmp3
  split
  · simp; omega
  · split <;> simp <;> omega
theorem cmpN_neg (a b : Nam) : cmpN a b < 0 ↔ a.1 < b.1 ∨ a.1 = b.1 ∧ (a.2.1 < b.2.1 ∨ a.2.1 = b.2.1 ∧ a.2.2 < b.2.2) := by
  unfold cmpN
  rcases Int.lt_trichotomy a.1 b.1 with h | h | h
  · simp [orL, cmp3_lt h, h]
  · rcases Int.lt_trichotomy a.2.1 b.2.1 with k | k | k
    · simp [orL, h, cmp3_eq, cmp3_lt k, k]
    · rcases Int.lt_trichotomy a.2.2 b.2.2 with m | m | m
      · simp [orL, h, cmp3_eq, k, cmp3_lt m, m]
      · simp [orL, h, cmp3_eq, k, m]
      · simp [orL, h, cmp3_eq, k, cmp3_gt m]; omega
    · simp [orL, h, cmp3_eq, cmp3_gt k]; omega
  · simp [orL, cmp3_gt h]; omega
theorem ltN_iff (a b : Nee) : ltOf (fun x y : Nee => cmpN x.1 y.1) a b = decide (cmpN a.1 b.1 < 0) := rfl
theorem swoN : SWO (ltOf fun x y : Nee => cmpN x.1 y.1) where
  irrefl x := by rw [ltN_iff, decide_eq_false_iff_not, cmpN_neg]; omega
  trans x y z h1 h2 := by rw [ltN_iff, decide_eq_true_iff, cmpN_neg] at *; omega
  ntrans x y z h1 h2 := by rw [ltN_iff, decide_eq_false_iff_not, cmpN_neg] at *; omega

theorem leN_refl (x : Nee) : leN x x = true := by
  simp only [leN, Bool.not_eq_true', decide_eq_false_iff_not, cmpN_neg]
  omega
theorem leN_sorted (l : List Nee) : (l.mergeSort leN).Pairwise fun x y => leN x y = true := by
  refine List.pairwise_mergeSort ?_ ?_ l
  · intro a b c h1 h2
    simp only [leN, Bool.not_eq_true', decide_eq_false_iff_not, cmpN_neg] at h1 h2 ⊢
    omega
  · intro a b
    simp only [leN, Bool.or_eq_true, Bool.not_eq_true', decide_eq_false_iff_not, cmpN_neg]
    omega
theorem leN_anti {l : List Nee} (hn : (l.map (·.1)).Nodup) {x y : Nee} (hx : x ∈ l) (hy : y ∈ l) (h1 : leN x y = true) (h2 : leN y x = true) : x = y := by
  have hxy : x.1 = y.1 := by
    simp only [leN, Bool.not_eq_true', decide_eq_false_iff_not, cmpN_neg] at h1 h2
    obtain ⟨⟨a1, a2, a3⟩, a4⟩ := x
    obtain ⟨⟨b1, b2, b3⟩, b4⟩ := y
    simp only [Prod.mk.injEq] at *
    omega
  obtain ⟨i, hi, rfl⟩ := List.getElem_of_mem hx
  obtain ⟨j, hj, rfl⟩ := List.getElem_of_mem hy
  have := (List.getElem_inj (h₀ := by simpa using hi) (h₁ := by simpa using hj) hn).1 (by simpa using hxy)
  subst this; rfl

theorem sortNeeds_any {w0 w : World} {F : HP} {v : Value} {l : List Nee} (h : St w0 (RowO 42 4 v l.length (l.flatMap needC) * F) w) (hsz : l.length < 4611686018427387904) (hn : (l.map (·.1)).Nodup) :
    Calls Tryz.prog 52 #[v, .func (.func 53) #[] #[]] w fun e w' => St w0 (RowO 42 4 v l.length ((l.mergeSort leN).flatMap needC) * F) w' ∧ e = .returned (.tuple #[]) := by
  refine (St.sortFuncP (P := Tryz.prog) sortNeedL (k := 4) (enc := needC) (cf := fun x y : Nee => cmpN x.1 y.1) (g := 53) Tryz.isAgg42 Tryz.sizeOf42 (fun _ => rfl) (fun x v hv => by
    have := needC_cells x v hv
    rwa [isCell_eq] at this) swoN (fun args w => fnOk0_run (by kernel_rfl) args w) (fun W x y => ?_) h hsz).mono ?_
  · exact (cmpNeed_any (St.start W)).mono fun e w' h => h
  · rintro e w' ⟨l', hp, hs, h', he⟩
    have hu : l' = l.mergeSort leN := by
      refine perm_sorted_unique (r := fun x y => leN x y = true) (fun x hx y hy h1 h2 => leN_anti hn (hp.mem_iff.1 hx) (hp.mem_iff.1 hy) h1 h2) (hp.trans (List.mergeSort_perm l leN).symm) ?_ (leN_sorted l) fun x _ => leN_refl x
      exact hs.imp fun {a b} h => by simpa [leN, ltOf] using h
    rw [hu] at h'
    exact ⟨h', he⟩

end Go.Proofs.YtacmnfpgimgigaaGreat

namespace Go.Proofs.YtacmnfpgimgigaaGreat
open Go
set_option linter.unusedSimpArgs false
set_option linter.unusedVariables false
set_option maxRecDepth 100000

theorem heldL_app (who : Int) (a b : List (Nam × LkS)) : heldL who (a ++ b) = heldL who a ++ heldL who b := List.filterMap_append
theorem amap_app {κ α β : Type} (f : α → β) (a b : List (κ × α)) : amap f (a ++ b) = amap f a ++ amap f b := List.map_append
theorem heldL_names (who : Int) : ∀ ls : List (Nam × LkS), ((heldL who ls).map (·.1)).Sublist (ls.map (·.1))
  | [] => .slnil
  | p :: ls => by
    have ih := heldL_names who ls
    simp only [heldL, List.filterMap_cons, List.map_cons] at ih ⊢
    cases h : heldOf who p with
    | none => exact ih.cons _
    | some n =>
      have : n.1 = p.1 := by
        simp only [heldOf] at h
        split at h
        · simp only [Option.some.injEq] at h; rw [← h]
        · cases h
      simp only [List.map_cons, this]
      exact ih.cons_cons _

section
attribute [local go_sem] F25.t4_eq F25.t8_eq
theorem held_any {w0 w : World} {F : HP} {B : Nat} {ls : List (Nam × LkS)} {ws : List (Int × Nee)} {who : Int} (h : St w0 (TabP B ls ws * F) w) (hb : ∀ p ∈ ls, p.2.1.length < 1099511627776) (hn : ls.length < 1099511627776) :
    Calls Tryz.prog 25 #[.pointer (some ⟨B, 0, none⟩), .int .i64 who] w fun e w' => ∃ v, St w0 (RowO 42 4 v (heldS who ls).length ((heldS who ls).flatMap needC) * (TabP B ls ws * F)) w' ∧ e = .returned v := by
  obtain ⟨m1, m2, ps, hps, h1⟩ := TabP.open h
  rw [TabQ_eq] at h1
  refine F25.calls (by simp) ?_
  unfold F25.code
  simp -dsimp -implicitDefEqProofs (disch := omega) only [go_sem, reqD_of, dec_t, dec_f, wrap_i64, wrap_u32, wrap_u64, wrap_u8, h1.cl]
  have hkeys : (ps.map (·.1)).Nodup := by
    have := h1.mapNodup m1
    rwa [amap_keys] at this
  refine h1.rangeH (b := m1) Tryz.underlying55 fun r w1 h2 => ?_
  simp -dsimp -implicitDefEqProofs (disch := omega) only [go_sem, reqD_of, dec_t, dec_f, wrap_i64, wrap_u32, wrap_u64, wrap_u8]
  refine loop_intro (fun e w' => e.ds = [] ∧ e.ρ 0 = .pointer (some ⟨B, 0, none⟩) ∧ e.ρ 1 = .int .i64 who ∧ e.ρ 13 = .pointer (some ⟨r, 0, none⟩) ∧ ∃ (v : Value) (done left : Ptrs), e.ρ 5 = v ∧ (done ++ left).Perm ps ∧
      St w0 (RowO 42 4 v (heldL who (amap (·.2) done)).length ((heldL who (amap (·.2) done)).flatMap needC) * (Blk B (.cells #[.map (some m1), .map (some m2)] 58 (0, 0)) * (IterP namV m1 r (amap ptrV ps) (amap ptrV left) * (MapP encI m2 (amap needV ws) * (lksP ps * F))))) w')
    (fun _ w => iterLeft m1 r w) ?_ ?_
  · refine ⟨rfl, by simp -dsimp -implicitDefEqProofs only [go_sem], by simp -dsimp -implicitDefEqProofs only [go_sem], by simp -dsimp -implicitDefEqProofs only [go_sem], .slice none 0 0, [], ps, by simp -dsimp -implicitDefEqProofs only [go_sem], .refl _, ?_⟩
    show St w0 (RowO 42 4 (.slice none 0 0) 0 [] * _) _
    exact (h2.nilR 42 4).sub
  rintro e w2 ⟨hd, e0, e1, e13, v, done, left, e5, hperm, h3⟩
  have hlen : done.length ≤ ls.length := by
    have := hperm.length_eq
    rw [← hps]; simp only [amap, List.length_map]; simp at this; omega
  have hll : (heldL who (amap (·.2) done)).length ≤ done.length := by
    have := List.length_filterMap_le (heldOf who) (amap (·.2) done)
    simpa [heldL, amap] using this
  simp -dsimp -implicitDefEqProofs (disch := omega) only [go_sem, reqD_of, dec_t, dec_f, wrap_i64, wrap_u32, wrap_u64, wrap_u8, hd, e13]
  refine h3.nextP m1 (fun hl => ?_) (fun x rest w3 hx h4 => ?_)
  · -- the end: what was found is sorted
    subst hl
    rw [List.append_nil] at hperm
    have hpl : (heldL who (amap (·.2) done)).Perm (heldL who ls) := by
      rw [← hps]
      exact (hperm.map _).filterMap _
    have hnd : ((heldL who (amap (·.2) done)).map (·.1)).Nodup := by
      refine (heldL_names who _).nodup ?_
      have : (amap (·.2) done).map (·.1) = done.map (·.1) := by simp [amap]
      rw [this]
      exact (hperm.map _).nodup_iff.2 hkeys
    simp -dsimp -implicitDefEqProofs (disch := omega) only [go_sem, reqD_of, dec_t, dec_f, wrap_i64, wrap_u32, wrap_u64, wrap_u8, hd, e5]
    refine (sortNeeds_any h3 (by omega) hnd).mono ?_
    rintro e' w4 ⟨h4, rfl⟩
    simp -dsimp -implicitDefEqProofs (disch := omega) only [go_sem, reqD_of, dec_t, dec_f, wrap_i64, wrap_u32, wrap_u64, wrap_u8, hd, e5]
    refine ⟨v, ?_, rfl⟩
    have hs : (heldL who (amap (·.2) done)).mergeSort leN = heldS who ls := by
      unfold heldS
      refine perm_sorted_unique (r := fun x y => leN x y = true) ?_ ((List.mergeSort_perm _ _).trans (hpl.trans (List.mergeSort_perm _ _).symm)) (leN_sorted _) (leN_sorted _) fun x _ => leN_refl x
      intro x hx y hy h1 h2
      exact leN_anti hnd (List.mem_mergeSort.1 hx) (List.mem_mergeSort.1 hy) h1 h2
    have hlen2 : (heldL who (amap (·.2) done)).length = (heldS who ls).length := by rw [← hs, List.length_mergeSort]
    rw [hs, hlen2] at h4
    have h5 := h4.iterEnd m1
    refine St.ent (A := RowO 42 4 v (heldS who ls).length ((heldS who ls).flatMap needC) * (TabQ B m1 m2 ps ws * F)) ?_ (Ent.sep (Ent.rfl' _) (Ent.sep (TabQ.shut B m1 m2 ps ws hps) (Ent.rfl' F)))
    rw [TabQ_eq]
    exact h5.ac (by ac_rfl)
  · obtain ⟨nm, b, s⟩ := x
    simp -dsimp -implicitDefEqProofs (disch := omega) only [go_sem, reqD_of, dec_t, dec_f, wrap_i64, wrap_u32, wrap_u64, wrap_u8, hd, e13]
    refine h4.entryH m1 ?_
    have h5 := h4.iterDone m1
    simp -dsimp -implicitDefEqProofs (disch := omega) only [go_sem, reqD_of, dec_t, dec_f, wrap_i64, wrap_u32, wrap_u64, wrap_u8, hd]
    refine h5.new fun X w4 h6 => ?_
    simp -dsimp -implicitDefEqProofs (disch := omega) only [go_sem, reqD_of, dec_t, dec_f, wrap_i64, wrap_u32, wrap_u64, wrap_u8, hd]
    refine h6.stoAll (cs := namC nm) rfl rfl (namC_cells _) fun w5 h7 => ?_
    have hmem : (nm, (b, s)) ∈ ps := hperm.mem_iff.1 (List.mem_append_right _ (hx.mem_iff.1 (by simp)))
    have hk := agt_of_mem hkeys hmem
    rw [lks_open hk] at h7
    obtain ⟨v1, v2, h8⟩ := LkP.openH (b := b) h7
    have hsl : s.1.length < 1099511627776 := hb (nm, s) (by rw [← hps]; exact List.mem_map.2 ⟨(nm, (b, s)), hmem, rfl⟩)
    obtain ⟨R, hR, h9⟩ := h8.out (.obj b)
    simp -dsimp -implicitDefEqProofs (disch := omega) only [go_sem, reqD_of, dec_t, dec_f, wrap_i64, wrap_u32, wrap_u64, wrap_u8, hd, e1, ptrV]
    refine (holds_any h9 hsl).mono ?_
    rintro e' w6 ⟨h10, rfl⟩
    rw [← hR] at h10
    have hpm : ((done ++ [(nm, (b, s))]) ++ rest).Perm ps := by
      rw [List.append_assoc]
      exact (List.Perm.append_left done hx).trans hperm
    have hone : heldL who (amap (·.2) (done ++ [(nm, (b, s))])) = heldL who (amap (·.2) done) ++ (heldOf who (nm, s)).toList := by
      rw [amap_app, heldL_app]
      congr 1
    have hmeas : ∀ {A : HP} {C : HP → HP} {w' : World} [Hole (.map m1) A (IterP namV m1 r (amap ptrV ps) (amap ptrV rest)) C], St w0 A w' → iterLeft m1 r w' < iterLeft m1 r w2 := by
      intro A C w' _ hw'
      rw [hw'.iterLeft m1, h3.iterLeft m1]
      have := hx.length_eq
      simp only [amap, List.length_map]
      simp at this
      omega
    by_cases hp : 0 ≤ posC who s.1 0
    · rcases posC_spec who s.1 0 with hpi | ⟨i, hi, hpi⟩
      · omega
      rw [Nat.zero_add] at hpi
      have hsome : heldOf who (nm, s) = some (nm, (s.1[i]).2) := by simp [heldOf, hpi, hi]
      have h11 := h10.drew
      obtain ⟨_, a1, c1, rfl, hc1, hcl⟩ := claimAt (h11.gives (B := Reads 2 v1 s.1.length (clR s.1)))
      obtain ⟨g, o, rfl, hrow, hx0, hx1⟩ := hcl i hi
      have hbk := LkQ.clH h11 b
      have hX := h11.rowH X 3 rfl
      simp -dsimp -implicitDefEqProofs (disch := omega) only [go_sem, reqD_of, dec_t, dec_f, wrap_i64, wrap_u32, wrap_u64, wrap_u8, hd, e0, e1, e13, e5, hpi, hX, hbk, hx1]
      refine onV_of (v := needV (nm, (s.1[i]).2)) rfl ?_
      simp -dsimp -implicitDefEqProofs (disch := omega) only [go_sem, reqD_of, dec_t, dec_f, wrap_i64, wrap_u32, wrap_u64, wrap_u8]
      refine h11.lit fact_rowTy_63 (cells := needC (nm, (s.1[i]).2)) rfl (by decide) (by decide) fun v3 w7 h12 => ?_
      simp -dsimp -implicitDefEqProofs (disch := omega) only [go_sem, reqD_of, dec_t, dec_f, wrap_i64, wrap_u32, wrap_u64, wrap_u8, e5]
      refine h12.appR (v := v) fact_rowTy_63 Tryz.underlying63 (needC_cells _) (by simp [needC]) (by simp only [maxLen]; omega) (by omega) fun v4 w8 h13 => ?_
      simp -dsimp -implicitDefEqProofs (disch := omega) only [go_sem, reqD_of, dec_t, dec_f, wrap_i64, wrap_u32, wrap_u64, wrap_u8, hd, e0, e1, e13, e5]
      have h14 := LkQ.shutH h13 b
      refine ⟨⟨v4, done ++ [(nm, (b, s))], rest, rfl, hpm, ?_⟩, ?_⟩
      · rw [hone, hsome, lks_open hk]
        simp only [Option.toList_some, List.length_append, List.length_cons, List.length_nil, Nat.zero_add, List.flatMap_append, List.flatMap_cons, List.flatMap_nil, List.append_nil]
        exact h14.sub
      · exact hmeas h14
    · have hno : heldOf who (nm, s) = none := by simp [heldOf, hp]
      simp -dsimp -implicitDefEqProofs (disch := omega) only [go_sem, reqD_of, dec_t, dec_f, wrap_i64, wrap_u32, wrap_u64, wrap_u8, hd, e0, e1, e13, e5, hp]
      have h11 := LkQ.shutH h10 b
      have h12 : St w0 _ w6 := h11
      refine ⟨⟨v, done ++ [(nm, (b, s))], rest, rfl, hpm, ?_⟩, ?_⟩
      · rw [hone, hno, lks_open hk]
        simp only [Option.toList_none, List.append_nil]
        exact h11.sub
      · exact hmeas h11

end
end Go.Proofs.YtacmnfpgimgigaaGreat

namespace Go.Proofs.YtacmnfpgimgigaaGreat
open Go
set_option linter.unusedSimpArgs false
set_option linter.unusedVariables false
set_option maxRecDepth 100000


theorem isWho43_any {w0 w : World} {F : HP} {p : Nat} {T : TypeId} {who x : Int} {y : Bool} (h : St w0 F w) (hp : Ent F (Blk p (.cells #[.int .i64 who] T (0, 0)))) :
    Calls Tryz.prog 49 #[.agg #[.int .i64 x, .bool y], .pointer (some ⟨p, 0, none⟩)] w fun e w' => St w0 F w' ∧ e = .returned (.bool (decide (x = who))) := by
  refine F49.calls (by simp) ?_
  unfold F49.code
  simp -dsimp -implicitDefEqProofs (disch := omega) only [go_sem, reqD_of, dec_t, dec_f, wrap_i64, wrap_u32, wrap_u64, wrap_u8]
  refine h.new fun B w1 h1 => ?_
  have hc := h1.cl B
  have hq := (((h1.right.ent (Ent.trans hp (Ent.rfl' _))).ent (Ent.blkE _ _))).blk
  have hq0 := cell_of_heap hq 0
  simp -dsimp -implicitDefEqProofs (disch := omega) only [go_sem, reqD_of, dec_t, dec_f, wrap_i64, wrap_u32, wrap_u64, wrap_u8, hc, hq0]
  exact h1.right

theorem clR_set : ∀ (i : Nat) (m : List Claim) (x : Claim), i < m.length → setRowL (clR m) (i * 2) (clC x) = clR (m.set i x)
  | 0, c :: m, x, _ => rfl
  | i + 1, c :: m, x, h => by
    have ih := clR_set i m x (by simpa using h)
    simp only [clC, setRowL] at ih ⊢
    rw [show (i + 1) * 2 = i * 2 + 1 + 1 by omega]
    simp only [clR, List.set_cons_succ]
    rw [ih]

def notWho (who : Int) (l : List Claim) : List Claim := l.filter fun c => !decide (c.1 = who)
theorem notWho_none {who : Int} : ∀ {l : List Claim} {k : Nat}, posC who l k = -1 → notWho who l = l
  | [], _, _ => rfl
  | c :: l, k, h => by
    simp only [posC] at h
    split at h
    · omega
    · rename_i hc
      have := notWho_none h
      simp only [notWho] at this
      simp [notWho, hc, this]
theorem notWho_pos {who : Int} : ∀ {l : List Claim} {k i : Nat}, posC who l k = ((k + i : Nat) : Int) → i < l.length → notWho who (l.take (i + 1)) = l.take i
  | [], _, _, _, hi => by simp at hi
  | c :: l, k, i, h, hi => by
    simp only [posC] at h
    split at h
    · rename_i hc
      have : i = 0 := by omega
      subst this
      simp [notWho, hc]
    · rename_i hc
      cases i with
      | zero =>
        rcases posC_spec who l (k + 1) with h' | ⟨m, _, h'⟩ <;> omega
      | succ i =>
        have := notWho_pos (l := l) (k := k + 1) (i := i) (by rw [h]; omega) (by simpa using hi)
        simp only [notWho] at this
        simp [notWho, hc, this]

section
attribute [local go_sem] F48.t6_eq F48.t7_eq F48.t11_eq F48.t4_eq
theorem deleteFunc_any {w0 w : World} {F : HP} {p : Nat} {T : TypeId} {who : Int} {v : Value} {l : List Claim} (h : St w0 (RowO 76 2 v l.length (clR l) * F) w) (hp : Ent F (Blk p (.cells #[.int .i64 who] T (0, 0)))) (hl : l.length < 1099511627776) :
    Calls Tryz.prog 48 #[v, .func (.func 49) #[] #[.pointer (some ⟨p, 0, none⟩)]] w fun e w' => ∃ v', St w0 (RowO 76 2 v' (notWho who l).length (clR (notWho who l)) * F) w' ∧ e = .returned v' := by
  refine F48.calls (by simp) ?_
  unfold F48.code
  simp -dsimp -implicitDefEqProofs (disch := omega) only [go_sem, reqD_of, dec_t, dec_f, wrap_i64, wrap_u32, wrap_u64, wrap_u8]
  refine (index_gen (p := p) (who := who) fact_fnOk_49 (fun h => isWho43_any h ((Ent.right _ _).trans hp)) h (Gives.ent (B := Reads 2 v l.length (clR l))) hl).mono ?_
  rintro e w1 ⟨h1, rfl⟩
  rcases posC_spec who l 0 with hp1 | ⟨i0, hi0, hp1⟩
  · simp -dsimp -implicitDefEqProofs (disch := omega) only [go_sem, reqD_of, dec_t, dec_f, wrap_i64, wrap_u32, wrap_u64, wrap_u8, hp1]
    refine ⟨v, ?_, rfl⟩
    rw [notWho_none hp1]
    exact h1
  rw [Nat.zero_add] at hp1
  obtain ⟨a, c, rfl, _, hnc, hcm⟩ := RowO.form h
  obtain ⟨_, a', c', hv, _, hcl⟩ := claimAt (h1.gives (B := Reads 2 (.slice a l.length c) l.length (clR l)))
  simp only [Value.slice.injEq, true_and] at hv
  obtain ⟨rfl, rfl⟩ := hv
  obtain ⟨g, o, rfl, _⟩ := hcl i0 hi0
  have hne : ¬ (i0 : Int) = -1 := by omega
  simp -dsimp -implicitDefEqProofs (disch := omega) only [go_sem, reqD_of, dec_t, dec_f, wrap_i64, wrap_u32, wrap_u64, wrap_u8, hp1, hne]
  refine loop_intro (fun e w' => e.ds = [] ∧ e.ρ 0 = .slice (some ⟨g, o, none⟩) l.length c ∧ e.ρ 1 = .func (.func 49) #[] #[.pointer (some ⟨p, 0, none⟩)] ∧ ∃ (i j : Nat) (m : List Claim), i < j ∧ j ≤ l.length ∧ e.ρ 5 = .int .i64 i ∧ e.ρ 6 = .int .i64 j ∧ m.length = l.length ∧ m.take i = notWho who (l.take j) ∧ m.drop j = l.drop j ∧
      St w0 (RowO 76 2 (.slice (some ⟨g, o, none⟩) l.length c) l.length (clR m) * F) w')
    (fun e _ => match e.ρ 6 with | .int _ n => (l.length - n).toNat | _ => 0) ?_ ?_
  · exact ⟨rfl, by simp -dsimp -implicitDefEqProofs only [go_sem], by simp -dsimp -implicitDefEqProofs only [go_sem], i0, i0 + 1, l, by omega, by omega, by simp -dsimp -implicitDefEqProofs only [go_sem], (by simp -dsimp -implicitDefEqProofs (disch := omega) only [go_sem, reqD_of, dec_t, dec_f, wrap_i64, wrap_u32, wrap_u64, wrap_u8]; omega), rfl, (notWho_pos (k := 0) (by simpa using hp1) hi0).symm, rfl, h1⟩
  rintro e w2 ⟨hd, e0, e1, i, j, m, hij, hj, e5, e6, hml, htk, hdr, h2⟩
  by_cases hlt : (j : Int) < l.length
  case neg =>
    have hjl : j = l.length := by omega
    subst hjl
    rw [List.take_length] at htk
    have hil : i = (notWho who l).length := by rw [← htk, List.length_take]; omega
    have hne2 : ¬ c = i := by omega
    have hcut := h2.ent (Ent.sep (RowO.cut (lo := 0) (k := i) (m := c) (by omega) (by omega) (Nat.le_refl _)) (Ent.rfl' _))
    simp only [Nat.zero_mul, Option.map_some, add_lit, Nat.add_zero, ite_self, Nat.sub_zero, List.drop_zero, clR_take] at hcut
    simp -dsimp -implicitDefEqProofs (disch := omega) only [go_sem, reqD_of, dec_t, dec_f, wrap_i64, wrap_u32, wrap_u64, wrap_u8, hd, e0, e1, e5, e6, hlt]
    rw [if_neg hne2]
    refine hcut.clearTail fact_rowTy_71 (by intro v hv; simp only [List.mem_cons, List.not_mem_nil, or_false] at hv; rcases hv with rfl | rfl <;> rfl) (Nat.le_refl _) (by omega) (by omega) fun w3 h3 => ?_
    simp -dsimp -implicitDefEqProofs (disch := omega) only [go_sem, reqD_of, dec_t, dec_f, wrap_i64, wrap_u32, wrap_u64, wrap_u8, hd, e0, e1, e5, e6]
    refine ⟨_, ?_, rfl⟩
    rw [htk] at h3
    rw [← hil]
    simpa using h3
  have hjl : j < l.length := by omega
  have hjm : j < m.length := by omega
  have hmj : m[j] = l[j] := by
    have e1 := List.drop_eq_getElem_cons hjm
    have e2 := List.drop_eq_getElem_cons hjl
    rw [hdr, e2] at e1
    exact (List.cons.inj e1).1.symm
  obtain ⟨_, a', c', hv, _, hcl⟩ := claimAt (h2.gives (B := Reads 2 (.slice (some ⟨g, o, none⟩) l.length c) l.length (clR m)))
  simp only [Value.slice.injEq, true_and] at hv
  obtain ⟨rfl, rfl⟩ := hv
  obtain ⟨g', o', hv, hrow, _, _⟩ := hcl j hjm
  simp only [Option.some.injEq, Addr.mk.injEq, and_true] at hv
  obtain ⟨rfl, rfl⟩ := hv
  rw [hmj] at hrow
  have hfil : notWho who (l.take (j + 1)) = notWho who (l.take j) ++ notWho who [l[j]] := by
    unfold notWho; rw [List.take_succ_eq_append_getElem hjl, List.filter_append]
  simp -dsimp -implicitDefEqProofs (disch := omega) only [go_sem, reqD_of, dec_t, dec_f, wrap_i64, wrap_u32, wrap_u64, wrap_u8, hd, e0, e1, e5, e6, hlt, hrow]
  refine h2.new fun X w3 h3 => ?_
  simp -dsimp -implicitDefEqProofs (disch := omega) only [go_sem, reqD_of, dec_t, dec_f, wrap_i64, wrap_u32, wrap_u64, wrap_u8]
  refine h3.stoAll (cs := clC l[j]) rfl rfl (by intro v hv; simp only [clC, List.mem_cons, List.not_mem_nil, or_false] at hv; rcases hv with rfl | rfl <;> rfl) fun w4 h4 => ?_
  have hX := h4.rowH X 2 rfl
  unfold clC at hX
  simp -dsimp -implicitDefEqProofs (disch := omega) only [go_sem, reqD_of, dec_t, dec_f, wrap_i64, wrap_u32, wrap_u64, wrap_u8, hd, e0, e1, e5, e6, hX, callY_clos]
  refine (isWho43_any h4 ((Ent.right _ _).trans ((Ent.right _ _).trans hp))).mono ?_
  rintro e' w5 ⟨h5, rfl⟩
  by_cases hw : (l[j]).1 = who
  · simp -dsimp -implicitDefEqProofs (disch := omega) only [go_sem, reqD_of, dec_t, dec_f, wrap_i64, wrap_u32, wrap_u64, wrap_u8, hd, e0, e1, e5, e6, hw]
    refine ⟨⟨i, j + 1, m, by omega, by omega, rfl, by omega, hml, ?_, ?_, ?_⟩, by omega⟩
    · rw [hfil, ← htk]; simp [notWho, hw]
    · rw [← List.drop_drop, hdr, List.drop_drop]
    · exact h5.right
  · have hX5 := h5.rowH X 2 rfl
    unfold clC at hX5
    simp -dsimp -implicitDefEqProofs (disch := omega) only [go_sem, reqD_of, dec_t, dec_f, wrap_i64, wrap_u32, wrap_u64, wrap_u8, hd, e0, e1, e5, e6, hw, hX5]
    refine h5.rowSet (n := l.length) (c := c) (xs := clR m) (k := i * 2) (cs := clC l[j]) rfl (by rw [clR_length]; omega) (by intro v hv; simp only [clC, List.mem_cons, List.not_mem_nil, or_false] at hv; rcases hv with rfl | rfl <;> rfl) fun w6 h6 => ?_
    rw [clR_set i m _ (by omega)] at h6
    simp -dsimp -implicitDefEqProofs (disch := omega) only [go_sem, reqD_of, dec_t, dec_f, wrap_i64, wrap_u32, wrap_u64, wrap_u8, hd, e0, e1, e5, e6]
    have hil : i < (m.set i l[j]).length := by simp; omega
    have htk2 : (m.set i l[j]).take (i + 1) = m.take i ++ [l[j]] := by
      rw [List.take_succ_eq_append_getElem hil, List.take_set_of_le (Nat.le_refl i)]
      simp
    refine ⟨⟨i + 1, j + 1, m.set i l[j], by omega, by omega, by omega, by omega, by simpa using hml, ?_, ?_, ?_⟩, by omega⟩
    · rw [htk2, hfil, htk]
      simp [notWho, hw]
    · rw [List.drop_set_of_lt (by omega), ← List.drop_drop, hdr, List.drop_drop]
    · exact h6.right

end
end Go.Proofs.YtacmnfpgimgigaaGreat

namespace Go.Proofs.YtacmnfpgimgigaaGreat
open Go
set_option linter.unusedSimpArgs false
set_option linter.unusedVariables false
set_option maxRecDepth 100000

/-! ### How many claims there are -/
def tot (ls : List (Nam × LkS)) : Nat := (ls.map fun p => p.2.1.length + p.2.2.length).sum
def totQ (ls : List (Nam × LkS)) : Nat := (ls.map fun p => p.2.2.length).sum
theorem tot_mem {p : Nam × LkS} : ∀ {ls : List (Nam × LkS)}, p ∈ ls → p.2.1.length + p.2.2.length ≤ tot ls
  | q :: ls, h => by
    rcases List.mem_cons.1 h with rfl | h
    · simp [tot]
    · have := tot_mem h
      simp only [tot, List.map_cons, List.sum_cons] at this ⊢
      omega
theorem tot_agt {x : Nam} {ls : List (Nam × LkS)} : ((agt x ls).getD ([], [])).1.length + ((agt x ls).getD ([], [])).2.length ≤ tot ls := by
  cases h : agt x ls with
  | none => simp
  | some s => exact tot_mem (mem_of_agt h)
theorem tot_aset {x : Nam} {s s' : LkS} : ∀ {ls : List (Nam × LkS)}, agt x ls = some s → tot (aset x s' ls) + (s.1.length + s.2.length) = tot ls + (s'.1.length + s'.2.length) ∧ totQ (aset x s' ls) + s.2.length = totQ ls + s'.2.length ∧ (aset x s' ls).length = ls.length
  | (y, u) :: ls, h => by
    simp only [agt] at h
    simp only [aset]
    split at h
    · rename_i e
      simp only [Option.some.injEq] at h
      subst h
      rw [if_pos e]
      simp only [tot, totQ, List.map_cons, List.sum_cons, List.length_cons]
      refine ⟨?_, ?_, ?_⟩ <;> first | trivial | omega
    · rename_i e
      rw [if_neg e]
      have := tot_aset (s' := s') h
      simp only [tot, totQ, List.map_cons, List.sum_cons, List.length_cons] at this ⊢
      omega
theorem tot_adel {x : Nam} {s : LkS} : ∀ {ls : List (Nam × LkS)}, agt x ls = some s → tot (adel x ls) + (s.1.length + s.2.length) = tot ls ∧ totQ (adel x ls) + s.2.length = totQ ls ∧ (adel x ls).length + 1 = ls.length
  | (y, u) :: ls, h => by
    simp only [agt] at h
    simp only [adel]
    split at h
    · rename_i e
      simp only [Option.some.injEq] at h
      subst h
      rw [if_pos e]
      simp only [tot, totQ, List.map_cons, List.sum_cons, List.length_cons]
      refine ⟨?_, ?_, ?_⟩ <;> first | trivial | omega
    · rename_i e
      rw [if_neg e]
      have := tot_adel h
      simp only [tot, totQ, List.map_cons, List.sum_cons, List.length_cons] at this ⊢
      omega

theorem adm_spec : ∀ (hs q : List Claim), (adm hs q).1 = hs ++ (adm hs q).2.2 ∧ q = (adm hs q).2.2 ++ (adm hs q).2.1
  | hs, [] => by simp [adm]
  | hs, c :: q => by
    by_cases h : letsB hs c.2 = true
    · obtain ⟨h1, h2⟩ := adm_spec (hs ++ [c]) q
      rw [adm_go h]
      refine ⟨by rw [h1]; simp, ?_⟩
      simp only [List.cons_append]
      rw [← h2]
    · rw [adm_stop (by simpa using h)]
      simp

/-- A lock is turned and then lets in. -/
def turnS (x : Nam) (s : LkS) (ls : List (Nam × LkS)) (ws : List (Int × Nee)) : List Claim × List (Nam × LkS) × List (Int × Nee) :=
  ((adm s.1 s.2).2.2, if (adm s.1 s.2).1 = [] then adel x (aset x s ls) else aset x ((adm s.1 s.2).1, (adm s.1 s.2).2.1) (aset x s ls), delAll (adm s.1 s.2).2.2 ws)
theorem freeS_turn {who : Int} {x : Nam} {ls : List (Nam × LkS)} {ws : List (Int × Nee)} {s : LkS} (h : agt x ls = some s) {i : Nat} (hi : posC who s.1 0 = i) :
    freeS who x ls ws = (((turnS x (s.1.eraseIdx i, s.2) ls ws).1, 0), (turnS x (s.1.eraseIdx i, s.2) ls ws).2) := by
  have : ¬ ((i : Int) < 0) := by omega
  simp [freeS, h, hi, this, turnS]
theorem freeS_no {who : Int} {x : Nam} {ls : List (Nam × LkS)} {ws : List (Int × Nee)} (h : ∀ s, agt x ls = some s → posC who s.1 0 < 0) : freeS who x ls ws = (([], 1), ls, ws) := by
  cases hx : agt x ls with
  | none => simp [freeS, hx]
  | some s => simp [freeS, hx, h s hx]

theorem turnS_tot {x : Nam} {s s0 : LkS} {ls : List (Nam × LkS)} {ws : List (Int × Nee)} (h : agt x ls = some s0) (h1 : s.1.length ≤ s0.1.length) (h2 : s.2.length ≤ s0.2.length) :
    tot (turnS x s ls ws).2.1 ≤ tot ls ∧ (turnS x s ls ws).1.length + totQ (turnS x s ls ws).2.1 ≤ totQ ls ∧ (turnS x s ls ws).2.1.length ≤ ls.length := by
  obtain ⟨a1, a2⟩ := adm_spec s.1 s.2
  obtain ⟨b1, b2, b3⟩ := tot_aset (s' := s) h
  have hs : agt x (aset x s ls) = some s := agt_aset _ _ _
  have e1 := congrArg List.length a1
  have e2 := congrArg List.length a2
  simp only [List.length_append] at e1 e2
  simp only [turnS]
  split
  · rename_i hn
    obtain ⟨c1, c2, c3⟩ := tot_adel hs
    rw [hn] at e1
    simp only [List.length_nil] at e1
    omega
  · obtain ⟨c1, c2, c3⟩ := tot_aset (s' := ((adm s.1 s.2).1, (adm s.1 s.2).2.1)) hs
    simp only at c1 c2
    omega

theorem freeS_tot (who : Int) (x : Nam) (ls : List (Nam × LkS)) (ws : List (Int × Nee)) :
    tot (freeS who x ls ws).2.1 ≤ tot ls ∧ (freeS who x ls ws).1.1.length + totQ (freeS who x ls ws).2.1 ≤ totQ ls ∧ (freeS who x ls ws).2.1.length ≤ ls.length := by
  cases h : agt x ls with
  | none => rw [freeS_no (by simp [h])]; simp
  | some s =>
    rcases posC_spec who s.1 0 with hp | ⟨i, hi, hp⟩
    · rw [freeS_no (by intro s' hs'; rw [h] at hs'; cases hs'; omega)]; simp
    · rw [Nat.zero_add] at hp
      rw [freeS_turn h hp]
      exact turnS_tot h (by simp only [List.length_eraseIdx]; split <;> omega) (Nat.le_refl _)

/-- Somebody waits no more. -/
def leave1 (who : Int) (ls : List (Nam × LkS)) (ws : List (Int × Nee)) : List Claim × List (Nam × LkS) × List (Int × Nee) :=
  match agt who ws with
  | none => ([], ls, ws)
  | some n => match agt n.1 ls with
    | none => ([], ls, ws)
    | some s => turnS n.1 (s.1, notWho who s.2) ls (adel who ws)
/-- Somebody lets go of these. -/
def leaveL (who : Int) : List Nee → List (Nam × LkS) → List (Int × Nee) → List Claim × List (Nam × LkS) × List (Int × Nee)
  | [], ls, ws => ([], ls, ws)
  | n :: L, ls, ws => ((freeS who n.1 ls ws).1.1 ++ (leaveL who L (freeS who n.1 ls ws).2.1 (freeS who n.1 ls ws).2.2).1, (leaveL who L (freeS who n.1 ls ws).2.1 (freeS who n.1 ls ws).2.2).2)
def leaveS (who : Int) (ls : List (Nam × LkS)) (ws : List (Int × Nee)) : List Claim × List (Nam × LkS) × List (Int × Nee) :=
  ((leave1 who ls ws).1 ++ (leaveL who (heldS who (leave1 who ls ws).2.1) (leave1 who ls ws).2.1 (leave1 who ls ws).2.2).1, (leaveL who (heldS who (leave1 who ls ws).2.1) (leave1 who ls ws).2.1 (leave1 who ls ws).2.2).2)

theorem leave1_tot (who : Int) (ls : List (Nam × LkS)) (ws : List (Int × Nee)) :
    tot (leave1 who ls ws).2.1 ≤ tot ls ∧ (leave1 who ls ws).1.length + totQ (leave1 who ls ws).2.1 ≤ totQ ls ∧ (leave1 who ls ws).2.1.length ≤ ls.length := by
  unfold leave1
  split
  · simp
  · split
    · simp
    · rename_i s hs
      exact turnS_tot hs (Nat.le_refl _) (List.length_filter_le _ _)
theorem leaveL_tot (who : Int) : ∀ (L : List Nee) (ls : List (Nam × LkS)) (ws : List (Int × Nee)),
    tot (leaveL who L ls ws).2.1 ≤ tot ls ∧ (leaveL who L ls ws).1.length + totQ (leaveL who L ls ws).2.1 ≤ totQ ls ∧ (leaveL who L ls ws).2.1.length ≤ ls.length
  | [], ls, ws => by simp [leaveL]
  | n :: L, ls, ws => by
    obtain ⟨a1, a2, a3⟩ := freeS_tot who n.1 ls ws
    obtain ⟨b1, b2, b3⟩ := leaveL_tot who L (freeS who n.1 ls ws).2.1 (freeS who n.1 ls ws).2.2
    simp only [leaveL, List.length_append]
    omega
theorem leaveS_tot (who : Int) (ls : List (Nam × LkS)) (ws : List (Int × Nee)) :
    tot (leaveS who ls ws).2.1 ≤ tot ls ∧ (leaveS who ls ws).1.length + totQ (leaveS who ls ws).2.1 ≤ totQ ls ∧ (leaveS who ls ws).2.1.length ≤ ls.length := by
  obtain ⟨a1, a2, a3⟩ := leave1_tot who ls ws
  obtain ⟨b1, b2, b3⟩ := leaveL_tot who (heldS who (leave1 who ls ws).2.1) (leave1 who ls ws).2.1 (leave1 who ls ws).2.2
  simp only [leaveS, List.length_append]
  omega
theorem totQ_le_tot (ls : List (Nam × LkS)) : totQ ls ≤ tot ls := by
  induction ls with
  | nil => simp [tot, totQ]
  | cons p ls ih => simp only [tot, totQ, List.map_cons, List.sum_cons] at ih ⊢; omega

end Go.Proofs.YtacmnfpgimgigaaGreat

namespace Go.Proofs.YtacmnfpgimgigaaGreat
open Go
set_option linter.unusedSimpArgs false
set_option linter.unusedVariables false
set_option maxRecDepth 100000

theorem needC_length (n : Nee) : (needC n).length = 4 := rfl

theorem lkQ_q (b : Nat) (v1 v2 : Value) (hs q : List Claim) : LkQ b v1 v2 hs q = RowO 76 2 v2 q.length (clR q) * (Blk b (.cells #[v1, v2] 73 (0, 0)) * RowO 76 2 v1 hs.length (clR hs)) := by unfold LkQ; ac_rfl

instance (B : Nat) (ls : List (Nam × LkS)) (ws : List (Int × Nee)) : Face (.obj B) (TabP B ls ws) := ⟨⟩

section
attribute [local go_sem] F21.t13_eq F21.t10_eq F21.t14_eq
theorem leave_tail {w0 w : World} {F : HP} {B W : Nat} {ls : List (Nam × LkS)} {ws : List (Int × Nee)} {who : Int} {l : List Claim} {v : Value} {e : FA}
    (h : St w0 (RowO 3 1 v l.length (intR (l.map (·.1))) * (TabP B ls ws * (Blk W (.cells #[.int .i64 who] 3 (0, 0)) * F))) w) (hd : e.ds = []) (e0 : e.ρ 0 = .pointer (some ⟨B, 0, none⟩)) (e3 : e.ρ 3 = .pointer (some ⟨W, 0, none⟩)) (e5 : e.ρ 5 = v)
    (hT : tot ls < 1099511627776) (hL : ls.length < 1099511627776) (hQ : l.length + totQ ls < 1099511627776) :
    cwE Tryz.prog F21.t8 (fnP Tryz.prog #[.tmp 4] fun e w' => ∃ v', St w0 (RowO 3 1 v' (l ++ (leaveL who (heldS who ls) ls ws).1).length (intR ((l ++ (leaveL who (heldS who ls) ls ws).1).map (·.1))) * (TabP B (leaveL who (heldS who ls) ls ws).2.1 (leaveL who (heldS who ls) ls ws).2.2 * F)) w' ∧ e = .returned v') e w := by
  rw [F21.t8_eq]
  have hHl : (heldS who ls).length ≤ ls.length := by unfold heldS heldL; rw [List.length_mergeSort]; exact List.length_filterMap_le _ _
  have hW := h.cl W
  simp -dsimp -implicitDefEqProofs (disch := omega) only [go_sem, reqD_of, dec_t, dec_f, wrap_i64, wrap_u32, wrap_u64, wrap_u8, hd, e0, e3, e5, hW]
  refine (held_any h.sw2 (fun p hp => by have := tot_mem hp; omega) hL).mono ?_
  rintro e' w1 ⟨vL, h1, rfl⟩
  obtain ⟨_, aL, cL, hv, _, _⟩ := St.rowsAt (k := 4) needC_length (by decide) (h1.gives (B := Reads 4 vL (heldS who ls).length ((heldS who ls).flatMap needC)))
  subst hv
  simp -dsimp -implicitDefEqProofs (disch := omega) only [go_sem, reqD_of, dec_t, dec_f, wrap_i64, wrap_u32, wrap_u64, wrap_u8, hd, e0, e3, e5]
  refine loop_intro (fun e w' => e.ds = [] ∧ e.ρ 0 = .pointer (some ⟨B, 0, none⟩) ∧ e.ρ 3 = .pointer (some ⟨W, 0, none⟩) ∧ e.ρ 50 = .slice aL (heldS who ls).length cL ∧ e.ρ 51 = .int .i64 (heldS who ls).length ∧
      ∃ (k : Nat) (v : Value) (lk : List Claim) (lsk : List (Nam × LkS)) (wsk : List (Int × Nee)), k ≤ (heldS who ls).length ∧ e.ρ 52 = .int .i64 k ∧ e.ρ 5 = v ∧ l ++ (leaveL who (heldS who ls) ls ws).1 = lk ++ (leaveL who ((heldS who ls).drop k) lsk wsk).1 ∧ (leaveL who (heldS who ls) ls ws).2 = (leaveL who ((heldS who ls).drop k) lsk wsk).2 ∧
      tot lsk < 1099511627776 ∧ lsk.length < 1099511627776 ∧ lk.length + totQ lsk < 1099511627776 ∧
      St w0 (RowO 3 1 v lk.length (intR (lk.map (·.1))) * (TabP B lsk wsk * (RowO 42 4 (.slice aL (heldS who ls).length cL) (heldS who ls).length ((heldS who ls).flatMap needC) * (Blk W (.cells #[.int .i64 who] 3 (0, 0)) * F)))) w')
    (fun e _ => match e.ρ 52 with | .int _ n => ((heldS who ls).length - n).toNat | _ => 0) ?_ ?_
  · refine ⟨by simp -dsimp -implicitDefEqProofs only [go_sem, hd], by simp -dsimp -implicitDefEqProofs only [go_sem, e0], by simp -dsimp -implicitDefEqProofs only [go_sem, e3], by simp -dsimp -implicitDefEqProofs only [go_sem], by simp -dsimp -implicitDefEqProofs only [go_sem], 0, v, l, ls, ws, by omega, by simp -dsimp -implicitDefEqProofs only [go_sem], by simp -dsimp -implicitDefEqProofs only [go_sem, e5], rfl, rfl, hT, hL, hQ, ?_⟩
    exact h1.sub
  rintro e w2 ⟨hd, e0, e3, e50, e51, k, v, lk, lsk, wsk, hk, e52, e5, hr1, hr2, hTk, hLk, hQk, h2⟩
  by_cases hlt : (k : Int) < (heldS who ls).length
  case neg =>
    have : k = (heldS who ls).length := by omega
    subst this
    simp -dsimp -implicitDefEqProofs (disch := omega) only [go_sem, reqD_of, dec_t, dec_f, wrap_i64, wrap_u32, wrap_u64, wrap_u8, hd, e0, e3, e5, e50, e51, e52, hlt]
    rw [List.drop_length] at hr1 hr2
    simp only [leaveL, List.append_nil] at hr1 hr2
    refine ⟨v, ?_, rfl⟩
    rw [hr1, hr2]
    exact h2.sub
  have hkl : k < (heldS who ls).length := by omega
  obtain ⟨_, _, _, hv, _, hcl⟩ := St.rowsAt (k := 4) needC_length (by decide) (h2.gives (B := Reads 4 (.slice aL (heldS who ls).length cL) (heldS who ls).length ((heldS who ls).flatMap needC)))
  simp only [Value.slice.injEq, true_and] at hv
  obtain ⟨rfl, rfl⟩ := hv
  obtain ⟨g, o, rfl, hrow, _⟩ := hcl k hkl
  generalize hn : (heldS who ls)[k] = n at hrow
  simp -dsimp -implicitDefEqProofs (disch := omega) only [go_sem, reqD_of, dec_t, dec_f, wrap_i64, wrap_u32, wrap_u64, wrap_u8, hd, e0, e3, e5, e50, e51, e52, hlt, hrow]
  refine h2.new fun X w3 h3 => ?_
  simp -dsimp -implicitDefEqProofs (disch := omega) only [go_sem, reqD_of, dec_t, dec_f, wrap_i64, wrap_u32, wrap_u64, wrap_u8]
  refine h3.stoAll (cs := needC n) rfl rfl (needC_cells _) fun w4 h4 => ?_
  have hX : rowV w4 ⟨X, 0, none⟩ 3 = some (namV n.1) := h4.rowAtH X 0 3 (by simp [needC])
  have hW4 := h4.cl W
  simp -dsimp -implicitDefEqProofs (disch := omega) only [go_sem, reqD_of, dec_t, dec_f, wrap_i64, wrap_u32, wrap_u64, wrap_u8, hd, e0, e3, e5, e50, e51, e52, hX, hW4]
  have hft := freeS_tot who n.1 lsk wsk
  generalize hF : freeS who n.1 lsk wsk = R0 at hft
  obtain ⟨⟨l1, er⟩, ls1, ws1⟩ := R0
  simp only at hft
  have hlock := tot_agt (x := n.1) (ls := lsk)
  obtain ⟨R, hR, h5⟩ := h4.out (.obj B)
  refine (free_any h5 hF (by omega)).mono ?_
  rintro e' w5 ⟨v1, h6, rfl⟩
  rw [← hR] at h6
  simp -dsimp -implicitDefEqProofs (disch := omega) only [go_sem, reqD_of, dec_t, dec_f, wrap_i64, wrap_u32, wrap_u64, wrap_u8, hd, e0, e3, e5, e50, e51, e52]
  refine h6.appR (v := v) (x := v1) fact_rowTy_32 Tryz.underlying32 (intR_cells _) (by simp [intR]) (by simp only [maxLen]; omega) (by omega) fun v2 w6 h7 => ?_
  simp -dsimp -implicitDefEqProofs (disch := omega) only [go_sem, reqD_of, dec_t, dec_f, wrap_i64, wrap_u32, wrap_u64, wrap_u8, hd, e0, e3, e5, e50, e51, e52]
  rw [List.drop_eq_getElem_cons hkl, hn] at hr1 hr2
  simp only [leaveL, hF] at hr1 hr2
  refine ⟨⟨k + 1, v2, lk ++ l1, ls1, ws1, by omega, by omega, rfl, by rw [hr1, List.append_assoc], hr2, by omega, by omega, by rw [List.length_append]; omega, ?_⟩, by omega⟩
  have hin : intR (lk.map (·.1)) ++ intR (l1.map (·.1)) = intR ((lk ++ l1).map (·.1)) := by simp [intR]
  rw [hin, ← List.length_append] at h7
  exact h7.sub

theorem TabP.col {w0 w : World} {A R1 R2 R3 R4 : HP} {B m1 m2 : Nat} {ps : Ptrs} {ls : List (Nam × LkS)} {ws : List (Int × Nee)} (h : St w0 A w) (hps : amap (·.2) ps = ls) [i1 : Pull A (Blk B (.cells #[.map (some m1), .map (some m2)] 58 (0, 0))) R1] [i2 : Pull R1 (MapP namV m1 (amap ptrV ps)) R2] [i3 : Pull R2 (MapP encI m2 (amap needV ws)) R3] [i4 : Pull R3 (lksP ps) R4] :
    St w0 (TabP B ls ws * R4) w := by
  have h1 : St w0 (TabQ B m1 m2 ps ws * R4) w := h.ac (by rw [i1.eq, i2.eq, i3.eq, i4.eq, TabQ_eq]; ac_rfl)
  exact h1.ent (Ent.sep (TabQ.shut B m1 m2 ps ws hps) (Ent.rfl' R4))
theorem lks_shut {ps : Ptrs} {x : Nam} {b : Nat} {s s' : LkS} (hk : agt x ps = some (b, s)) : LkP b s' * lksP (adel x ps) = lksP (aset x (b, s') ps) := (stars_aset (fun p : Nam × (Nat × LkS) => LkP p.2.1 p.2.2) x (b, s) (b, s') ps hk).symm
theorem ptr_aset {ps : Ptrs} {x : Nam} {b : Nat} {s s' : LkS} (hk : agt x ps = some (b, s)) : amap ptrV ps = amap ptrV (aset x (b, s') ps) := (amap_aset_same ptrV x (b, s) (b, s') rfl ps hk).symm

end
section
attribute [local go_sem] F21.t13_eq F21.t10_eq F21.t14_eq
theorem leave_any {w0 w : World} {F : HP} {B : Nat} {ls : List (Nam × LkS)} {ws : List (Int × Nee)} {who : Int} (h : St w0 (TabP B ls ws * F) w) (hw : ∀ n, agt who ws = some n → ∃ s, agt n.1 ls = some s) (hT : tot ls < 1099511627776) (hL : ls.length < 1099511627776) :
    Calls Tryz.prog 21 #[.pointer (some ⟨B, 0, none⟩), .int .i64 who] w fun e w' => ∃ v', St w0 (RowO 3 1 v' (leaveS who ls ws).1.length (intR ((leaveS who ls ws).1.map (·.1))) * (TabP B (leaveS who ls ws).2.1 (leaveS who ls ws).2.2 * F)) w' ∧ e = .returned v' := by
  refine F21.calls (by simp) ?_
  unfold F21.code
  have hQ := totQ_le_tot ls
  have hlt1 := leave1_tot who ls ws
  simp -dsimp -implicitDefEqProofs (disch := omega) only [go_sem, reqD_of, dec_t, dec_f, wrap_i64, wrap_u32, wrap_u64, wrap_u8]
  refine h.new fun W w1 h1 => ?_
  obtain ⟨m1, m2, ps, hps, h2⟩ := TabP.open h1.drew.sw2
  rw [TabQ_eq] at h2
  have h2c := h2.cl
  simp -dsimp -implicitDefEqProofs (disch := omega) only [go_sem, reqD_of, dec_t, dec_f, wrap_i64, wrap_u32, wrap_u64, wrap_u8, h2.cl]
  refine h2.lkH (b := m2) Tryz.underlying56 lawI zeroV38 ?_
  have hlkv : lkV (needV ((0, 0, 0), false)) true (lk who (amap needV ws)) = .tuple #[needV ((agt who ws).getD ((0, 0, 0), false)), .bool (agt who ws).isSome] := by rw [lk_amap, lkV_get]
  generalize hnn : (agt who ws).getD ((0, 0, 0), false) = n at hlkv
  simp -dsimp -implicitDefEqProofs (disch := omega) only [go_sem, reqD_of, dec_t, dec_f, wrap_i64, wrap_u32, wrap_u64, wrap_u8, hlkv]
  refine h2.new fun N w2 h3 => ?_
  simp -dsimp -implicitDefEqProofs (disch := omega) only [go_sem, reqD_of, dec_t, dec_f, wrap_i64, wrap_u32, wrap_u64, wrap_u8, h3.cl]
  refine ⟨h3.lkH (b := m2) Tryz.underlying56 lawI zeroV38 hlkv, ?_⟩
  refine h3.stoAll (cs := needC n) rfl rfl (needC_cells _) fun w3 h4 => ?_
  cases hag : agt who ws with
  | none =>
    have hl1 : leave1 who ls ws = ([], ls, ws) := by simp [leave1, hag]
    simp -dsimp -implicitDefEqProofs (disch := omega) only [go_sem, reqD_of, dec_t, dec_f, wrap_i64, wrap_u32, wrap_u64, wrap_u8, Option.isSome_none]
    have h5 := (TabP.col (B := B) (m1 := m1) (m2 := m2) (ws := ws) h4 hps).nilR 3 1
    rw [show leaveS who ls ws = leaveL who (heldS who ls) ls ws by simp [leaveS, hl1]]
    exact leave_tail (W := W) (l := []) (v := .slice none 0 0) (show St w0 (RowO 3 1 (.slice none 0 0) 0 [] * (TabP B ls ws * (Blk W (.cells #[.int .i64 who] 3 (0, 0)) * F))) w3 from h5.sub) (by simp -dsimp -implicitDefEqProofs only [go_sem]) (by simp -dsimp -implicitDefEqProofs only [go_sem]) (by simp -dsimp -implicitDefEqProofs only [go_sem]) (by simp -dsimp -implicitDefEqProofs only [go_sem]) hT hL (by simp; omega)
  | some n' =>
    rw [hag] at hnn
    simp only [Option.getD_some] at hnn
    subst hnn
    have h4c := h4.drew
    have hN : rowV w3.drew ⟨N, 0, none⟩ 3 = some (namV n'.1) := h4c.rowAtH N 0 3 (by simp [needC])
    obtain ⟨s, hs⟩ := hw n' hag
    obtain ⟨b, hk⟩ : ∃ b, agt n'.1 ps = some (b, s) := by
      rw [← hps, agt_amap] at hs
      cases hk : agt n'.1 ps with
      | none => rw [hk] at hs; cases hs
      | some x => rw [hk] at hs; simp only [Option.map_some, Option.some.injEq] at hs; exact ⟨x.1, by rw [← hs]⟩
    have hsl := tot_mem (mem_of_agt hs)
    simp only at hsl
    simp -dsimp -implicitDefEqProofs (disch := omega) only [go_sem, reqD_of, dec_t, dec_f, wrap_i64, wrap_u32, wrap_u64, wrap_u8, Option.isSome_some, h4c.cl, hN]
    refine h4c.lkH (b := m1) Tryz.underlying55 lawN zeroV67 ?_
    rw [show lk n'.1 (amap ptrV ps) = some (ptrV (b, s)) by rw [lk_amap, hk]; rfl]
    rw [lks_open hk] at h4c
    obtain ⟨v1, v2, h5⟩ := LkP.openH (b := b) h4c
    unfold LkQ at h5
    simp -dsimp -implicitDefEqProofs (disch := omega) only [go_sem, reqD_of, dec_t, dec_f, wrap_i64, wrap_u32, wrap_u64, wrap_u8, lkV_some, ptrV, h5.cl]
    refine (deleteFunc_any (p := W) (T := 3) (who := who) (h5.take (.row v2)) Gives.ent (by omega)).mono ?_
    rintro e' w5 ⟨v2', h7, rfl⟩
    obtain ⟨a2, c2, rfl, _⟩ := h7.rowForm v2'
    simp -dsimp -implicitDefEqProofs (disch := omega) only [go_sem, reqD_of, dec_t, dec_f, wrap_i64, wrap_u32, wrap_u64, wrap_u8]
    refine h7.sto (by simp) rfl fun w6 h8 => ?_
    simp only [List.setIfInBounds_toArray, List.set_cons_succ, List.set_cons_zero] at h8
    have h9 := h8.drew
    simp -dsimp -implicitDefEqProofs (disch := omega) only [go_sem, reqD_of, dec_t, dec_f, wrap_i64, wrap_u32, wrap_u64, wrap_u8, h9.cl]
    refine h9.delH (b := m2) Tryz.underlying56 lawI fun w7 h10 => ?_
    rw [del_amap] at h10
    have hN7 : rowV w7 ⟨N, 0, none⟩ 3 = some (namV n'.1) := h10.rowAtH N 0 3 (by simp [needC])
    simp -dsimp -implicitDefEqProofs (disch := omega) only [go_sem, reqD_of, dec_t, dec_f, wrap_i64, wrap_u32, wrap_u64, wrap_u8, hN7]
    have h11 : St w0 (LkP b (s.1, notWho who s.2) * (lksP (adel n'.1 ps) * (Blk B (.cells #[.map (some m1), .map (some m2)] 58 (0, 0)) * (MapP namV m1 (amap ptrV ps) * (MapP encI m2 (amap needV (adel who ws)) * (Blk W (.cells #[.int .i64 who] 3 (0, 0)) * F)))))) w7 := by
      refine St.ent (A := LkQ b v1 (.slice a2 (notWho who s.2).length c2) s.1 (notWho who s.2) * (lksP (adel n'.1 ps) * (Blk B (.cells #[.map (some m1), .map (some m2)] 58 (0, 0)) * (MapP namV m1 (amap ptrV ps) * (MapP encI m2 (amap needV (adel who ws)) * (Blk W (.cells #[.int .i64 who] 3 (0, 0)) * F)))))) ?_ (Ent.sep (LkQ.shut _ _ _ _ _) (Ent.rfl' _))
      unfold LkQ
      have h12 : St w0 (Blk b (.cells #[v1, .slice a2 (notWho who s.2).length c2] 73 (0, 0)) * (RowO 76 2 v1 s.1.length (clR s.1) * (RowO 76 2 (.slice a2 (notWho who s.2).length c2) (notWho who s.2).length (clR (notWho who s.2)) * (lksP (adel n'.1 ps) * (Blk B (.cells #[.map (some m1), .map (some m2)] 58 (0, 0)) * (MapP namV m1 (amap ptrV ps) * (MapP encI m2 (amap needV (adel who ws)) * (Blk W (.cells #[.int .i64 who] 3 (0, 0)) * F)))))))) w7 := h10.sub
      exact h12.ac (by ac_rfl)
    rw [ptr_aset (s' := (s.1, notWho who s.2)) hk] at h11
    have h12 := h11.ac (show _ = (LkP b (s.1, notWho who s.2) * lksP (adel n'.1 ps)) * (Blk B (.cells #[.map (some m1), .map (some m2)] 58 (0, 0)) * (MapP namV m1 (amap ptrV (aset n'.1 (b, (s.1, notWho who s.2)) ps)) * (MapP encI m2 (amap needV (adel who ws)) * (Blk W (.cells #[.int .i64 who] 3 (0, 0)) * F)))) by ac_rfl)
    rw [lks_shut hk] at h12
    have h13 := TabP.col (B := B) (m1 := m1) (m2 := m2) (ws := adel who ws) (ls := aset n'.1 (s.1, notWho who s.2) ls) h12 (by have := aset_amap (fun q : Nat × LkS => q.2) n'.1 (b, (s.1, notWho who s.2)) ps; rw [hps] at this; exact this.symm)
    obtain ⟨⟨hs', q', l'⟩, hA⟩ : ∃ y, adm s.1 (notWho who s.2) = y := ⟨_, rfl⟩
    have hnl : (notWho who s.2).length ≤ s.2.length := List.length_filter_le _ _
    refine (admit_any h13 (agt_aset _ _ _) hA (show s.1.length + (notWho who s.2).length < _ by omega)).mono ?_
    rintro e' w8 ⟨v3, h14, rfl⟩
    have hl1 : leave1 who ls ws = (l', (if hs' = [] then adel n'.1 (aset n'.1 (s.1, notWho who s.2) ls) else aset n'.1 (hs', q') (aset n'.1 (s.1, notWho who s.2) ls)), delAll l' (adel who ws)) := by
      simp [leave1, hag, hs, turnS, hA]
    rw [hl1] at hlt1
    simp only at hlt1
    rw [show leaveS who ls ws = (l' ++ (leaveL who (heldS who (leave1 who ls ws).2.1) (leave1 who ls ws).2.1 (leave1 who ls ws).2.2).1, (leaveL who (heldS who (leave1 who ls ws).2.1) (leave1 who ls ws).2.1 (leave1 who ls ws).2.2).2) by unfold leaveS; rw [hl1], hl1]
    simp -dsimp -implicitDefEqProofs (disch := omega) only [go_sem, reqD_of, dec_t, dec_f, wrap_i64, wrap_u32, wrap_u64, wrap_u8]
    exact leave_tail (W := W) (l := l') (v := v3) h14.sub (by simp -dsimp -implicitDefEqProofs only [go_sem]) (by simp -dsimp -implicitDefEqProofs only [go_sem]) (by simp -dsimp -implicitDefEqProofs only [go_sem]) (by simp -dsimp -implicitDefEqProofs only [go_sem]) (by dsimp only; omega) (by dsimp only; omega) (by dsimp only; omega)

end
end Go.Proofs.YtacmnfpgimgigaaGreat

namespace Go.Proofs.YtacmnfpgimgigaaGreat
open Go
set_option linter.unusedSimpArgs false
set_option linter.unusedVariables false
set_option maxRecDepth 100000

def holdersS (x : Nam) (ls : List (Nam × LkS)) : List Int := (((agt x ls).getD ([], [])).1.map (·.1)).mergeSort fun a b => decide (a ≤ b)

section
attribute [local go_sem] F30.t4_eq
theorem holders_any {w0 w : World} {F : HP} {B : Nat} {ls : List (Nam × LkS)} {ws : List (Int × Nee)} {x : Nam} (h : St w0 (TabP B ls ws * F) w) (hl : ((agt x ls).getD ([], [])).1.length < 1099511627776) :
    Calls Tryz.prog 30 #[.pointer (some ⟨B, 0, none⟩), namV x] w fun e w' => ∃ v, St w0 (RowO 3 1 v (holdersS x ls).length (intR (holdersS x ls)) * (TabP B ls ws * F)) w' ∧ e = .returned v := by
  refine F30.calls (by simp) ?_
  unfold F30.code
  simp -dsimp -implicitDefEqProofs (disch := omega) only [go_sem, reqD_of, dec_t, dec_f, wrap_i64, wrap_u32, wrap_u64, wrap_u8]
  refine h.new fun N w1 h1 => ?_
  obtain ⟨m1, m2, ps, hps, h2⟩ := TabP.open h1.drew.sw2
  rw [TabQ_eq] at h2
  have hN : rowV w1.drew ⟨N, 0, none⟩ 3 = some (namV x) := h2.rowH N 3 rfl
  simp -dsimp -implicitDefEqProofs (disch := omega) only [go_sem, reqD_of, dec_t, dec_f, wrap_i64, wrap_u32, wrap_u64, wrap_u8, h2.cl, hN]
  refine h2.lkH (b := m1) Tryz.underlying55 lawN zeroV67 ?_
  rw [lk_amap]
  cases hk : agt x ps with
  | none =>
    have hls : agt x ls = none := by rw [← hps, agt_amap, hk]; rfl
    have e0 : holdersS x ls = [] := by simp [holdersS, hls]
    rw [Option.map_none]
    simp -dsimp -implicitDefEqProofs (disch := omega) only [go_sem, reqD_of, dec_t, dec_f, wrap_i64, wrap_u32, wrap_u64, wrap_u8, lkV_none]
    refine ⟨_, ?_, rfl⟩
    rw [e0]
    exact ((TabP.col (B := B) (m1 := m1) (m2 := m2) (ws := ws) h2 hps).nilR 3 1).sub (B := RowO 3 1 (.slice none 0 0) 0 [] * (TabP B ls ws * F))
  | some bs =>
    obtain ⟨b, s⟩ := bs
    have hls : agt x ls = some s := by rw [← hps, agt_amap, hk]; rfl
    rw [hls] at hl
    simp only [Option.getD_some] at hl
    have e0 : holdersS x ls = (s.1.map (·.1)).mergeSort fun a b => decide (a ≤ b) := by simp [holdersS, hls]
    rw [Option.map_some]
    have h3 := h2
    rw [lks_open hk] at h3
    obtain ⟨v1, v2, h4⟩ := LkP.openH (b := b) h3
    have hb := LkQ.clH h4 b
    simp -dsimp -implicitDefEqProofs (disch := omega) only [go_sem, reqD_of, dec_t, dec_f, wrap_i64, wrap_u32, wrap_u64, wrap_u8, lkV_some, ptrV, hb]
    refine (whose_any (n := s.1.length) (l := s.1) h4 Gives.ent hl).mono ?_
    rintro e w2 ⟨v, h5, rfl⟩
    simp -dsimp -implicitDefEqProofs (disch := omega) only [go_sem, reqD_of, dec_t, dec_f, wrap_i64, wrap_u32, wrap_u64, wrap_u8]
    have h6 := LkQ.shutH h5 b
    rw [show LkP b (s.1, s.2) = LkP b s from rfl, ← lks_open hk] at h6
    have h7 := (TabP.col (B := B) (m1 := m1) (m2 := m2) (ws := ws) h6 hps).take (.row v)
    refine (St.sortInts (P := Tryz.prog) sortIntL (T := 3) (l := s.1.map (·.1)) (v := v) (by simpa [intR] using h7) (by simp; omega)).mono ?_
    rintro e w3 ⟨h8, rfl⟩
    simp -dsimp -implicitDefEqProofs (disch := omega) only [go_sem, reqD_of, dec_t, dec_f, wrap_i64, wrap_u32, wrap_u64, wrap_u8]
    refine ⟨v, ?_, rfl⟩
    rw [e0]
    change St w0 (RowO 3 1 v _ (intR _) * _) _ at h8
    rw [show (s.1.map (·.1)).length = ((s.1.map (·.1)).mergeSort fun a b => decide (a ≤ b)).length by rw [List.length_mergeSort]] at h8
    exact h8.sub

theorem needEq (x n : Nee) : (decide (x.1.1 = n.1.1) && (decide (x.1.2.1 = n.1.2.1) && (decide (x.1.2.2 = n.1.2.2) && x.2 == n.2))) = decide (x = n) := by
  obtain ⟨⟨a1, a2, a3⟩, a4⟩ := x
  obtain ⟨⟨b1, b2, b3⟩, b4⟩ := n
  rw [Bool.eq_iff_iff]
  simp
  exact ⟨fun ⟨h1, h2, h3, h4⟩ => ⟨⟨h1, h2, h3⟩, h4⟩, fun ⟨⟨h1, h2, h3⟩, h4⟩ => ⟨h1, h2, h3, h4⟩⟩

/-- A step by raw numbers. -/
abbrev Mv := Int × Int × Int × Bool
def mvC (m : Mv) : List Value := [.int .i64 m.1, .int .i64 m.2.1, .int .i64 m.2.2.1, .bool m.2.2.2]
theorem mvC_length (m : Mv) : (mvC m).length = 4 := rfl
def mvWho (m : Mv) : Int := 1 + pickI m.2.1 8
def mvLock (m : Mv) : Nam := (3, 0, pickI m.2.2.1 6)
def moveS (m : Mv) (ls : List (Nam × LkS)) (ws : List (Int × Nee)) : (List Claim × Bool) × List (Nam × LkS) × List (Int × Nee) :=
  if pickI m.1 4 < 2 then (([], decide ((askS (mvWho m) (mvLock m, m.2.2.2) ls ws).1.2 = 0)), (askS (mvWho m) (mvLock m, m.2.2.2) ls ws).2)
  else if pickI m.1 4 = 2 then (((freeS (mvWho m) (mvLock m) ls ws).1.1, decide ((freeS (mvWho m) (mvLock m) ls ws).1.2 = 0)), (freeS (mvWho m) (mvLock m) ls ws).2)
  else (((leaveS (mvWho m) ls ws).1, true), (leaveS (mvWho m) ls ws).2)
def I64 (n : Int) : Prop := -9223372036854775808 ≤ n ∧ n < 9223372036854775808
def MvOk (m : Mv) : Prop := I64 m.1 ∧ I64 m.2.1 ∧ I64 m.2.2.1

end
end Go.Proofs.YtacmnfpgimgigaaGreat

namespace Go.Proofs.YtacmnfpgimgigaaGreat
open Go
set_option linter.unusedSimpArgs false
set_option linter.unusedVariables false
set_option maxRecDepth 100000

section assoc
variable {κ α : Type} [DecidableEq κ]
theorem agt_aset_if (x y : κ) (v : α) : ∀ l : List (κ × α), agt y (aset x v l) = if y = x then some v else agt y l
  | [] => by simp only [aset, agt]
  | (z, u) :: l => by
    have ih := agt_aset_if x y v l
    by_cases h : x = z
    · subst h
      by_cases hy : y = x <;> simp [aset, agt, hy]
    · by_cases hy : y = x
      · subst hy
        simp [aset, agt, h, ih]
      · by_cases hz : y = z
        · subst hz
          simp [aset, agt, h, hy]
        · simp [aset, agt, h, hy, hz, ih]
theorem agt_none_of_notin {x : κ} : ∀ {l : List (κ × α)}, x ∉ l.map (·.1) → agt x l = none
  | [], _ => rfl
  | (z, u) :: l, h => by
    simp only [List.map_cons, List.mem_cons, not_or] at h
    simp [agt, h.1, agt_none_of_notin h.2]
theorem agt_adel_if {x y : κ} : ∀ {l : List (κ × α)}, (l.map (·.1)).Nodup → agt y (adel x l) = if y = x then none else agt y l
  | [], _ => by simp [adel, agt]
  | (z, u) :: l, hn => by
    simp only [List.map_cons, List.nodup_cons] at hn
    have ih := agt_adel_if (x := x) (y := y) hn.2
    by_cases h : x = z
    · subst h
      by_cases hy : y = x
      · subst hy
        simp [adel, agt_none_of_notin hn.1]
      · simp [adel, agt, hy]
    · by_cases hy : y = x
      · subst hy
        simp [adel, agt, h, ih]
      · by_cases hz : y = z
        · subst hz
          simp [adel, agt, h, hy]
        · simp [adel, agt, h, hy, hz, ih]
theorem adel_keys (x : κ) : ∀ l : List (κ × α), ((adel x l).map (·.1)).Sublist (l.map (·.1))
  | [] => .slnil
  | (z, u) :: l => by
    simp only [adel]
    split
    · exact List.sublist_cons_self _ _
    · exact (adel_keys x l).cons_cons _
theorem adel_nodup {x : κ} {l : List (κ × α)} (h : (l.map (·.1)).Nodup) : ((adel x l).map (·.1)).Nodup := (adel_keys x l).nodup h
theorem aset_keys (x : κ) (v : α) : ∀ l : List (κ × α), ∀ y ∈ (aset x v l).map (·.1), y = x ∨ y ∈ l.map (·.1)
  | [], y, h => by simpa [aset] using h
  | (z, u) :: l, y, h => by
    simp only [aset] at h
    split at h
    · rename_i e
      simp only [List.map_cons, List.mem_cons] at h ⊢
      rcases h with h | h
      · exact .inl h
      · exact .inr (.inr h)
    · simp only [List.map_cons, List.mem_cons] at h ⊢
      rcases h with h | h
      · exact .inr (.inl h)
      · rcases aset_keys x v l y h with h | h
        · exact .inl h
        · exact .inr (.inr h)
theorem aset_nodup {x : κ} {v : α} : ∀ {l : List (κ × α)}, (l.map (·.1)).Nodup → ((aset x v l).map (·.1)).Nodup
  | [], _ => by simp [aset]
  | (z, u) :: l, hn => by
    simp only [List.map_cons, List.nodup_cons] at hn
    simp only [aset]
    split
    · rename_i e
      subst e
      simpa using hn
    · rename_i e
      simp only [List.map_cons, List.nodup_cons]
      refine ⟨fun h => ?_, aset_nodup hn.2⟩
      rcases aset_keys x v l z h with h | h
      · exact e h.symm
      · exact hn.1 h
theorem agt_isSome_iff {x : κ} : ∀ {l : List (κ × α)}, (agt x l).isSome = true ↔ x ∈ l.map (·.1)
  | [] => by simp [agt]
  | (z, u) :: l => by
    have ih := agt_isSome_iff (x := x) (l := l)
    simp only [agt, List.map_cons, List.mem_cons]
    split
    · rename_i h; simp [h]
    · rename_i h; rw [ih]; simp [h]
end assoc

theorem delAll_agt : ∀ (l : List Claim) {ws : List (Int × Nee)} (w : Int), (ws.map (·.1)).Nodup → agt w (delAll l ws) = (if w ∈ l.map (·.1) then none else agt w ws) ∧ ((delAll l ws).map (·.1)).Nodup
  | [], ws, w, hn => by simp [delAll, hn]
  | c :: l, ws, w, hn => by
    have ih := delAll_agt l (ws := adel c.1 ws) w (adel_nodup hn)
    simp only [delAll, List.foldl_cons] at ih ⊢
    refine ⟨?_, ih.2⟩
    rw [ih.1, agt_adel_if hn]
    by_cases h1 : w ∈ l.map (·.1)
    · simp [h1]
    · by_cases h2 : w = c.1
      · simp [h2]
      · simp [h1, h2]

/-! ### Letting in -/
def Alone1 (hs : List Claim) : Prop := ∀ c ∈ hs, c.2 = true → hs = [c]
theorem letsB_iff {hs : List Claim} (ha : Alone1 hs) {a : Bool} : letsB hs a = true ↔ hs = [] ∨ (a = false ∧ ∀ c ∈ hs, c.2 = false) := by
  cases hs with
  | nil => simp [letsB]
  | cons c l =>
    simp only [letsB, reduceCtorEq, false_or, Bool.and_eq_true, Bool.not_eq_true']
    refine ⟨fun ⟨h1, h2⟩ => ⟨h1, fun d hd => ?_⟩, fun ⟨h1, h2⟩ => ⟨h1, h2 c (by simp)⟩⟩
    cases hd2 : d.2 with
    | false => rfl
    | true =>
      have := ha d hd hd2
      simp only [List.cons.injEq] at this
      rw [this.1, hd2] at h2
      cases h2
theorem adm_al : ∀ (hs q : List Claim), Alone1 hs → Alone1 (adm hs q).1
  | hs, [], h => h
  | hs, c :: q, h => by
    by_cases hl : letsB hs c.2 = true
    · rw [adm_go hl]
      refine adm_al (hs ++ [c]) q ?_
      rcases (letsB_iff h).1 hl with h0 | ⟨h0, h1⟩
      · subst h0
        intro d hd _
        simp only [List.nil_append, List.mem_singleton] at hd
        simp [hd]
      · intro d hd hd2
        rcases List.mem_append.1 hd with hd | hd
        · rw [h1 d hd] at hd2; cases hd2
        · simp only [List.mem_singleton] at hd
          rw [hd, h0] at hd2; cases hd2
    · rw [adm_stop (by simpa using hl)]; exact h
theorem adm_hd : ∀ (hs q : List Claim) (c : Claim) (q' : List Claim), (adm hs q).2.1 = c :: q' → letsB (adm hs q).1 c.2 = false
  | hs, [], c, q', h => by simp [adm] at h
  | hs, d :: q, c, q', h => by
    by_cases hl : letsB hs d.2 = true
    · rw [adm_go hl] at h ⊢
      exact adm_hd (hs ++ [d]) q c q' h
    · rw [adm_stop (by simpa using hl)] at h ⊢
      simp only [List.cons.injEq] at h
      rw [← h.1]
      simpa using hl
theorem adm_ne {hs q : List Claim} (h : (adm hs q).1 = []) : (adm hs q).2.1 = [] := by
  cases hq : (adm hs q).2.1 with
  | nil => rfl
  | cons c q' =>
    have := adm_hd hs q c q' hq
    rw [h] at this
    simp [letsB] at this

/-! ### What stays true -/
/-- One lock by itself. -/
structure LkOk (s : LkS) : Prop where
  al : Alone1 s.1
  hn : (s.1.map (·.1)).Nodup
  qn : (s.2.map (·.1)).Nodup
  dj : ∀ c ∈ s.2, c.1 ∉ s.1.map (·.1)

structure Inv (ls : List (Nam × LkS)) (ws : List (Int × Nee)) : Prop where
  kn : (ls.map (·.1)).Nodup
  wn : (ws.map (·.1)).Nodup
  ok : ∀ x s, agt x ls = some s → LkOk s
  ne : ∀ x s, agt x ls = some s → s.1 ≠ []
  hd : ∀ x s c q, agt x ls = some s → s.2 = c :: q → letsB s.1 c.2 = false
  qw : ∀ x s w a, agt x ls = some s → (w, a) ∈ s.2 → agt w ws = some (x, a)
  wq : ∀ w x a, agt w ws = some (x, a) → ∃ s, agt x ls = some s ∧ (w, a) ∈ s.2

/-- A state of which the lock x is to let in yet. -/
structure Pre (x : Nam) (s : LkS) (ls : List (Nam × LkS)) (ws : List (Int × Nee)) : Prop where
  kn : (ls.map (·.1)).Nodup
  wn : (ws.map (·.1)).Nodup
  okx : LkOk s
  ok : ∀ y t, y ≠ x → agt y ls = some t → LkOk t
  ne : ∀ y t, y ≠ x → agt y ls = some t → t.1 ≠ []
  hd : ∀ y t c q, y ≠ x → agt y ls = some t → t.2 = c :: q → letsB t.1 c.2 = false
  qwx : ∀ w a, (w, a) ∈ s.2 → agt w ws = some (x, a)
  qw : ∀ y t w a, y ≠ x → agt y ls = some t → (w, a) ∈ t.2 → agt w ws = some (y, a)
  wq : ∀ w y a, agt w ws = some (y, a) → (y = x ∧ (w, a) ∈ s.2) ∨ (y ≠ x ∧ ∃ t, agt y ls = some t ∧ (w, a) ∈ t.2)

theorem turn_L {x : Nam} {s : LkS} {ls : List (Nam × LkS)} {ws : List (Int × Nee)} (hn : (ls.map (·.1)).Nodup) (y : Nam) :
    agt y (turnS x s ls ws).2.1 = if y = x then (if (adm s.1 s.2).1 = [] then none else some ((adm s.1 s.2).1, (adm s.1 s.2).2.1)) else agt y ls := by
  simp only [turnS]
  by_cases h : (adm s.1 s.2).1 = []
  · rw [if_pos h, agt_adel_if (aset_nodup hn), agt_aset_if, if_pos h]
    by_cases hy : y = x <;> simp [hy]
  · rw [if_neg h, agt_aset_if, agt_aset_if, if_neg h]
    by_cases hy : y = x <;> simp [hy]
theorem turn_Lnodup {x : Nam} {s : LkS} {ls : List (Nam × LkS)} {ws : List (Int × Nee)} (hn : (ls.map (·.1)).Nodup) : ((turnS x s ls ws).2.1.map (·.1)).Nodup := by
  simp only [turnS]
  split
  · exact adel_nodup (aset_nodup hn)
  · exact aset_nodup (aset_nodup hn)

theorem Pre.inv {x : Nam} {s : LkS} {ls : List (Nam × LkS)} {ws : List (Int × Nee)} (p : Pre x s ls ws) : Inv (turnS x s ls ws).2.1 (turnS x s ls ws).2.2 := by
  obtain ⟨e1, e2⟩ := adm_spec s.1 s.2
  have hL := turn_L (x := x) (s := s) (ws := ws) p.kn
  have hW : ∀ w, agt w (turnS x s ls ws).2.2 = if w ∈ (adm s.1 s.2).2.2.map (·.1) then none else agt w ws := fun w => (delAll_agt _ w p.wn).1
  have hqn := p.okx.qn
  have hdj := p.okx.dj
  rw [e2] at hqn hdj
  rw [List.map_append, List.nodup_append] at hqn
  have hok : LkOk ((adm s.1 s.2).1, (adm s.1 s.2).2.1) := by
    refine ⟨adm_al _ _ p.okx.al, ?_, hqn.2.1, ?_⟩
    · simp only
      rw [e1, List.map_append, List.nodup_append]
      refine ⟨p.okx.hn, hqn.1, ?_⟩
      rintro a ha b hb rfl
      obtain ⟨c, hc, rfl⟩ := List.mem_map.1 hb
      exact hdj c (List.mem_append_left _ hc) ha
    · intro c hc
      simp only at hc ⊢
      rw [e1, List.map_append, List.mem_append, not_or]
      refine ⟨hdj c (List.mem_append_right _ hc), fun h => ?_⟩
      exact hqn.2.2 _ h _ (List.mem_map.2 ⟨c, hc, rfl⟩) rfl
  refine ⟨turn_Lnodup p.kn, (delAll_agt _ 0 p.wn).2, ?_, ?_, ?_, ?_, ?_⟩
  · intro y t ht
    rw [hL] at ht
    by_cases hy : y = x
    · rw [if_pos hy] at ht
      split at ht
      · cases ht
      · simp only [Option.some.injEq] at ht; rw [← ht]; exact hok
    · rw [if_neg hy] at ht; exact p.ok y t hy ht
  · intro y t ht
    rw [hL] at ht
    by_cases hy : y = x
    · rw [if_pos hy] at ht
      split at ht
      · cases ht
      · rename_i hne; simp only [Option.some.injEq] at ht; rw [← ht]; exact hne
    · rw [if_neg hy] at ht; exact p.ne y t hy ht
  · intro y t c q ht hq
    rw [hL] at ht
    by_cases hy : y = x
    · rw [if_pos hy] at ht
      split at ht
      · cases ht
      · simp only [Option.some.injEq] at ht
        rw [← ht] at hq ⊢
        exact adm_hd _ _ _ _ hq
    · rw [if_neg hy] at ht; exact p.hd y t c q hy ht hq
  · intro y t w a ht hw
    rw [hL] at ht
    rw [hW]
    by_cases hy : y = x
    · rw [if_pos hy] at ht
      split at ht
      · cases ht
      · simp only [Option.some.injEq] at ht
        rw [← ht] at hw
        simp only at hw
        rw [if_neg (fun h => hqn.2.2 _ h _ (List.mem_map.2 ⟨(w, a), hw, rfl⟩) rfl), hy]
        exact p.qwx w a (by rw [e2]; exact List.mem_append_right _ hw)
    · rw [if_neg hy] at ht
      have h1 := p.qw y t w a hy ht hw
      rw [if_neg]
      · exact h1
      · intro h
        obtain ⟨c, hc, rfl⟩ := List.mem_map.1 h
        have h2 := p.qwx c.1 c.2 (by rw [e2]; exact List.mem_append_left _ hc)
        rw [h1] at h2
        simp only [Option.some.injEq, Prod.mk.injEq] at h2
        exact hy h2.1
  · intro w y a hw
    rw [hW] at hw
    split at hw
    · cases hw
    rename_i hnl
    rcases p.wq w y a hw with ⟨rfl, h⟩ | ⟨hy, t, ht, h⟩
    · rw [e2] at h
      rcases List.mem_append.1 h with h | h
      · exact absurd (List.mem_map.2 ⟨(w, a), h, rfl⟩) hnl
      · have hne : (adm s.1 s.2).1 ≠ [] := fun h0 => by rw [adm_ne h0] at h; cases h
        exact ⟨_, by rw [hL, if_pos rfl, if_neg hne], h⟩
    · exact ⟨t, by rw [hL, if_neg hy]; exact ht, h⟩

theorem Inv.start : Inv [] [] := ⟨.nil, .nil, fun _ _ h => (by cases h), fun _ _ h => (by cases h), fun _ _ _ _ h => (by cases h), fun _ _ _ _ h => (by cases h), fun _ _ _ h => (by cases h)⟩

theorem posC_mem {who : Int} : ∀ {l : List Claim} {k : Nat}, 0 ≤ posC who l k ↔ who ∈ l.map (·.1)
  | [], k => by simp [posC]
  | c :: l, k => by
    have ih := posC_mem (who := who) (l := l) (k := k + 1)
    simp only [posC, List.map_cons, List.mem_cons]
    split
    · rename_i h; simp [h]
    · rename_i h
      rw [ih]
      simp [Ne.symm h]
theorem posC_at {who : Int} : ∀ {l : List Claim} {k i : Nat}, posC who l k = ((k + i : Nat) : Int) → ∃ a, l[i]? = some (who, a)
  | [], k, i, h => by simp [posC] at h; omega
  | c :: l, k, i, h => by
    simp only [posC] at h
    split at h
    · rename_i hc
      have : i = 0 := by omega
      subst this
      exact ⟨c.2, by simp [← hc]⟩
    · cases i with
      | zero => rcases posC_spec who l (k + 1) with h' | ⟨m, _, h'⟩ <;> omega
      | succ i =>
        obtain ⟨a, ha⟩ := posC_at (l := l) (k := k + 1) (i := i) (by rw [h]; omega)
        exact ⟨a, by simpa using ha⟩

theorem Inv.free {ls : List (Nam × LkS)} {ws : List (Int × Nee)} (v : Inv ls ws) (who : Int) (x : Nam) : Inv (freeS who x ls ws).2.1 (freeS who x ls ws).2.2 := by
  cases hx : agt x ls with
  | none => rw [freeS_no (by simp [hx])]; exact v
  | some s =>
    rcases posC_spec who s.1 0 with hp | ⟨i, hi, hp⟩
    · rw [freeS_no (by intro s' hs'; rw [hx] at hs'; cases hs'; omega)]; exact v
    · rw [Nat.zero_add] at hp
      rw [freeS_turn hx hp]
      have ho := v.ok x s hx
      have hsub : (s.1.eraseIdx i).Sublist s.1 := List.eraseIdx_sublist _ _
      refine Pre.inv ⟨v.kn, v.wn, ⟨?_, (hsub.map _).nodup ho.hn, ho.qn, fun c hc h => ho.dj c hc ((hsub.map _).subset h)⟩, fun y t _ h => v.ok y t h, fun y t _ h => v.ne y t h, fun y t c q _ h => v.hd y t c q h, fun w a h => v.qw x s w a hx h, fun y t w a _ h => v.qw y t w a h, ?_⟩
      · intro c hc h2
        have := ho.al c (hsub.subset hc) h2
        simp only at hc
        rw [this] at hc hi
        simp only [List.length_singleton, Nat.lt_one_iff] at hi
        subst hi
        simp at hc
      · intro w y a h
        obtain ⟨t, ht, hm⟩ := v.wq w y a h
        by_cases hy : y = x
        · subst hy
          rw [hx] at ht
          simp only [Option.some.injEq] at ht
          subst ht
          exact .inl ⟨rfl, hm⟩
        · exact .inr ⟨hy, t, ht, hm⟩

theorem Inv.leave1 {ls : List (Nam × LkS)} {ws : List (Int × Nee)} (v : Inv ls ws) (who : Int) : Inv (leave1 who ls ws).2.1 (leave1 who ls ws).2.2 := by
  unfold Go.Proofs.YtacmnfpgimgigaaGreat.leave1
  split
  · exact v
  rename_i n hn
  split
  · exact v
  rename_i s hs
  have ho := v.ok n.1 s hs
  have hsub : (notWho who s.2).Sublist s.2 := List.filter_sublist
  have hW : ∀ w, agt w (adel who ws) = if w = who then none else agt w ws := fun w => agt_adel_if v.wn
  refine Pre.inv ⟨v.kn, adel_nodup v.wn, ⟨ho.al, ho.hn, (hsub.map _).nodup ho.qn, fun c hc => ho.dj c (hsub.subset hc)⟩, fun y t _ h => v.ok y t h, fun y t _ h => v.ne y t h, fun y t c q _ h => v.hd y t c q h, ?_, ?_, ?_⟩
  · intro w a h
    have h' := List.mem_filter.1 h
    rw [hW, if_neg (by simpa using h'.2)]
    exact v.qw n.1 s w a hs h'.1
  · intro y t w a hy ht hm
    have h1 := v.qw y t w a ht hm
    rw [hW, if_neg]
    · exact h1
    · rintro rfl
      rw [hn] at h1
      simp only [Option.some.injEq] at h1
      exact hy (by rw [h1])
  · intro w y a h
    rw [hW] at h
    split at h
    · cases h
    rename_i hne
    obtain ⟨t, ht, hm⟩ := v.wq w y a h
    by_cases hy : y = n.1
    · subst hy
      rw [hs] at ht
      simp only [Option.some.injEq] at ht
      subst ht
      exact .inl ⟨rfl, List.mem_filter.2 ⟨hm, by simpa using hne⟩⟩
    · exact .inr ⟨hy, t, ht, hm⟩
theorem Inv.leaveL (who : Int) : ∀ (L : List Nee) {ls : List (Nam × LkS)} {ws : List (Int × Nee)}, Inv ls ws → Inv (leaveL who L ls ws).2.1 (leaveL who L ls ws).2.2
  | [], _, _, v => v
  | n :: L, _, _, v => Inv.leaveL who L (v.free who n.1)
theorem Inv.leave {ls : List (Nam × LkS)} {ws : List (Int × Nee)} (v : Inv ls ws) (who : Int) : Inv (leaveS who ls ws).2.1 (leaveS who ls ws).2.2 := Inv.leaveL who _ (v.leave1 who)

theorem Inv.ask {ls : List (Nam × LkS)} {ws : List (Int × Nee)} (v : Inv ls ws) (who : Int) (n : Nee) : Inv (askS who n ls ws).2.1 (askS who n ls ws).2.2 := by
  unfold askS
  split
  · exact v
  rename_i hw
  have hL : ∀ (s' : LkS) (y : Nam), agt y (aset n.1 s' ls) = if y = n.1 then some s' else agt y ls := fun s' y => agt_aset_if _ _ _ _
  -- what stands of the lock
  have hs0 : LkOk ((agt n.1 ls).getD ([], [])) ∧ (∀ w a, (w, a) ∈ ((agt n.1 ls).getD ([], [])).2 → agt w ws = some (n.1, a)) ∧ (((agt n.1 ls).getD ([], [])).1 = [] → ((agt n.1 ls).getD ([], [])).2 = []) ∧
      (∀ c q, ((agt n.1 ls).getD ([], [])).2 = c :: q → letsB ((agt n.1 ls).getD ([], [])).1 c.2 = false) := by
    cases h : agt n.1 ls with
    | none => exact ⟨⟨(fun c hc => (by cases hc)), .nil, .nil, fun c hc => (by cases hc)⟩, fun w a h => (by cases h), fun _ => rfl, fun c q h => (by cases h)⟩
    | some s => exact ⟨v.ok _ _ h, fun w a hm => v.qw _ _ w a h hm, fun h0 => absurd h0 (v.ne _ _ h), fun c q hq => v.hd _ _ c q h hq⟩
  have hsome : ∀ {s'}, agt n.1 ls = some s' → (agt n.1 ls).getD ([], []) = s' := fun h => by rw [h]; rfl
  generalize hs : (agt n.1 ls).getD ([], []) = s at hs0 hsome
  obtain ⟨ho, hq, h0, hh⟩ := hs0
  by_cases hp : 0 ≤ posC who s.1 0
  · have hT : askT who n.2 s = ((false, 130), s, false) := by simp [askT, hp]
    rw [hT]
    simp only [Bool.false_eq_true, if_false]
    cases hx : agt n.1 ls with
    | none => rw [hx] at hs; subst hs; simp [posC] at hp
    | some s' =>
      have : s' = s := (hsome hx).symm
      subst this
      rw [aset_same _ _ _ hx]
      exact v
  have hwho : who ∉ s.1.map (·.1) := fun h => hp (posC_mem.2 h)
  have hwq : who ∉ s.2.map (·.1) := fun h => by
    obtain ⟨c, hc, rfl⟩ := List.mem_map.1 h
    have := hq c.1 c.2 hc
    rw [hw] at this; cases this
  by_cases hl : s.2 = [] ∧ letsB s.1 n.2 = true
  · have hT : askT who n.2 s = ((true, 0), (s.1 ++ [(who, n.2)], s.2), false) := by simp [askT, hp, hl]
    rw [hT]
    simp only [Bool.false_eq_true, if_false]
    have hal : Alone1 (s.1 ++ [(who, n.2)]) := by
      rcases (letsB_iff ho.al).1 hl.2 with h1 | ⟨h1, h2⟩
      · rw [h1]; intro d hd _; simp only [List.nil_append, List.mem_singleton] at hd; simp [hd]
      · intro d hd hd2
        rcases List.mem_append.1 hd with hd | hd
        · rw [h2 d hd] at hd2; cases hd2
        · simp only [List.mem_singleton] at hd; rw [hd] at hd2; simp only at hd2; rw [h1] at hd2; cases hd2
    refine ⟨aset_nodup v.kn, v.wn, fun y t ht => ?_, fun y t ht => ?_, fun y t c q ht hqq => ?_, fun y t w a ht hm => ?_, fun w y a h => ?_⟩
    · rw [hL] at ht
      split at ht
      · simp only [Option.some.injEq] at ht; subst ht
        refine ⟨hal, ?_, ho.qn, fun c hc => ?_⟩
        · simp only [List.map_append, List.map_cons, List.map_nil]
          rw [List.nodup_append]
          exact ⟨ho.hn, by simp, fun a ha b hb => by simp only [List.mem_singleton] at hb; subst hb; rintro rfl; exact hwho ha⟩
        · simp only at hc; rw [hl.1] at hc; cases hc
      · exact v.ok y t ht
    · rw [hL] at ht
      split at ht
      · simp only [Option.some.injEq] at ht; subst ht; simp
      · exact v.ne y t ht
    · rw [hL] at ht
      split at ht
      · simp only [Option.some.injEq] at ht; subst ht; simp only at hqq; rw [hl.1] at hqq; cases hqq
      · exact v.hd y t c q ht hqq
    · rw [hL] at ht
      split at ht
      · simp only [Option.some.injEq] at ht; subst ht; simp only at hm; rw [hl.1] at hm; cases hm
      · exact v.qw y t w a ht hm
    · obtain ⟨t, ht, hm⟩ := v.wq w y a h
      by_cases hy : y = n.1
      · subst hy
        have : t = s := (hsome ht).symm
        subst this
        rw [hl.1] at hm; cases hm
      · exact ⟨t, by rw [hL, if_neg hy]; exact ht, hm⟩
  · have hT : askT who n.2 s = ((false, 0), (s.1, s.2 ++ [(who, n.2)]), true) := by simp only [askT, hp, hl, if_false]
    rw [hT]
    simp only [if_true]
    have hW : ∀ w, agt w (aset who n ws) = if w = who then some n else agt w ws := fun w => agt_aset_if _ _ _ _
    have hne : s.1 ≠ [] := fun h1 => hl ⟨h0 h1, by rw [h1]; rfl⟩
    refine ⟨aset_nodup v.kn, aset_nodup v.wn, fun y t ht => ?_, fun y t ht => ?_, fun y t c q ht hqq => ?_, fun y t w a ht hm => ?_, fun w y a h => ?_⟩
    · rw [hL] at ht
      split at ht
      · simp only [Option.some.injEq] at ht; subst ht
        refine ⟨ho.al, ho.hn, ?_, fun c hc => ?_⟩
        · simp only [List.map_append, List.map_cons, List.map_nil]
          rw [List.nodup_append]
          exact ⟨ho.qn, by simp, fun a ha b hb => by simp only [List.mem_singleton] at hb; subst hb; rintro rfl; exact hwq ha⟩
        · rcases List.mem_append.1 hc with hc | hc
          · exact ho.dj c hc
          · simp only [List.mem_singleton] at hc; subst hc; exact hwho
      · exact v.ok y t ht
    · rw [hL] at ht
      split at ht
      · simp only [Option.some.injEq] at ht; subst ht; exact hne
      · exact v.ne y t ht
    · rw [hL] at ht
      split at ht
      · simp only [Option.some.injEq] at ht; subst ht
        simp only at hqq ⊢
        cases hs2 : s.2 with
        | nil =>
          rw [hs2] at hqq
          simp only [List.nil_append, List.cons.injEq] at hqq
          rw [← hqq.1]
          simpa [hs2] using hl
        | cons d q' =>
          rw [hs2] at hqq
          simp only [List.cons_append, List.cons.injEq] at hqq
          rw [← hqq.1]
          exact hh d q' hs2
      · exact v.hd y t c q ht hqq
    · rw [hW]
      rw [hL] at ht
      split at ht
      · rename_i hy
        subst hy
        simp only [Option.some.injEq] at ht; subst ht
        rcases List.mem_append.1 hm with hm | hm
        · have h1 := hq w a hm
          rw [if_neg]
          · exact h1
          · rintro rfl; rw [hw] at h1; cases h1
        · simp only [List.mem_singleton, Prod.mk.injEq] at hm
          rw [if_pos hm.1, hm.2]
      · have h1 := v.qw y t w a ht hm
        rw [if_neg]
        · exact h1
        · rintro rfl; rw [hw] at h1; cases h1
    · rw [hW] at h
      split at h
      · rename_i hww
        simp only [Option.some.injEq] at h
        subst h hww
        exact ⟨_, by rw [hL, if_pos rfl], by simp⟩
      · obtain ⟨t, ht, hm⟩ := v.wq w y a h
        by_cases hy : y = n.1
        · subst hy
          have : t = s := (hsome ht).symm
          subst this
          exact ⟨_, by rw [hL, if_pos rfl], List.mem_append_left _ hm⟩
        · exact ⟨t, by rw [hL, if_neg hy]; exact ht, hm⟩

theorem Inv.move {ls : List (Nam × LkS)} {ws : List (Int × Nee)} (v : Inv ls ws) (m : Mv) : Inv (moveS m ls ws).2.1 (moveS m ls ws).2.2 := by
  unfold moveS
  split
  · exact v.ask _ _
  · split
    · exact v.free _ _
    · exact v.leave _

/-! ### What is refused changes nothing; one claim at most comes in -/
theorem ask_tot (who : Int) (n : Nee) (ls : List (Nam × LkS)) (ws : List (Int × Nee)) : tot (askS who n ls ws).2.1 ≤ tot ls + 1 ∧ (askS who n ls ws).2.1.length ≤ ls.length + 1 := by
  have key : ∀ (s' : LkS), s'.1.length + s'.2.length ≤ ((agt n.1 ls).getD ([], [])).1.length + ((agt n.1 ls).getD ([], [])).2.length + 1 → tot (aset n.1 s' ls) ≤ tot ls + 1 ∧ (aset n.1 s' ls).length ≤ ls.length + 1 := by
    intro s' h
    cases hx : agt n.1 ls with
    | some s =>
      rw [hx] at h
      simp only [Option.getD_some] at h
      obtain ⟨a1, _, a3⟩ := tot_aset (s' := s') hx
      omega
    | none =>
      rw [hx] at h
      simp only [Option.getD_none, List.length_nil] at h
      have : ∀ {l : List (Nam × LkS)}, agt n.1 l = none → tot (aset n.1 s' l) = tot l + (s'.1.length + s'.2.length) ∧ (aset n.1 s' l).length = l.length + 1 := by
        intro l hl
        induction l with
        | nil => simp [aset, tot]
        | cons p l ih =>
          obtain ⟨y, u⟩ := p
          simp only [agt] at hl
          split at hl
          · cases hl
          · rename_i e
            have := ih hl
            simp only [aset, if_neg e, tot, List.map_cons, List.sum_cons, List.length_cons] at this ⊢
            omega
      have := this hx
      omega
  unfold askS
  split
  · dsimp only; omega
  · refine key _ ?_
    unfold askT
    split
    · dsimp only; omega
    · split
      · dsimp only; rw [List.length_append, List.length_singleton]; omega
      · dsimp only; rw [List.length_append, List.length_singleton]; omega
theorem move_tot (m : Mv) (ls : List (Nam × LkS)) (ws : List (Int × Nee)) : tot (moveS m ls ws).2.1 ≤ tot ls + 1 ∧ (moveS m ls ws).2.1.length ≤ ls.length + 1 := by
  unfold moveS
  split
  · exact ask_tot _ _ _ _
  · split
    · have := freeS_tot (mvWho m) (mvLock m) ls ws
      simp only; omega
    · have := leaveS_tot (mvWho m) ls ws
      simp only; omega

theorem move_refused {m : Mv} {ls : List (Nam × LkS)} {ws : List (Int × Nee)} (h : (moveS m ls ws).1.2 = false) : (moveS m ls ws).2 = (ls, ws) := by
  unfold moveS at h ⊢
  split
  · rename_i hq
    rw [if_pos hq] at h
    simp only [decide_eq_false_iff_not] at h ⊢
    unfold askS at h ⊢
    split
    · rfl
    · rename_i hw
      simp only [hw] at h
      unfold askT at h ⊢
      split
      · rename_i hp
        cases hx : agt (mvLock m) ls with
        | none => rw [hx] at hp; simp [posC] at hp
        | some s =>
          simp only [Option.getD_some, Bool.false_eq_true, if_false]
          rw [aset_same _ _ _ hx]
      · rename_i hp
        rw [if_neg hp] at h
        split at h <;> simp at h
  · rename_i hq
    rw [if_neg hq] at h
    split
    · rename_i hq2
      rw [if_pos hq2] at h
      simp only [decide_eq_false_iff_not] at h ⊢
      cases hx : agt (mvLock m) ls with
      | none => rw [freeS_no (by simp [hx])]
      | some s =>
        rcases posC_spec (mvWho m) s.1 0 with hp | ⟨i, hi, hp⟩
        · rw [freeS_no (by intro s' hs'; rw [hx] at hs'; cases hs'; omega)]
        · rw [Nat.zero_add] at hp
          rw [freeS_turn hx hp] at h
          simp at h
    · rename_i hq2
      rw [if_neg hq2] at h
      simp at h

end Go.Proofs.YtacmnfpgimgigaaGreat

namespace Go.Proofs.YtacmnfpgimgigaaGreat
open Go
set_option linter.unusedSimpArgs false
set_option linter.unusedVariables false
set_option maxRecDepth 100000

def kN (k : Nat) : Nam := (3, 0, k)
def queueS (x : Nam) (ls : List (Nam × LkS)) : List Int := ((agt x ls).getD ([], [])).2.map (·.1)
def toldK (ls : List (Nam × LkS)) (k : Nat) : List Int := -1 :: (holdersS (kN k) ls ++ -2 :: queueS (kN k) ls)
def toldN (n : Nee) : List Int := IntKind.i64.wrap n.1.2.2 :: (if n.2 = true then [-3] else [])
def toldW (ls : List (Nam × LkS)) (i : Nat) : List Int := (heldS (1 + i) ls).flatMap toldN ++ [-4]
def toldA (ls : List (Nam × LkS)) (k : Nat) : List Int := (List.range k).flatMap (toldK ls)
def toldB (ls : List (Nam × LkS)) (k : Nat) : List Int := (List.range k).flatMap (toldW ls)
def toldS (ls : List (Nam × LkS)) : List Int := toldA ls 6 ++ toldB ls 8
theorem toldA_succ (ls : List (Nam × LkS)) (k : Nat) : toldA ls (k + 1) = toldA ls k ++ toldK ls k := by unfold toldA; rw [List.range_succ, List.flatMap_append]; simp
theorem toldB_succ (ls : List (Nam × LkS)) (k : Nat) : toldB ls (k + 1) = toldB ls k ++ toldW ls k := by unfold toldB; rw [List.range_succ, List.flatMap_append]; simp

theorem intR_app (a b : List Int) : intR (a ++ b) = intR a ++ intR b := by simp [intR]
theorem intR_nil0 {l : List Int} (h : intR l = []) : l.length = 0 := by simpa [intR] using h
theorem range_flat {α : Type} (f : Nat → List α) (k : Nat) : (List.range (k + 1)).flatMap f = (List.range k).flatMap f ++ f k := by rw [List.range_succ, List.flatMap_append]; simp
theorem flat_bound {α : Type} (f : Nat → List α) {N : Nat} (h : ∀ k, (f k).length ≤ N) : ∀ k, ((List.range k).flatMap f).length ≤ k * N
  | 0 => by simp
  | k + 1 => by rw [range_flat, List.length_append, Nat.add_mul]; have := flat_bound f h k; have := h k; omega

theorem holdersS_length (x : Nam) (ls : List (Nam × LkS)) : (holdersS x ls).length = ((agt x ls).getD ([], [])).1.length := by unfold holdersS; rw [List.length_mergeSort, List.length_map]
theorem queueS_length (x : Nam) (ls : List (Nam × LkS)) : (queueS x ls).length = ((agt x ls).getD ([], [])).2.length := by unfold queueS; rw [List.length_map]
theorem heldS_length (who : Int) (ls : List (Nam × LkS)) : (heldS who ls).length ≤ ls.length := by unfold heldS heldL; rw [List.length_mergeSort]; exact List.length_filterMap_le _ _
theorem toldK_length (ls : List (Nam × LkS)) (k : Nat) : (toldK ls k).length ≤ tot ls + 2 := by
  have := tot_agt (x := kN k) (ls := ls)
  have h1 := holdersS_length (kN k) ls
  have h2 := queueS_length (kN k) ls
  simp only [toldK, List.length_cons, List.length_append]
  omega
theorem toldN_length : ∀ l : List Nee, (l.flatMap toldN).length ≤ 2 * l.length
  | [] => by simp
  | n :: l => by
    have := toldN_length l
    rw [List.flatMap_cons, List.length_append, List.length_cons]
    have : (toldN n).length ≤ 2 := by unfold toldN; split <;> simp
    omega

/-- A queue, told with its numbers. -/
theorem queueN_any {w0 w : World} {F : HP} {B : Nat} {ls : List (Nam × LkS)} {ws : List (Int × Nee)} {x : Nam} (h : St w0 (TabP B ls ws * F) w) (hT : tot ls < 1073741824) :
    Calls Tryz.prog 14 #[.pointer (some ⟨B, 0, none⟩), namV x] w fun e w' => ∃ v, St w0 (RowO 3 1 v (queueS x ls).length (intR (queueS x ls)) * (TabP B ls ws * F)) w' ∧ e = .returned v := by
  have := tot_agt (x := x) (ls := ls)
  refine (queue_any h rfl (by omega)).mono ?_
  rintro e w' ⟨v, h1, rfl⟩
  refine ⟨v, ?_, rfl⟩
  rw [queueS_length]
  exact h1

end Go.Proofs.YtacmnfpgimgigaaGreat

namespace Go.Proofs.YtacmnfpgimgigaaGreat
open Go
set_option linter.unusedSimpArgs false
set_option linter.unusedVariables false
set_option maxRecDepth 100000

theorem heldOf_iff {who : Int} {p : Nam × LkS} {n : Nee} (hn : (p.2.1.map (·.1)).Nodup) : heldOf who p = some n ↔ n.1 = p.1 ∧ (who, n.2) ∈ p.2.1 := by
  unfold heldOf
  by_cases h : 0 ≤ posC who p.2.1 0
  · rw [if_pos h]
    rcases posC_spec who p.2.1 0 with hp | ⟨i, hi, hp⟩
    · omega
    · rw [Nat.zero_add] at hp
      obtain ⟨a, ha⟩ := posC_at (k := 0) (i := i) (by simpa using hp)
      rw [hp, Int.toNat_natCast, ha, Option.getD_some]
      have hm : (who, a) ∈ p.2.1 := List.mem_of_getElem? ha
      simp only [Option.some.injEq]
      constructor
      · rintro rfl; exact ⟨rfl, hm⟩
      · rintro ⟨h1, h2⟩
        obtain ⟨n1, n2⟩ := n
        simp only at h1 h2
        subst h1
        obtain ⟨j, hj, hje⟩ := List.getElem_of_mem h2
        obtain ⟨j', hj', hje'⟩ := List.getElem_of_mem hm
        have : j = j' := (List.getElem_inj (h₀ := by simpa using hj) (h₁ := by simpa using hj') hn).1 (by simp [hje, hje'])
        subst this
        rw [hje] at hje'
        simp only [Prod.mk.injEq, true_and] at hje'
        rw [hje']
  · rw [if_neg h]
    simp only [reduceCtorEq, false_iff, not_and]
    rintro - hm
    exact h (posC_mem.2 (List.mem_map.2 ⟨_, hm, rfl⟩))
theorem mem_heldS {ls : List (Nam × LkS)} {ws : List (Int × Nee)} (v : Inv ls ws) {who : Int} {n : Nee} : n ∈ heldS who ls ↔ ∃ s, agt n.1 ls = some s ∧ (who, n.2) ∈ s.1 := by
  unfold heldS heldL
  rw [List.mem_mergeSort, List.mem_filterMap]
  constructor
  · rintro ⟨p, hp, h⟩
    have hk := agt_of_mem v.kn (show (p.1, p.2) ∈ ls from hp)
    have := (heldOf_iff (v.ok _ _ hk).hn).1 h
    exact ⟨p.2, by rw [this.1]; exact hk, this.2⟩
  · rintro ⟨s, hs, hm⟩
    exact ⟨(n.1, s), mem_of_agt hs, (heldOf_iff (p := (n.1, s)) (v.ok _ _ hs).hn).2 ⟨rfl, hm⟩⟩

def hsK (ls : List (Nam × LkS)) (x : Nam) : List Claim := ((agt x ls).getD ([], [])).1
theorem hsK_ok {ls : List (Nam × LkS)} {ws : List (Int × Nee)} (v : Inv ls ws) (x : Nam) : Alone1 (hsK ls x) ∧ ((hsK ls x).map (·.1)).Nodup := by
  unfold hsK
  cases h : agt x ls with
  | none => exact ⟨fun c hc => (by cases hc), .nil⟩
  | some s => exact ⟨(v.ok _ _ h).al, (v.ok _ _ h).hn⟩
theorem mem_held {ls : List (Nam × LkS)} {ws : List (Int × Nee)} (v : Inv ls ws) {who : Int} {x : Nam} {a : Bool} : (x, a) ∈ heldS who ls ↔ (who, a) ∈ hsK ls x := by
  rw [mem_heldS v]
  unfold hsK
  cases h : agt x ls with
  | none => simp
  | some s => simp

theorem holdersS_mem (ls : List (Nam × LkS)) (x : Nam) (a : Int) : a ∈ holdersS x ls ↔ a ∈ (hsK ls x).map (·.1) := by unfold holdersS hsK; rw [List.mem_mergeSort]
theorem holdersS_sorted {ls : List (Nam × LkS)} {ws : List (Int × Nee)} (v : Inv ls ws) (x : Nam) : (holdersS x ls).Pairwise (· < ·) := by
  have h1 : (holdersS x ls).Pairwise fun a b => decide (a ≤ b) = true := List.pairwise_mergeSort (fun a b c => by simp; omega) (fun a b => by simp; omega) _
  have h2 : (holdersS x ls).Nodup := by unfold holdersS; exact (List.mergeSort_perm _ _).nodup_iff.2 (hsK_ok v x).2
  have h3 := h1.and h2
  exact h3.imp fun {a b} h => by have := h.1; simp at this; have := h.2; omega

theorem below_none {l : List Int} {x : Int} (h : ∀ a ∈ l, x ≤ a) : l.filter (fun a => decide (a < x)) = [] := by
  rw [List.filter_eq_nil_iff]
  intro a ha
  have := h a ha
  simp; omega
/-- Of a row that rises: where a number is. -/
theorem rise_at : ∀ {l : List Int} {x : Int}, l.Pairwise (· < ·) → x ∈ l → l[(l.filter (fun a => decide (a < x))).length]? = some x ∧ (l.filter (fun a => decide (a < x + 1))).length = (l.filter (fun a => decide (a < x))).length + 1
  | a :: l, x, hp, hx => by
    have hp' := List.pairwise_cons.1 hp
    by_cases hax : a = x
    · subst hax
      have e1 : l.filter (fun b => decide (b < a)) = [] := below_none fun b hb => by have := hp'.1 b hb; omega
      have e2 : l.filter (fun b => decide (b < a + 1)) = [] := below_none fun b hb => by have := hp'.1 b hb; omega
      rw [List.filter_cons, List.filter_cons, e1, e2]
      simp [show a < a + 1 by omega]
    · have hxl : x ∈ l := by
        rcases List.mem_cons.1 hx with h | h
        · exact absurd h.symm hax
        · exact h
      have hlt := hp'.1 x hxl
      obtain ⟨i1, i2⟩ := rise_at hp'.2 hxl
      have d1 : decide (a < x) = true := by simpa using hlt
      have d2 : decide (a < x + 1) = true := by simp; omega
      rw [List.filter_cons, List.filter_cons, if_pos d1, if_pos d2]
      simp only [List.length_cons, List.getElem?_cons_succ]
      exact ⟨i1, by omega⟩
theorem rise_not {l : List Int} {x : Int} (h : x ∉ l) : l.filter (fun a => decide (a < x + 1)) = l.filter (fun a => decide (a < x)) := by
  apply List.filter_congr
  intro a ha
  have : a ≠ x := fun e => h (e ▸ ha)
  rw [decide_eq_decide]
  omega
theorem rise_all {l : List Int} {x : Int} (h : ∀ a ∈ l, a < x) : l.filter (fun a => decide (a < x)) = l := by
  rw [List.filter_eq_self]
  intro a ha
  simpa using h a ha

structure C21 (ls : List (Nam × LkS)) (k : Nat) (w : Int) (any : Bool) (al n : Nat) : Prop where
  n_eq : n = ((holdersS (kN k) ls).filter (fun a => decide (a < w))).length
  al_iff : al = 0 ↔ ∀ c ∈ hsK ls (kN k), c.1 < w → c.2 = false
  al_le : (al : Int) ≤ w
  any_iff : any = true ↔ (∃ j, j < k ∧ hsK ls (kN j) ≠ []) ∨ ∃ c ∈ hsK ls (kN k), c.1 < w

section step
variable {ls : List (Nam × LkS)} {ws : List (Int × Nee)} {k : Nat} {w : Int} {any : Bool} {al n : Nat}
theorem C21.at (v : Inv ls ws) (c : C21 ls k w any al n) {a : Bool} (h : (w, a) ∈ hsK ls (kN k)) : (holdersS (kN k) ls)[n]? = some w := by
  have hm : w ∈ holdersS (kN k) ls := (holdersS_mem _ _ _).2 (List.mem_map.2 ⟨_, h, rfl⟩)
  rw [c.n_eq]
  exact (rise_at (holdersS_sorted v _) hm).1
theorem C21.held (v : Inv ls ws) (c : C21 ls k w any al n) {a : Bool} (h : (w, a) ∈ hsK ls (kN k)) : C21 ls k (w + 1) true (if a = true then al + 1 else al) (n + 1) := by
  have hm : w ∈ holdersS (kN k) ls := (holdersS_mem _ _ _).2 (List.mem_map.2 ⟨_, h, rfl⟩)
  refine ⟨?_, ?_, ?_, ?_⟩
  · rw [c.n_eq]
    exact (rise_at (holdersS_sorted v _) hm).2.symm
  · cases a with
    | true =>
      simp only [if_true, Nat.add_eq_zero_iff, Nat.one_ne_zero, and_false, false_iff]
      intro h2
      have := h2 _ h (by simp only; omega)
      cases this
    | false =>
      simp only [Bool.false_eq_true, if_false]
      rw [c.al_iff]
      constructor
      · intro h2 d hd hlt
        by_cases hdw : d.1 = w
        · have hn := (hsK_ok v (kN k)).2
          obtain ⟨i, hi, hie⟩ := List.getElem_of_mem hd
          obtain ⟨j, hj, hje⟩ := List.getElem_of_mem h
          have : i = j := (List.getElem_inj (h₀ := by simpa using hi) (h₁ := by simpa using hj) hn).1 (by simp [hie, hje, hdw])
          subst this
          rw [hie] at hje
          rw [hje]
        · exact h2 d hd (by omega)
      · intro h2 d hd hlt
        exact h2 d hd (by omega)
  · have := c.al_le
    split <;> omega
  · simp only [true_iff]
    exact .inr ⟨_, h, by simp only; omega⟩
theorem C21.not (c : C21 ls k w any al n) (h : ∀ a, (w, a) ∉ hsK ls (kN k)) : C21 ls k (w + 1) any al n := by
  have hm : w ∉ holdersS (kN k) ls := fun hm => by
    obtain ⟨d, hd, rfl⟩ := List.mem_map.1 ((holdersS_mem _ _ _).1 hm)
    exact h d.2 hd
  have hne : ∀ d ∈ hsK ls (kN k), d.1 < w + 1 ↔ d.1 < w := fun d hd => by
    have : d.1 ≠ w := fun e => h d.2 (by rw [← e]; exact hd)
    omega
  refine ⟨?_, ?_, ?_, ?_⟩
  · rw [rise_not hm]; exact c.n_eq
  · rw [c.al_iff]
    exact ⟨fun h2 d hd hlt => h2 d hd ((hne d hd).1 hlt), fun h2 d hd hlt => h2 d hd ((hne d hd).2 hlt)⟩
  · have := c.al_le; omega
  · rw [c.any_iff]
    constructor
    · rintro (h1 | ⟨d, hd, hlt⟩)
      · exact .inl h1
      · exact .inr ⟨d, hd, (hne d hd).2 hlt⟩
    · rintro (h1 | ⟨d, hd, hlt⟩)
      · exact .inl h1
      · exact .inr ⟨d, hd, (hne d hd).1 hlt⟩
end step

end Go.Proofs.YtacmnfpgimgigaaGreat

namespace Go.Proofs.YtacmnfpgimgigaaGreat
open Go
set_option linter.unusedSimpArgs false
set_option linter.unusedVariables false
set_option maxRecDepth 100000

theorem erase_notWho {who : Int} : ∀ {l : List Claim} {i : Nat}, (l.map (·.1)).Nodup → posC who l 0 = i → i < l.length → l.eraseIdx i = notWho who l := by
  intro l
  have key : ∀ {l : List Claim} {k i : Nat}, (l.map (·.1)).Nodup → posC who l k = ((k + i : Nat) : Int) → i < l.length → l.eraseIdx i = notWho who l := by
    intro l
    induction l with
    | nil => intro k i _ _ hi; simp at hi
    | cons c l ih =>
      intro k i hn h hi
      simp only [List.map_cons, List.nodup_cons] at hn
      simp only [posC] at h
      split at h
      · rename_i hc
        have : i = 0 := by omega
        subst this
        have : notWho who l = l := by
          unfold notWho
          rw [List.filter_eq_self]
          intro d hd
          simp only [Bool.not_eq_true', decide_eq_false_iff_not]
          intro e
          exact hn.1 (by rw [hc, ← e]; exact List.mem_map.2 ⟨d, hd, rfl⟩)
        simp only [notWho] at this
        simp [notWho, hc, this]
      · rename_i hc
        cases i with
        | zero => rcases posC_spec who l (k + 1) with h' | ⟨m, _, h'⟩ <;> omega
        | succ i =>
          have := ih (k := k + 1) (i := i) hn.2 (by rw [h]; omega) (by simpa using hi)
          simp only [notWho] at this
          simp [notWho, hc, this]
  intro i hn h hi
  exact key (k := 0) hn (by simpa using h) hi
theorem notWho_id {who : Int} {l : List Claim} (h : who ∉ l.map (·.1)) : notWho who l = l := by
  unfold notWho
  rw [List.filter_eq_self]
  intro d hd
  simp only [Bool.not_eq_true', decide_eq_false_iff_not]
  intro e
  exact h (e ▸ List.mem_map.2 ⟨d, hd, rfl⟩)
theorem notWho_mem {who : Int} {l : List Claim} {c : Claim} : c ∈ notWho who l ↔ c ∈ l ∧ c.1 ≠ who := by unfold notWho; rw [List.mem_filter]; simp
theorem notWho_map (who : Int) (l : List Claim) : (notWho who l).map (·.1) = (l.map (·.1)).filter fun a => !decide (a = who) := by unfold notWho; rw [List.filter_map]; rfl

/-- A free that goes through, as a turn. -/
theorem freeS_held {who : Int} {x : Nam} {ls : List (Nam × LkS)} {ws : List (Int × Nee)} {s : LkS} (v : Inv ls ws) (h : agt x ls = some s) (hw : who ∈ s.1.map (·.1)) :
    freeS who x ls ws = (((turnS x (notWho who s.1, s.2) ls ws).1, 0), (turnS x (notWho who s.1, s.2) ls ws).2) := by
  have h0 := (posC_mem (l := s.1) (k := 0)).2 hw
  rcases posC_spec who s.1 0 with hp | ⟨i, hi, hp⟩
  · omega
  · rw [Nat.zero_add] at hp
    rw [freeS_turn h hp, erase_notWho (v.ok _ _ h).hn hp hi]

theorem turn_W {x : Nam} {s : LkS} {ls : List (Nam × LkS)} {ws : List (Int × Nee)} (hn : (ws.map (·.1)).Nodup) (w : Int) : agt w (turnS x s ls ws).2.2 = if w ∈ (turnS x s ls ws).1.map (·.1) then none else agt w ws := (delAll_agt _ w hn).1

/-- One who lets go of these, all held: lock by lock. -/
theorem leaveL_spec (who : Int) : ∀ (L : List Nee) {ls : List (Nam × LkS)} {ws : List (Int × Nee)}, Inv ls ws → (L.map (·.1)).Nodup → (∀ n ∈ L, ∃ s, agt n.1 ls = some s ∧ who ∈ s.1.map (·.1)) →
    (∀ y, y ∉ L.map (·.1) → agt y (leaveL who L ls ws).2.1 = agt y ls) ∧
    (∀ n ∈ L, ∀ s, agt n.1 ls = some s → agt n.1 (leaveL who L ls ws).2.1 = if (adm (notWho who s.1) s.2).1 = [] then none else some ((adm (notWho who s.1) s.2).1, (adm (notWho who s.1) s.2).2.1)) ∧
    (leaveL who L ls ws).1 = L.flatMap (fun n => match agt n.1 ls with | some s => (adm (notWho who s.1) s.2).2.2 | none => []) ∧
    (∀ w, w ∈ (leaveL who L ls ws).1.map (·.1) → agt w (leaveL who L ls ws).2.2 = none) ∧ (∀ w, w ∉ (leaveL who L ls ws).1.map (·.1) → agt w (leaveL who L ls ws).2.2 = agt w ws)
  | [], ls, ws, v, _, _ => ⟨fun y _ => rfl, fun n hn => by (cases hn), rfl, fun w h => by (cases h), fun w _ => rfl⟩
  | n :: L, ls, ws, v, hn, hh => by
    obtain ⟨s, hs, hws⟩ := hh n (by simp)
    simp only [List.map_cons, List.nodup_cons] at hn
    have hf := freeS_held v hs hws
    have v1 := v.free who n.1
    have hL1 := turn_L (x := n.1) (s := (notWho who s.1, s.2)) (ws := ws) v.kn
    have hW1 := turn_W (x := n.1) (s := (notWho who s.1, s.2)) (ls := ls) v.wn
    have htl : (turnS n.1 (notWho who s.1, s.2) ls ws).1 = (adm (notWho who s.1) s.2).2.2 := rfl
    have hsame : ∀ m ∈ L, agt m.1 (freeS who n.1 ls ws).2.1 = agt m.1 ls := fun m hm => by
      rw [hf]
      simp only
      rw [hL1, if_neg]
      intro e
      exact hn.1 (e ▸ List.mem_map.2 ⟨m, hm, rfl⟩)
    obtain ⟨i1, i2, i3, i4, i5⟩ := leaveL_spec who L v1 hn.2 (fun m hm => by rw [hsame m hm]; exact hh m (by simp [hm]))
    simp only [leaveL]
    refine ⟨fun y hy => ?_, fun m hm t ht => ?_, ?_, fun w hw => ?_, fun w hw => ?_⟩
    · simp only [List.map_cons, List.mem_cons, not_or] at hy
      rw [i1 y hy.2, hf]
      simp only
      rw [hL1, if_neg hy.1]
    · rcases List.mem_cons.1 hm with rfl | hm
      · rw [i1 _ hn.1, hf]
        simp only
        rw [hL1, if_pos rfl]
        rw [hs] at ht
        simp only [Option.some.injEq] at ht
        subst ht
        rfl
      · exact i2 m hm t (by rw [hsame m hm]; exact ht)
    · rw [i3, List.flatMap_cons, hs]
      congr 1
      · rw [hf]; rfl
      · have : ∀ (M : List Nee), (∀ m ∈ M, agt m.1 (freeS who n.1 ls ws).2.1 = agt m.1 ls) → M.flatMap (fun n_1 => match agt n_1.1 (freeS who n.1 ls ws).2.1 with | some s => (adm (notWho who s.1) s.2).2.2 | none => []) = M.flatMap (fun n_1 => match agt n_1.1 ls with | some s => (adm (notWho who s.1) s.2).2.2 | none => []) := by
          intro M hM
          induction M with
          | nil => rfl
          | cons m M ih => rw [List.flatMap_cons, List.flatMap_cons, hM m (by simp), ih fun k hk => hM k (by simp [hk])]
        exact this L hsame
    · by_cases h2 : w ∈ (leaveL who L (freeS who n.1 ls ws).2.1 (freeS who n.1 ls ws).2.2).1.map (·.1)
      · exact i4 w h2
      · rw [i5 w h2, hf]
        simp only
        have h3 : w ∈ (turnS n.1 (notWho who s.1, s.2) ls ws).1.map (·.1) := by
          rw [List.map_append, List.mem_append] at hw
          rcases hw with h | h
          · rw [hf] at h; exact h
          · exact absurd h h2
        rw [hW1, if_pos h3]
    · rw [List.map_append, List.mem_append, not_or] at hw
      rw [i5 w hw.2]
      have h3 : w ∉ (turnS n.1 (notWho who s.1, s.2) ls ws).1.map (·.1) := by
        have := hw.1
        rw [hf] at this; exact this
      rw [hf]
      simp only
      rw [hW1, if_neg h3]

theorem adm_id {s : LkS} (h : ∀ c q, s.2 = c :: q → letsB s.1 c.2 = false) : adm s.1 s.2 = (s.1, s.2, []) := by
  obtain ⟨hs, q⟩ := s
  cases q with
  | nil => simp [adm]
  | cons c q => exact adm_stop (h c q rfl)

/-- Whom a lock lets in when somebody leaves. -/
def admL (who : Int) (ls : List (Nam × LkS)) (y : Nam) : List Claim := match agt y ls with
  | some s => (adm (notWho who s.1) (notWho who s.2)).2.2
  | none => []
def stripL (who : Int) (ls : List (Nam × LkS)) (y : Nam) : Option LkS := match agt y ls with
  | some s => if (adm (notWho who s.1) (notWho who s.2)).1 = [] then none else some ((adm (notWho who s.1) (notWho who s.2)).1, (adm (notWho who s.1) (notWho who s.2)).2.1)
  | none => none

theorem heldS_names (who : Int) {ls : List (Nam × LkS)} (hn : (ls.map (·.1)).Nodup) : ((heldS who ls).map (·.1)).Nodup := by
  unfold heldS
  exact ((List.mergeSort_perm _ _).map _).nodup_iff.2 ((heldL_names who ls).nodup hn)
theorem heldS_iff {ls : List (Nam × LkS)} {ws : List (Int × Nee)} (v : Inv ls ws) {who : Int} {y : Nam} : y ∈ (heldS who ls).map (·.1) ↔ ∃ s, agt y ls = some s ∧ who ∈ s.1.map (·.1) := by
  constructor
  · intro h
    obtain ⟨n, hn, rfl⟩ := List.mem_map.1 h
    obtain ⟨s, hs, hm⟩ := (mem_heldS v).1 hn
    exact ⟨s, hs, List.mem_map.2 ⟨_, hm, rfl⟩⟩
  · rintro ⟨s, hs, hm⟩
    obtain ⟨c, hc, rfl⟩ := List.mem_map.1 hm
    exact List.mem_map.2 ⟨(y, c.2), (mem_heldS v).2 ⟨s, hs, hc⟩, rfl⟩

theorem leave_spec {ls : List (Nam × LkS)} {ws : List (Int × Nee)} (v : Inv ls ws) (who : Int) : ∃ ord : List Nam, ord.Nodup ∧ (leaveS who ls ws).1 = ord.flatMap (admL who ls) ∧ (∀ y, y ∉ ord → admL who ls y = []) ∧
    (∀ y, agt y (leaveS who ls ws).2.1 = stripL who ls y) ∧ (∀ w, (w = who ∨ w ∈ (leaveS who ls ws).1.map (·.1)) → agt w (leaveS who ls ws).2.2 = none) ∧ ∀ w, w ≠ who → w ∉ (leaveS who ls ws).1.map (·.1) → agt w (leaveS who ls ws).2.2 = agt w ws := by
  have v1 := v.leave1 who
  -- behind the first step
  have h1 : ∃ o1 : List Nam, o1.Nodup ∧ (leave1 who ls ws).1 = o1.flatMap (admL who ls) ∧ (∀ y, y ∉ o1 → agt y (leave1 who ls ws).2.1 = agt y ls) ∧ (∀ y, y ∈ o1 → agt y (leave1 who ls ws).2.1 = stripL who ls y ∧ ∀ s, agt y (leave1 who ls ws).2.1 = some s → who ∉ s.1.map (·.1)) ∧
      (∀ w, (w = who ∨ w ∈ (leave1 who ls ws).1.map (·.1)) → agt w (leave1 who ls ws).2.2 = none) ∧ (∀ w, w ≠ who → w ∉ (leave1 who ls ws).1.map (·.1) → agt w (leave1 who ls ws).2.2 = agt w ws) ∧ ∀ y s, y ∉ o1 → agt y ls = some s → who ∉ s.2.map (·.1) := by
    cases hw : agt who ws with
    | none =>
      have e : leave1 who ls ws = ([], ls, ws) := by simp [leave1, hw]
      rw [e]
      refine ⟨[], .nil, rfl, fun y _ => rfl, fun y hy => by (cases hy), fun w h => ?_, fun w _ _ => rfl, fun y s _ hs hm => ?_⟩
      · rcases h with h | h
        · rw [h]; exact hw
        · cases h
      · obtain ⟨c, hc, rfl⟩ := List.mem_map.1 hm
        have := v.qw y s c.1 c.2 hs hc
        rw [hw] at this; cases this
    | some n =>
      obtain ⟨s, hs, hm⟩ := v.wq who n.1 n.2 hw
      have e : leave1 who ls ws = turnS n.1 (s.1, notWho who s.2) ls (adel who ws) := by simp [leave1, hw, hs]
      have hno : who ∉ s.1.map (·.1) := (v.ok _ _ hs).dj _ hm
      have hL := turn_L (x := n.1) (s := (s.1, notWho who s.2)) (ws := adel who ws) v.kn
      have hW := turn_W (x := n.1) (s := (s.1, notWho who s.2)) (ls := ls) (adel_nodup (x := who) v.wn)
      have htl : (turnS n.1 (s.1, notWho who s.2) ls (adel who ws)).1 = (adm s.1 (notWho who s.2)).2.2 := rfl
      have hadm : admL who ls n.1 = (adm s.1 (notWho who s.2)).2.2 := by simp only [admL, hs]; rw [notWho_id hno]
      rw [e]
      refine ⟨[n.1], by simp, by rw [htl]; simp [hadm], fun y hy => ?_, fun y hy => ?_, fun w h => ?_, fun w h1 h2 => ?_, fun y t hy ht hm2 => ?_⟩
      · rw [hL, if_neg (by simpa using hy)]
      · simp only [List.mem_singleton] at hy
        subst hy
        rw [hL, if_pos rfl]
        refine ⟨by simp only [stripL, hs]; rw [notWho_id hno], fun t ht hm2 => ?_⟩
        split at ht
        · cases ht
        · simp only [Option.some.injEq] at ht
          subst ht
          obtain ⟨a1, a2⟩ := adm_spec s.1 (notWho who s.2)
          simp only at hm2
          rw [a1, List.map_append, List.mem_append] at hm2
          rcases hm2 with h | h
          · exact hno h
          · obtain ⟨c, hc, rfl⟩ := List.mem_map.1 h
            have : c ∈ notWho c.1 s.2 := by rw [a2]; exact List.mem_append_left _ hc
            exact (notWho_mem.1 this).2 rfl
      · by_cases h2 : w ∈ (turnS n.1 (s.1, notWho who s.2) ls (adel who ws)).1.map (·.1)
        · rw [hW, if_pos h2]
        · rw [hW, if_neg h2, agt_adel_if v.wn, if_pos (h.resolve_right h2)]
      · rw [hW, if_neg h2, agt_adel_if v.wn, if_neg h1]
      · simp only [List.mem_singleton] at hy
        obtain ⟨c, hc, rfl⟩ := List.mem_map.1 hm2
        have := v.qw y t c.1 c.2 ht hc
        rw [hw] at this
        simp only [Option.some.injEq] at this
        exact hy (by rw [this])
  obtain ⟨o1, hn1, e1, k1, k2, k3, k5, k4⟩ := h1
  unfold leaveS
  generalize leave1 who ls ws = r1 at v1 e1 k1 k2 k3 k5 ⊢
  obtain ⟨l1, ls1, ws1⟩ := r1
  simp only at v1 e1 k1 k2 k3 k5 ⊢
  have hH := heldS_names who v1.kn
  obtain ⟨i1, i2, i3, i4, i5⟩ := leaveL_spec who (heldS who ls1) v1 hH (fun n hn => (heldS_iff v1).1 (List.mem_map.2 ⟨n, hn, rfl⟩))
  have hdis : ∀ y ∈ (heldS who ls1).map (·.1), y ∉ o1 := fun y hy ho => by
    obtain ⟨s, hs, hm⟩ := (heldS_iff v1).1 hy
    exact (k2 y ho).2 s hs hm
  have hheld : ∀ y ∈ (heldS who ls1).map (·.1), ∃ s, agt y ls1 = some s ∧ agt y ls = some s ∧ notWho who s.2 = s.2 := fun y hy => by
    obtain ⟨s, hs, hm⟩ := (heldS_iff v1).1 hy
    have h2 : agt y ls = some s := by rw [← k1 y (hdis y hy)]; exact hs
    exact ⟨s, hs, h2, notWho_id (k4 y s (hdis y hy) h2)⟩
  have hrest : ∀ y, y ∉ o1 → y ∉ (heldS who ls1).map (·.1) → ∀ s, agt y ls = some s → adm (notWho who s.1) (notWho who s.2) = (s.1, s.2, []) := fun y h1 h2 s hs => by
    have hno : who ∉ s.1.map (·.1) := fun hm => h2 ((heldS_iff v1).2 ⟨s, by rw [k1 y h1]; exact hs, hm⟩)
    rw [notWho_id hno, notWho_id (k4 y s h1 hs)]
    exact adm_id fun c q h => v.hd y s c q hs h
  refine ⟨o1 ++ (heldS who ls1).map (·.1), ?_, ?_, fun y hy => ?_, fun y => ?_, fun w h => ?_, fun w h1 h2 => ?_⟩
  · rw [List.nodup_append]
    exact ⟨hn1, hH, fun a ha b hb => by rintro rfl; exact hdis a hb ha⟩
  · rw [e1, i3, List.flatMap_append, List.flatMap_map]
    congr 1
    have : ∀ (M : List Nee), (∀ m ∈ M, m.1 ∈ (heldS who ls1).map (·.1)) → M.flatMap (fun n => match agt n.1 ls1 with | some s => (adm (notWho who s.1) s.2).2.2 | none => []) = M.flatMap (fun n => admL who ls n.1) := by
      intro M hM
      induction M with
      | nil => rfl
      | cons m M ih =>
        obtain ⟨s, hs1, hs2, hq⟩ := hheld m.1 (hM m (by simp))
        rw [List.flatMap_cons, List.flatMap_cons, ih fun k hk => hM k (by simp [hk])]
        congr 1
        simp only [admL, hs1, hs2, hq]
    exact this _ fun m hm => List.mem_map.2 ⟨m, hm, rfl⟩
  · rw [List.mem_append, not_or] at hy
    simp only [admL]
    split
    · rename_i s hs
      rw [hrest y hy.1 hy.2 s hs]
    · rfl
  · by_cases hy : y ∈ (heldS who ls1).map (·.1)
    · obtain ⟨s, hs1, hs2, hq⟩ := hheld y hy
      obtain ⟨n, hn, rfl⟩ := List.mem_map.1 hy
      rw [i2 n hn s hs1]
      simp only [stripL, hs2, hq]
    · rw [i1 y hy]
      by_cases ho : y ∈ o1
      · exact (k2 y ho).1
      · rw [k1 y ho]
        simp only [stripL]
        split
        · rename_i s hs
          rw [hrest y ho hy s hs]
          simp only [hs]
          rw [if_neg (v.ne y s hs)]
        · rename_i hs
          exact hs
  · by_cases h3 : w ∈ (leaveL who (heldS who ls1) ls1 ws1).1.map (·.1)
    · exact i4 w h3
    · rw [i5 w h3]
      refine k3 w ?_
      rcases h with h | h
      · exact .inl h
      · rw [List.map_append, List.mem_append] at h
        exact .inr (h.resolve_right h3)
  · rw [List.map_append, List.mem_append, not_or] at h2
    rw [i5 w h2.2, k5 w h1 h2.1]

/-! ### A step, as what the law asks of it -/
def lockIs (ws : List (Int × Nee)) (y : Nam) (c : Claim) : Bool := decide ((agt c.1 ws).map (·.1) = some y)

structure Moved (gone : Int) (lv : Bool) (ls : List (Nam × LkS)) (ws : List (Int × Nee)) (l : List Claim) (ls' : List (Nam × LkS)) (ws' : List (Int × Nee)) : Prop where
  who : ∀ c ∈ l, c.1 ≠ gone ∧ agt c.1 ws' = none ∧ ∃ y, agt c.1 ws = some (y, c.2) ∧ ∃ s', agt y ls' = some s' ∧ c ∈ s'.1
  row : ∀ y, ((queueS y ls).filter fun a => !decide (a = gone)) = (l.filter (lockIs ws y)).map (·.1) ++ ((queueS y ls').filter fun a => !decide (a = gone))
  lvt : lv = true → ∀ y, gone ∉ queueS y ls'
  lvf : lv = false → ∀ y, (l.filter (lockIs ws y) = [] → queueS y ls' = queueS y ls) ∧ (l.filter (lockIs ws y) ≠ [] → gone ∉ queueS y ls ∧ gone ∉ queueS y ls')

theorem flat_filter {y : Nam} {p : Claim → Bool} {f : Nam → List Claim} : ∀ {ord : List Nam}, ord.Nodup → (∀ z ∈ ord, ∀ c ∈ f z, p c = decide (z = y)) → (ord.flatMap f).filter p = if y ∈ ord then f y else []
  | [], _, _ => by simp
  | z :: ord, hn, h => by
    have hn' := List.nodup_cons.1 hn
    have ih := flat_filter (y := y) hn'.2 fun z' hz' => h z' (by simp [hz'])
    rw [List.flatMap_cons, List.filter_append, ih]
    by_cases hz : z = y
    · subst hz
      have e : (f z).filter p = f z := by
        rw [List.filter_eq_self]
        intro c hc
        rw [h z (by simp) c hc]; simp
      rw [e, if_neg hn'.1]
      simp
    · have e : (f z).filter p = [] := by
        rw [List.filter_eq_nil_iff]
        intro c hc
        rw [h z (by simp) c hc]; simp [hz]
      rw [e]
      by_cases hy : y ∈ ord
      · simp [hy]
      · rw [if_neg hy, if_neg]
        · rfl
        · simp only [List.mem_cons, not_or]
          exact ⟨Ne.symm hz, hy⟩

theorem admL_in {ls : List (Nam × LkS)} {ws : List (Int × Nee)} (v : Inv ls ws) {who : Int} {y : Nam} {c : Claim} (h : c ∈ admL who ls y) : c.1 ≠ who ∧ agt c.1 ws = some (y, c.2) := by
  simp only [admL] at h
  split at h
  · rename_i s hs
    have h2 := (adm_spec (notWho who s.1) (notWho who s.2)).2
    have h3 : c ∈ notWho who s.2 := by rw [h2]; exact List.mem_append_left _ h
    have := notWho_mem.1 h3
    exact ⟨this.2, v.qw _ _ _ _ hs this.1⟩
  · cases h
theorem admL_lock {ls : List (Nam × LkS)} {ws : List (Int × Nee)} (v : Inv ls ws) {who : Int} {y z : Nam} {c : Claim} (h : c ∈ admL who ls z) : lockIs ws y c = decide (z = y) := by
  simp only [lockIs, (admL_in v h).2, Option.map_some, Option.some.injEq]

theorem Moved.leave {ls : List (Nam × LkS)} {ws : List (Int × Nee)} (v : Inv ls ws) (who : Int) : Moved who true ls ws (leaveS who ls ws).1 (leaveS who ls ws).2.1 (leaveS who ls ws).2.2 := by
  obtain ⟨ord, hn, e1, e2, e3, e4, _⟩ := leave_spec v who
  have hq : ∀ y, ((queueS y ls).filter fun a => !decide (a = who)) = (admL who ls y).map (·.1) ++ queueS y (leaveS who ls ws).2.1 ∧ who ∉ queueS y (leaveS who ls ws).2.1 := by
    intro y
    simp only [queueS, e3 y, stripL, admL]
    cases hs : agt y ls with
    | none => simp
    | some s =>
      simp only [Option.getD_some]
      obtain ⟨a1, a2⟩ := adm_spec (notWho who s.1) (notWho who s.2)
      have hq' : (((if (adm (notWho who s.1) (notWho who s.2)).1 = [] then none else some ((adm (notWho who s.1) (notWho who s.2)).1, (adm (notWho who s.1) (notWho who s.2)).2.1)) : Option LkS).getD ([], [])).2 = (adm (notWho who s.1) (notWho who s.2)).2.1 := by
        split
        · rename_i h; rw [adm_ne h]; rfl
        · rfl
      rw [hq', ← notWho_map]
      refine ⟨by rw [← List.map_append, ← a2], fun h => ?_⟩
      obtain ⟨c, hc, rfl⟩ := List.mem_map.1 h
      have : c ∈ notWho c.1 s.2 := by rw [a2]; exact List.mem_append_right _ hc
      exact (notWho_mem.1 this).2 rfl
  have hlf : ∀ y, (leaveS who ls ws).1.filter (lockIs ws y) = admL who ls y := fun y => by
    rw [e1, flat_filter hn fun z _ c hc => admL_lock v hc]
    split
    · rfl
    · rename_i h; rw [e2 y h]
  refine ⟨fun c hc => ?_, fun y => ?_, fun _ y => (hq y).2, fun h => by (cases h)⟩
  · have hc' := hc
    rw [e1] at hc'
    obtain ⟨y, _, hy⟩ := List.mem_flatMap.1 hc'
    obtain ⟨h1, h2⟩ := admL_in v hy
    refine ⟨h1, e4 _ (.inr (List.mem_map.2 ⟨c, hc, rfl⟩)), y, h2, ?_⟩
    simp only [admL] at hy
    split at hy
    · rename_i s hs
      have a1 := (adm_spec (notWho who s.1) (notWho who s.2)).1
      have hm : c ∈ (adm (notWho who s.1) (notWho who s.2)).1 := by rw [a1]; exact List.mem_append_right _ hy
      refine ⟨_, by rw [e3]; simp only [stripL, hs]; rw [if_neg (fun h => by rw [h] at hm; cases hm)], hm⟩
    · cases hy
  · rw [hlf, (hq y).1, List.filter_eq_self.2]
    intro a ha
    simp only [Bool.not_eq_true', decide_eq_false_iff_not]
    rintro rfl
    exact (hq y).2 ha

theorem Moved.free {ls : List (Nam × LkS)} {ws : List (Int × Nee)} (v : Inv ls ws) (who : Int) (x : Nam) (hok : (freeS who x ls ws).1.2 = 0) : Moved who false ls ws (freeS who x ls ws).1.1 (freeS who x ls ws).2.1 (freeS who x ls ws).2.2 := by
  cases hx : agt x ls with
  | none => rw [freeS_no (by simp [hx])] at hok; cases hok
  | some s =>
    by_cases hm : who ∈ s.1.map (·.1)
    case neg =>
      rw [freeS_no (by intro s' hs'; rw [hx] at hs'; cases hs'; have h9 : ¬ 0 ≤ posC who s.1 0 := fun h => hm (posC_mem.1 h); omega)] at hok
      cases hok
    rw [freeS_held v hx hm]
    have hL := turn_L (x := x) (s := (notWho who s.1, s.2)) (ws := ws) v.kn
    have hW := turn_W (x := x) (s := (notWho who s.1, s.2)) (ls := ls) v.wn
    have htl : (turnS x (notWho who s.1, s.2) ls ws).1 = (adm (notWho who s.1) s.2).2.2 := rfl
    obtain ⟨a1, a2⟩ := adm_spec (notWho who s.1) s.2
    have hno : who ∉ s.2.map (·.1) := fun h => by
      obtain ⟨c, hc, rfl⟩ := List.mem_map.1 h
      exact (v.ok _ _ hx).dj c hc hm
    have hin : ∀ c ∈ (adm (notWho who s.1) s.2).2.2, agt c.1 ws = some (x, c.2) := fun c hc => v.qw _ _ _ _ hx (by rw [a2]; exact List.mem_append_left _ hc)
    have hlf : ∀ y, (turnS x (notWho who s.1, s.2) ls ws).1.filter (lockIs ws y) = if y = x then (adm (notWho who s.1) s.2).2.2 else [] := fun y => by
      rw [htl]
      split
      · rename_i h
        subst h
        rw [List.filter_eq_self]
        intro c hc
        simp [lockIs, hin c hc]
      · rename_i h
        rw [List.filter_eq_nil_iff]
        intro c hc
        simp only [lockIs, hin c hc, Option.map_some, Option.some.injEq, decide_eq_true_eq]
        exact fun e => h e.symm
    have hq : ∀ y, queueS y (turnS x (notWho who s.1, s.2) ls ws).2.1 = if y = x then (adm (notWho who s.1) s.2).2.1.map (·.1) else queueS y ls := fun y => by
      simp only [queueS]
      rw [hL]
      split
      · split
        · rename_i h; rw [adm_ne h]; rfl
        · rfl
      · rfl
    have hqx : queueS x ls = (adm (notWho who s.1) s.2).2.2.map (·.1) ++ (adm (notWho who s.1) s.2).2.1.map (·.1) := by
      simp only [queueS, hx, Option.getD_some]
      rw [← List.map_append, ← a2]
    have hnx : who ∉ queueS x ls := by simp only [queueS, hx, Option.getD_some]; exact hno
    refine ⟨fun c hc => ?_, fun y => ?_, fun h => by (cases h), fun _ y => ⟨fun h => ?_, fun h => ?_⟩⟩
    · have hc' : c ∈ (adm (notWho who s.1) s.2).2.2 := hc
      refine ⟨fun e => hno (e ▸ List.mem_map.2 ⟨c, by rw [a2]; exact List.mem_append_left _ hc', rfl⟩), by rw [hW, if_pos (List.mem_map.2 ⟨c, hc, rfl⟩)], x, hin c hc', ?_⟩
      have hmm : c ∈ (adm (notWho who s.1) s.2).1 := by rw [a1]; exact List.mem_append_right _ hc'
      exact ⟨_, by rw [hL, if_pos rfl, if_neg (fun h => by rw [h] at hmm; cases hmm)], hmm⟩
    · rw [hlf, hq]
      by_cases hy : y = x
      · subst hy
        rw [if_pos rfl, if_pos rfl, hqx, List.filter_append]
        congr 1
        rw [List.filter_eq_self]
        intro a ha
        simp only [Bool.not_eq_true', decide_eq_false_iff_not]
        rintro rfl
        exact hnx (by rw [hqx]; exact List.mem_append_left _ ha)
      · rw [if_neg hy, if_neg hy]
        simp
    · rw [hlf] at h
      rw [hq]
      by_cases hy : y = x
      · subst hy
        rw [if_pos rfl] at h ⊢
        rw [hqx, h]
        simp
      · rw [if_neg hy]
    · rw [hlf] at h
      by_cases hy : y = x
      · subst hy
        refine ⟨hnx, ?_⟩
        rw [hq, if_pos rfl]
        intro h9
        exact hnx (by rw [hqx]; exact List.mem_append_right _ h9)
      · rw [if_neg hy] at h; exact absurd rfl h

end Go.Proofs.YtacmnfpgimgigaaGreat

namespace Go.Proofs.YtacmnfpgimgigaaGreat
open Go
set_option linter.unusedSimpArgs false
set_option linter.unusedVariables false
set_option maxRecDepth 100000

def Closed (ls : List (Nam × LkS)) (ws : List (Int × Nee)) (S : Int → Prop) : Prop := ∀ p, S p → ∃ x a q, agt p ws = some (x, a) ∧ S q ∧ q ∈ (hsK ls x).map (·.1)
def Stk (ls : List (Nam × LkS)) (ws : List (Int × Nee)) (p : Int) : Prop := ∃ S : Int → Prop, Closed ls ws S ∧ S p

section
variable {ls : List (Nam × LkS)} {ws : List (Int × Nee)}
theorem Stk.closed : Closed ls ws (Stk ls ws) := by
  rintro p ⟨S, c, hp⟩
  obtain ⟨x, a, q, h1, h2, h3⟩ := c p hp
  exact ⟨x, a, q, h1, ⟨S, c, h2⟩, h3⟩
theorem Stk.waits {p : Int} (h : Stk ls ws p) : (agt p ws).isSome = true := by
  obtain ⟨x, a, q, h1, _⟩ := Stk.closed p h
  rw [h1]; rfl

theorem alone_notWho {who : Int} {hs : List Claim} (ha : Alone1 hs) : Alone1 (notWho who hs) := by
  intro c hc h
  obtain ⟨h1, h2⟩ := notWho_mem.1 hc
  have := ha c h1 h
  rw [this]
  simp [notWho, h2]

/-- Where somebody stays who holds it, nobody is let in. -/
theorem noadm (v : Inv ls ws) {who q : Int} {x : Nam} {s : LkS} (hs : agt x ls = some s) (hq : q ∈ s.1.map (·.1)) (hne : q ≠ who) (hw : agt who ws = none) :
    notWho who s.2 = s.2 ∧ adm (notWho who s.1) s.2 = (notWho who s.1, s.2, []) ∧ q ∈ (notWho who s.1).map (·.1) := by
  obtain ⟨d, hd, rfl⟩ := List.mem_map.1 hq
  have hdn : d ∈ notWho who s.1 := notWho_mem.2 ⟨hd, hne⟩
  refine ⟨notWho_id fun hm => ?_, ?_, List.mem_map.2 ⟨d, hdn, rfl⟩⟩
  · obtain ⟨c, hc, rfl⟩ := List.mem_map.1 hm
    have := v.qw x s c.1 c.2 hs hc
    rw [hw] at this; cases this
  · refine adm_id (s := (notWho who s.1, s.2)) fun c q' h => ?_
    have hlet := v.hd x s c q' hs h
    have hal := (v.ok _ _ hs).al
    cases hx : letsB (notWho who s.1) c.2 with
    | false => rfl
    | true =>
      rcases (letsB_iff (alone_notWho hal)).1 hx with h1 | ⟨h1, h2⟩
      · rw [h1] at hdn; cases hdn
      · have : letsB s.1 c.2 = true := by
          refine (letsB_iff hal).2 (.inr ⟨h1, fun e he => ?_⟩)
          cases h3 : e.2 with
          | false => rfl
          | true =>
            have h4 := hal e he h3
            rw [h4] at hd
            simp only [List.mem_singleton] at hd
            rw [← hd, h2 d hdn] at h3
            cases h3
        rw [hlet] at this; cases this

theorem holdAt {x : Nam} {q : Int} (h : q ∈ (hsK ls x).map (·.1)) : ∃ s, agt x ls = some s ∧ q ∈ s.1.map (·.1) := by
  unfold hsK at h
  cases hx : agt x ls with
  | none => rw [hx] at h; cases h
  | some s => rw [hx] at h; exact ⟨s, rfl, h⟩

/-- Who is of a closed set stays where he is when another one leaves, and the set stays closed. -/
theorem closed_stay (v : Inv ls ws) {S : Int → Prop} (c : Closed ls ws S) {who : Int} (hw : agt who ws = none) : Closed (leaveS who ls ws).2.1 (leaveS who ls ws).2.2 S := by
  obtain ⟨ord, hn, e1, e2, e3, e4, e5⟩ := leave_spec v who
  intro p hp
  obtain ⟨x, a, q, h1, h2, h3⟩ := c p hp
  obtain ⟨x2, a2, q2, h1q, _, _⟩ := c q h2
  have hqw : q ≠ who := by rintro rfl; rw [hw] at h1q; cases h1q
  have hpw : p ≠ who := by rintro rfl; rw [hw] at h1; cases h1
  obtain ⟨s, hs, hq⟩ := holdAt h3
  obtain ⟨n1, n2, n3⟩ := noadm v hs hq hqw hw
  refine ⟨x, a, q, ?_, h2, ?_⟩
  · rw [e5 p hpw fun hm => ?_]
    · exact h1
    · obtain ⟨d, hd, rfl⟩ := List.mem_map.1 hm
      rw [e1] at hd
      obtain ⟨y, hy, hdy⟩ := List.mem_flatMap.1 hd
      have := (admL_in v hdy).2
      rw [h1] at this
      simp only [Option.some.injEq, Prod.mk.injEq] at this
      obtain ⟨rfl, _⟩ := this
      simp only [admL, hs, n1, n2] at hdy
      cases hdy
  · unfold hsK
    rw [e3 x]
    simp only [stripL, hs, n1, n2]
    rw [if_neg]
    · exact n3
    · intro h; rw [h] at n3; cases n3

/-- .. and what is closed then was so before. -/
theorem closed_back (v : Inv ls ws) {S : Int → Prop} {who : Int} (c : Closed (leaveS who ls ws).2.1 (leaveS who ls ws).2.2 S) : Closed ls ws S := by
  obtain ⟨ord, hn, e1, e2, e3, e4, e5⟩ := leave_spec v who
  have hst : ∀ p, S p → p ≠ who ∧ p ∉ (leaveS who ls ws).1.map (·.1) ∧ agt p (leaveS who ls ws).2.2 = agt p ws := fun p hp => by
    obtain ⟨x, a, q, h1, _, _⟩ := c p hp
    have hno : ¬ (p = who ∨ p ∈ (leaveS who ls ws).1.map (·.1)) := fun h => by rw [e4 p h] at h1; cases h1
    rw [not_or] at hno
    exact ⟨hno.1, hno.2, e5 p hno.1 hno.2⟩
  intro p hp
  obtain ⟨x, a, q, h1, h2, h3⟩ := c p hp
  obtain ⟨p1, p2, p3⟩ := hst p hp
  obtain ⟨q1, q2, q3⟩ := hst q h2
  refine ⟨x, a, q, by rw [← p3]; exact h1, h2, ?_⟩
  obtain ⟨s', hs', hq⟩ := holdAt h3
  rw [e3 x] at hs'
  simp only [stripL] at hs'
  cases hs : agt x ls with
  | none => rw [hs] at hs'; cases hs'
  | some s =>
    rw [hs] at hs'
    simp only at hs'
    split at hs'
    · cases hs'
    simp only [Option.some.injEq] at hs'
    subst hs'
    obtain ⟨a1, a2⟩ := adm_spec (notWho who s.1) (notWho who s.2)
    simp only at hq
    rw [a1, List.map_append, List.mem_append] at hq
    rcases hq with hq | hq
    · obtain ⟨d, hd, rfl⟩ := List.mem_map.1 hq
      unfold hsK
      rw [hs]
      exact List.mem_map.2 ⟨d, (notWho_mem.1 hd).1, rfl⟩
    · exfalso
      apply q2
      obtain ⟨d, hd, rfl⟩ := List.mem_map.1 hq
      have had : d ∈ admL who ls x := by simp only [admL, hs]; exact hd
      rw [e1]
      refine List.mem_map.2 ⟨d, List.mem_flatMap.2 ⟨x, ?_, had⟩, rfl⟩
      apply Classical.byContradiction
      intro hno
      rw [e2 x hno] at had
      cases had

theorem stk_leave (v : Inv ls ws) {who : Int} (hw : agt who ws = none) (p : Int) : Stk (leaveS who ls ws).2.1 (leaveS who ls ws).2.2 p ↔ Stk ls ws p :=
  ⟨fun ⟨S, c, h⟩ => ⟨S, closed_back v c, h⟩, fun ⟨S, c, h⟩ => ⟨S, closed_stay v c hw, h⟩⟩

/-- Where nobody can leave any more, all who wait are stuck. -/
theorem stk_end (v : Inv ls ws) (h : ∀ x s, agt x ls = some s → ∀ c ∈ s.1, (agt c.1 ws).isSome = true) (p : Int) : Stk ls ws p ↔ (agt p ws).isSome = true := by
  refine ⟨fun h => h.waits, fun hp => ⟨fun p => (agt p ws).isSome = true, fun p hp => ?_, hp⟩⟩
  obtain ⟨⟨x, a⟩, hx⟩ := Option.isSome_iff_exists.1 hp
  obtain ⟨s, hs, hm⟩ := v.wq p x a hx
  obtain ⟨d, l, hd⟩ := List.exists_cons_of_ne_nil (v.ne _ _ hs)
  have hdm : d ∈ s.1 := by rw [hd]; simp
  refine ⟨x, a, d.1, hx, h x s hs d hdm, ?_⟩
  unfold hsK
  rw [hs]
  exact List.mem_map.2 ⟨d, hdm, rfl⟩

/-! ### Who leaves takes something along -/
theorem turnS_lt {x : Nam} {s s0 : LkS} (h : agt x ls = some s0) : tot (turnS x s ls ws).2.1 + (s0.1.length + s0.2.length) ≤ tot ls + (s.1.length + s.2.length) := by
  obtain ⟨a1, a2⟩ := adm_spec s.1 s.2
  obtain ⟨b1, b2, b3⟩ := tot_aset (s' := s) h
  have hs : agt x (aset x s ls) = some s := agt_aset _ _ _
  have e1 := congrArg List.length a1
  have e2 := congrArg List.length a2
  simp only [List.length_append] at e1 e2
  simp only [turnS]
  split
  · rename_i hn
    obtain ⟨c1, c2, c3⟩ := tot_adel hs
    rw [hn] at e1
    simp only [List.length_nil] at e1
    omega
  · obtain ⟨c1, c2, c3⟩ := tot_aset (s' := ((adm s.1 s.2).1, (adm s.1 s.2).2.1)) hs
    simp only at c1 c2
    omega
theorem freeS_lt {who : Int} {x : Nam} {s : LkS} (h : agt x ls = some s) (hm : who ∈ s.1.map (·.1)) : tot (freeS who x ls ws).2.1 < tot ls := by
  have h0 := (posC_mem (l := s.1) (k := 0)).2 hm
  rcases posC_spec who s.1 0 with hp | ⟨i, hi, hp⟩
  · omega
  · rw [Nat.zero_add] at hp
    rw [freeS_turn h hp]
    have := turnS_lt (s := (s.1.eraseIdx i, s.2)) (ws := ws) h
    simp only [List.length_eraseIdx, if_pos hi] at this
    simp only
    omega
theorem leave_lt (v : Inv ls ws) {who : Int} (hw : agt who ws = none) {x : Nam} {s : LkS} (h : agt x ls = some s) (hm : who ∈ s.1.map (·.1)) : tot (leaveS who ls ws).2.1 < tot ls := by
  have e : leave1 who ls ws = ([], ls, ws) := by simp [leave1, hw]
  have hx := (heldS_iff v (who := who) (y := x)).2 ⟨s, h, hm⟩
  unfold leaveS
  rw [e]
  simp only
  cases hL : heldS who ls with
  | nil => rw [hL] at hx; cases hx
  | cons n L =>
    have hn : n ∈ heldS who ls := by rw [hL]; simp
    obtain ⟨t, ht, htm⟩ := (heldS_iff v).1 (List.mem_map.2 ⟨n, hn, rfl⟩)
    have h1 := freeS_lt (ws := ws) ht htm
    have h2 := (leaveL_tot who L (freeS who n.1 ls ws).2.1 (freeS who n.1 ls ws).2.2).1
    simp only [leaveL]
    omega
end
end Go.Proofs.YtacmnfpgimgigaaGreat

namespace Go.Proofs.YtacmnfpgimgigaaGreat
open Go
set_option linter.unusedSimpArgs false
set_option linter.unusedVariables false
set_option maxRecDepth 100000

/-- A key is handed over. -/
def PassK {κ : Type} (enc : κ → Value) (k : κ) (args : Array Value) : HP := HP.fact (args = #[enc k]) EmpH
theorem PassK.mk {κ : Type} {enc : κ → Value} {k : κ} {w0 w : World} {A B : HP} (h : St w0 (A * B) w) : St w0 (A * (PassK enc k #[enc k] * B)) w :=
  h.ent (Ent.sep (Ent.rfl' A) ((Ent.empL B).trans (Ent.sep (Ent.fact rfl EmpH) (Ent.rfl' B))))
theorem PassK.args {κ : Type} {enc : κ → Value} {k : κ} {args : Array Value} {w0 w : World} {A B : HP} (h : St w0 (A * (PassK enc k args * B)) w) : args = #[enc k] ∧ St w0 (A * B) w := by
  have h1 := h.sw2
  obtain ⟨e, h2⟩ := h1.factF
  exact ⟨e, h2.right⟩
theorem St.endMark {P : Program} {w0 w : World} {D : Nat} {F : HP} {ar : Array Value} {A : World → Prop} (h : St w0 (Blk D (.deferred (some [])) * F) w) (hA : ∀ w', St w0 F w' → A w') : retD P [{ target := .collected D, args := ar }] A w :=
  St.mark h fun w' h' => hA w' h'.right

abbrev BoxM (Bx m : Nat) : HP := Blk Bx (.cells #[.map (some m)] 56 (0, 0))

section
attribute [local go_sem] F75.t2_eq
theorem keys1_iter {w0 : World} {Bx m : Nat} {l : List (Int × Value)} {R : HP} :
    IterOk Tryz.prog w0 75 #[.pointer (some ⟨Bx, 0, none⟩)] (PassK encI) (fun pre => ∃ post, (pre ++ post).Perm (l.map (·.1))) (fun xs => xs.Perm (l.map (·.1))) (BoxM Bx m * (MapP encI m l * R)) (BoxM Bx m * (MapP encI m l * R)) := by
  intro l0 w1 J X hy h
  show Calls _ 75 #[.func (.yield l0) #[] #[], .pointer (some ⟨Bx, 0, none⟩)] w1 _
  refine F75.calls (by simp) ?_
  unfold F75.code
  simp -dsimp -implicitDefEqProofs (disch := omega) only [go_sem, reqD_of, dec_t, dec_f, wrap_i64, wrap_u32, wrap_u64, wrap_u8, h.cl]
  refine h.rangeH Tryz.underlying56 fun r w2 h2 => ?_
  simp -dsimp -implicitDefEqProofs (disch := omega) only [go_sem, reqD_of, dec_t, dec_f, wrap_i64, wrap_u32, wrap_u64, wrap_u8]
  refine loop_intro (fun e w' => e.ds = [] ∧ e.ρ 0 = .func (.yield l0) #[] #[] ∧ e.ρ 5 = .pointer (some ⟨r, 0, none⟩) ∧ ∃ (pre : List Int) (left : List (Int × Value)), (pre ++ left.map (·.1)).Perm (l.map (·.1)) ∧ St w0 (J pre * (BoxM Bx m * (IterP encI m r l left * R))) w')
    (fun _ w => iterLeft m r w) ?_ ?_
  · exact ⟨rfl, by simp -dsimp -implicitDefEqProofs only [go_sem], by simp -dsimp -implicitDefEqProofs only [go_sem], [], l, by simp, h2⟩
  rintro e w3 ⟨hd, e0, e5, pre, left, hp, h3⟩
  have hleft := h3.iterLeft m
  simp -dsimp -implicitDefEqProofs (disch := omega) only [go_sem, reqD_of, dec_t, dec_f, wrap_i64, wrap_u32, wrap_u64, wrap_u8, hd, e0, e5]
  refine h3.nextH m (fun hnil => ?_) fun j hj w4 h4 => ?_
  · subst hnil
    simp -dsimp -implicitDefEqProofs (disch := omega) only [go_sem, reqD_of, dec_t, dec_f, wrap_i64, wrap_u32, wrap_u64, wrap_u8, hd, e0, e5]
    exact ⟨⟨_, rfl⟩, .inl ⟨pre, by simpa using hp, h3.iterEnd m⟩⟩
  simp -dsimp -implicitDefEqProofs (disch := omega) only [go_sem, reqD_of, dec_t, dec_f, wrap_i64, wrap_u32, wrap_u64, wrap_u8, hd, e0, e5]
  refine h4.entryH m ?_
  simp -dsimp -implicitDefEqProofs (disch := omega) only [go_sem, reqD_of, dec_t, dec_f, wrap_i64, wrap_u32, wrap_u64, wrap_u8, hd, e0, e5]
  have h6 := PassK.mk (enc := encI) (k := (left[j]).1) (h4.iterDone m)
  have hpj : (left[j] :: left.eraseIdx j).Perm left := perm_eraseIdx left j hj
  have hpk : ((pre ++ [(left[j]).1]) ++ (left.eraseIdx j).map (·.1)).Perm (l.map (·.1)) := by
    refine List.Perm.trans ?_ hp
    rw [List.append_assoc]
    exact List.Perm.append_left pre (hpj.map (fun p : Int × Value => p.1))
  refine (hy _ _ _ _ _ ⟨_, hpk⟩ h6).mono ?_
  rintro e' w5 (⟨rfl, h7⟩ | ⟨rfl, h7⟩)
  · have hl5 := h7.iterLeft m
    have hel : (left.eraseIdx j).length + 1 = left.length := by have := hpj.length_eq; simpa using this
    simp -dsimp -implicitDefEqProofs only [go_sem, hd, e0, e5]
    exact ⟨⟨_, _, hpk, h7⟩, by omega⟩
  · simp -dsimp -implicitDefEqProofs only [go_sem, hd, e0, e5]
    exact ⟨⟨_, rfl⟩, .inr ⟨_, h7.iterEnd m⟩⟩

end
section
attribute [local go_sem] F99.t4_eq
theorem appendSeq_any {w0 w : World} {F : HP} {Bx m : Nat} {l : List (Int × Value)} (h : St w0 (BoxM Bx m * (MapP encI m l * F)) w) (hl : l.length < 1099511627776) :
    Calls Tryz.prog 99 #[.slice none 0 0, .func (.func 75) #[] #[.pointer (some ⟨Bx, 0, none⟩)]] w fun e w' => ∃ v xs, xs.Perm (l.map (·.1)) ∧ St w0 (RowO 3 1 v xs.length (intR xs) * (BoxM Bx m * (MapP encI m l * F))) w' ∧ e = .returned v := by
  refine F99.calls (by simp) ?_
  unfold F99.code
  simp -dsimp -implicitDefEqProofs (disch := omega) only [go_sem, reqD_of, dec_t, dec_f, wrap_i64, wrap_u32, wrap_u64, wrap_u8]
  refine h.new fun S w1 h1 => ?_
  simp -dsimp -implicitDefEqProofs (disch := omega) only [go_sem, reqD_of, dec_t, dec_f, wrap_i64, wrap_u32, wrap_u64, wrap_u8]
  refine range_intro (F := Blk S (.cells #[.slice none 0 0] 32 (0, 0)) * (BoxM Bx m * (MapP encI m l * F))) h1 (gf := 75) (lb := #[.pointer (some ⟨Bx, 0, none⟩)]) (by simp -dsimp -implicitDefEqProofs only [go_sem]) fact_fnOk_75 (Pass := PassK encI)
    (fun pre => HP.ex fun v : Value => Blk S (.cells #[v] 32 (0, 0)) * RowO 3 1 v pre.length (intR pre))
    (fun _ _ => HP.fact False EmpH) ?_ ?_ (keys1_iter (m := m) (l := l) (R := F)) ?_ ?_
  · refine Ent.sep (HP.ex_intro (.slice none 0 0) ?_) (Ent.rfl' _)
    exact (Ent.nilRowO 3 1 _).trans (Ent.of_eq (sep_comm _ _))
  · intro l0 pre x args G W1 hok h2
    obtain ⟨rfl, h3⟩ := PassK.args h2
    refine ⟨rfl, ?_⟩
    unfold F99.a0
    simp -dsimp -implicitDefEqProofs only [go_sem]
    refine ⟨h2, fun G2 W2 hl2 h4 => ?_⟩
    obtain ⟨_, h5⟩ := PassK.args h4
    obtain ⟨v, h6⟩ := h5.exF
    obtain ⟨post, hp⟩ := hok
    have hpl : pre.length + 1 ≤ l.length := by have := hp.length_eq; simp at this; omega
    unfold F99.b0
    simp -dsimp -implicitDefEqProofs (disch := omega) only [go_sem, reqD_of, dec_t, dec_f, wrap_i64, wrap_u32, wrap_u64, wrap_u8, List.toList_toArray, h6.cl]
    refine h6.lit fact_rowTy_32 (cells := intR [x]) rfl (by decide) (by decide) fun v3 w4 h7 => ?_
    simp -dsimp -implicitDefEqProofs (disch := omega) only [go_sem, reqD_of, dec_t, dec_f, wrap_i64, wrap_u32, wrap_u64, wrap_u8]
    refine h7.appR (v := v) (x := v3) fact_rowTy_32 Tryz.underlying32 (intR_cells [x]) (by simp [intR]) (by simp only [maxLen]; omega) (by omega) fun v4 w5 h8 => ?_
    simp -dsimp -implicitDefEqProofs (disch := omega) only [go_sem, reqD_of, dec_t, dec_f, wrap_i64, wrap_u32, wrap_u64, wrap_u8]
    obtain ⟨a4, c4, rfl, _⟩ := h8.rowForm v4
    refine h8.sto (b := S) (off := 0) (by simp) rfl fun w6 h9 => ?_
    simp -dsimp -implicitDefEqProofs (disch := omega) only [go_sem, reqD_of, dec_t, dec_f, wrap_i64, wrap_u32, wrap_u64, wrap_u8]
    rw [intR_app pre [x]]
    have h10 : St w0 ((Blk S (.cells #[.slice a4 (pre.length + 1) c4] 32 (0, 0)) * RowO 3 1 (.slice a4 (pre.length + 1) c4) (pre.length + 1) (intR pre ++ intR [x])) * G2) w6 := h9.right
    rw [List.length_append]
    exact h10.ent (Ent.sep (Ent.ex (fun v : Value => Blk S (.cells #[v] 32 (0, 0)) * RowO 3 1 v (pre.length + 1) (intR pre ++ intR [x])) _) (Ent.rfl' _))
  · intro D xs w' hS h2
    obtain ⟨v, h3⟩ := h2.sw2.exF
    simp -dsimp -implicitDefEqProofs (disch := omega) only [go_sem, reqD_of, dec_t, dec_f, wrap_i64, wrap_u32, wrap_u64, wrap_u8, h3.cl]
    refine St.endMark (h3.take (.blk D)) fun w4 h4 => ?_
    exact ⟨v, xs, hS, h4.sub, rfl⟩
  · intro D c pre w' h2
    obtain ⟨hf, _⟩ := h2.sw2.factF
    exact hf.elim

end

theorem collect_any {w0 w : World} {F : HP} {Bx m : Nat} {l : List (Int × Value)} (h : St w0 (BoxM Bx m * (MapP encI m l * F)) w) (hl : l.length < 1099511627776) :
    Calls Tryz.prog 74 #[.func (.func 75) #[] #[.pointer (some ⟨Bx, 0, none⟩)]] w fun e w' => ∃ v xs, xs.Perm (l.map (·.1)) ∧ St w0 (RowO 3 1 v xs.length (intR xs) * (BoxM Bx m * (MapP encI m l * F))) w' ∧ e = .returned v := by
  refine F74.calls (by simp) ?_
  unfold F74.code
  simp -dsimp -implicitDefEqProofs (disch := omega) only [go_sem, reqD_of, dec_t, dec_f, wrap_i64, wrap_u32, wrap_u64, wrap_u8]
  refine (appendSeq_any h hl).mono ?_
  rintro e' w1 ⟨v, xs, hp, h1, rfl⟩
  simp -dsimp -implicitDefEqProofs (disch := omega) only [go_sem, reqD_of, dec_t, dec_f, wrap_i64, wrap_u32, wrap_u64, wrap_u8]
  exact ⟨v, xs, hp, h1, rfl⟩

end Go.Proofs.YtacmnfpgimgigaaGreat

namespace Go.Proofs.YtacmnfpgimgigaaGreat
open Go
set_option linter.unusedSimpArgs false
set_option linter.unusedVariables false
set_option maxRecDepth 100000

def FreeOk (ls : List (Nam × LkS)) (ws : List (Int × Nee)) (e : Ending) : Prop :=
  (∃ who x s, e = .returned (.tuple #[.int .i64 who, .bool true]) ∧ agt x ls = some s ∧ who ∈ s.1.map (·.1) ∧ agt who ws = none) ∨
  (e = .returned (.tuple #[.int .i64 0, .bool false]) ∧ ∀ x s, agt x ls = some s → ∀ c ∈ s.1, (agt c.1 ws).isSome = true)

section
attribute [local go_sem] F57.t10_eq F57.t6_eq F57.t3_eq F57.t11_eq
theorem freeSome_any {w0 w : World} {F : HP} {B : Nat} {ls : List (Nam × LkS)} {ws : List (Int × Nee)} (h : St w0 (TabP B ls ws * F) w) (hb : ∀ p ∈ ls, p.2.1.length < 1099511627776) :
    Calls Tryz.prog 57 #[.pointer (some ⟨B, 0, none⟩)] w fun e w' => St w0 (TabP B ls ws * F) w' ∧ FreeOk ls ws e := by
  obtain ⟨m1, m2, ps, hps, h1⟩ := TabP.open h
  rw [TabQ_eq] at h1
  refine F57.calls (by simp) ?_
  unfold F57.code
  simp -dsimp -implicitDefEqProofs (disch := omega) only [go_sem, reqD_of, dec_t, dec_f, wrap_i64, wrap_u32, wrap_u64, wrap_u8, h1.cl]
  have hkeys : (ps.map (·.1)).Nodup := by
    have := h1.mapNodup m1
    rwa [amap_keys] at this
  refine h1.rangeH (b := m1) Tryz.underlying55 fun r w1 h2 => ?_
  simp -dsimp -implicitDefEqProofs (disch := omega) only [go_sem, reqD_of, dec_t, dec_f, wrap_i64, wrap_u32, wrap_u64, wrap_u8]
  refine loop_intro (fun e w' => e.ds = [] ∧ e.ρ 0 = .pointer (some ⟨B, 0, none⟩) ∧ e.ρ 14 = .pointer (some ⟨r, 0, none⟩) ∧ ∃ (done left : Ptrs), (done ++ left).Perm ps ∧ (∀ p ∈ done, ∀ c ∈ p.2.2.1, (agt c.1 ws).isSome = true) ∧
      St w0 (Blk B (.cells #[.map (some m1), .map (some m2)] 58 (0, 0)) * (IterP namV m1 r (amap ptrV ps) (amap ptrV left) * (MapP encI m2 (amap needV ws) * (lksP ps * F)))) w')
    (fun _ w => iterLeft m1 r w) ?_ ?_
  · exact ⟨rfl, by simp -dsimp -implicitDefEqProofs only [go_sem], by simp -dsimp -implicitDefEqProofs only [go_sem], [], ps, .refl _, by simp, h2.sub⟩
  rintro eo w2 ⟨hdo, e0o, e14o, done, left, hperm, hok, h3⟩
  simp -dsimp -implicitDefEqProofs (disch := omega) only [go_sem, reqD_of, dec_t, dec_f, wrap_i64, wrap_u32, wrap_u64, wrap_u8, hdo, e14o]
  refine h3.nextP m1 (fun hl => ?_) (fun x rest w3 hx h4 => ?_)
  · subst hl
    rw [List.append_nil] at hperm
    have h5 := h3.iterEnd m1
    simp -dsimp -implicitDefEqProofs (disch := omega) only [go_sem, reqD_of, dec_t, dec_f, wrap_i64, wrap_u32, wrap_u64, wrap_u8, hdo]
    refine ⟨(TabP.col (B := B) (m1 := m1) (m2 := m2) (ws := ws) h5 hps), .inr ⟨rfl, fun x s hxs c hc => ?_⟩⟩
    rw [← hps, agt_amap] at hxs
    cases hk : agt x ps with
    | none => rw [hk] at hxs; cases hxs
    | some bs =>
      rw [hk] at hxs
      simp only [Option.map_some, Option.some.injEq] at hxs
      exact hok (x, bs) (hperm.mem_iff.2 (mem_of_agt hk)) c (by rw [hxs]; exact hc)
  obtain ⟨nm, b, s⟩ := x
  simp -dsimp -implicitDefEqProofs (disch := omega) only [go_sem, reqD_of, dec_t, dec_f, wrap_i64, wrap_u32, wrap_u64, wrap_u8, hdo, e14o]
  refine h4.entryH m1 ?_
  have h5 := h4.iterDone m1
  have hmem : (nm, (b, s)) ∈ ps := hperm.mem_iff.1 (List.mem_append_right _ (hx.mem_iff.1 (by simp)))
  have hk := agt_of_mem hkeys hmem
  have hpm : ((done ++ [(nm, (b, s))]) ++ rest).Perm ps := by
    rw [List.append_assoc]
    exact (List.Perm.append_left done hx).trans hperm
  have hmeas : ∀ {A : HP} {C : HP → HP} {w' : World} [Hole (.map m1) A (IterP namV m1 r (amap ptrV ps) (amap ptrV rest)) C], St w0 A w' → iterLeft m1 r w' < iterLeft m1 r w2 := by
    intro A C w' _ hw'
    rw [hw'.iterLeft m1, h3.iterLeft m1]
    have := hx.length_eq
    simp only [amap, List.length_map]
    simp at this
    omega
  rw [lks_open hk] at h5
  obtain ⟨v1, v2, h6⟩ := LkP.openH (b := b) h5
  have hsl : s.1.length < 1099511627776 := hb (nm, s) (by rw [← hps]; exact List.mem_map.2 ⟨(nm, (b, s)), hmem, rfl⟩)
  obtain ⟨_, a1, c1, rfl, hc1, _⟩ := claimAt (h6.gives (B := Reads 2 v1 s.1.length (clR s.1)))
  have hbk := LkQ.clH h6 b
  have hls : agt nm ls = some s := by rw [← hps, agt_amap, hk]; rfl
  simp -dsimp -implicitDefEqProofs (disch := omega) only [go_sem, reqD_of, dec_t, dec_f, wrap_i64, wrap_u32, wrap_u64, wrap_u8, hdo, e0o, e14o, ptrV, hbk]
  refine loop_intro (fun e w' => e.ds = [] ∧ e.ρ 0 = .pointer (some ⟨B, 0, none⟩) ∧ e.ρ 14 = .pointer (some ⟨r, 0, none⟩) ∧ e.ρ 22 = .slice a1 s.1.length c1 ∧ e.ρ 23 = .int .i64 s.1.length ∧ ∃ i : Nat, i ≤ s.1.length ∧ e.ρ 24 = .int .i64 i ∧ (∀ c ∈ s.1.take i, (agt c.1 ws).isSome = true) ∧
      St w0 (Blk B (.cells #[.map (some m1), .map (some m2)] 58 (0, 0)) * (IterP namV m1 r (amap ptrV ps) (amap ptrV rest) * (MapP encI m2 (amap needV ws) * ((LkQ b (.slice a1 s.1.length c1) v2 s.1 s.2 * lksP (adel nm ps)) * F)))) w')
    (fun e _ => match e.ρ 24 with | .int _ n => (s.1.length - n).toNat | _ => 0) ?_ ?_
  · exact ⟨by simp -dsimp -implicitDefEqProofs only [go_sem, hdo], by simp -dsimp -implicitDefEqProofs only [go_sem, e0o], by simp -dsimp -implicitDefEqProofs only [go_sem, e14o], by simp -dsimp -implicitDefEqProofs only [go_sem], by simp -dsimp -implicitDefEqProofs only [go_sem], 0, by omega, by simp -dsimp -implicitDefEqProofs only [go_sem], by simp, h6⟩
  rintro e w4 ⟨hd, e0, e14, e22, e23, i, hi, e24, hok2, h7⟩
  by_cases hlt : (i : Int) < s.1.length
  case neg =>
    have : i = s.1.length := by omega
    subst this
    rw [List.take_length] at hok2
    have h8 := LkQ.shutH h7 b
    rw [show LkP b (s.1, s.2) = LkP b s from rfl, ← lks_open hk] at h8
    simp -dsimp -implicitDefEqProofs (disch := omega) only [go_sem, reqD_of, dec_t, dec_f, wrap_i64, wrap_u32, wrap_u64, wrap_u8, hd, e0, e14, e22, e23, e24, hlt]
    refine ⟨⟨done ++ [(nm, (b, s))], rest, hpm, fun p hp => ?_, h8⟩, hmeas h8⟩
    rcases List.mem_append.1 hp with hp | hp
    · exact hok p hp
    · simp only [List.mem_singleton] at hp
      subst hp
      exact hok2
  have hil : i < s.1.length := by omega
  obtain ⟨_, _, _, hv, _, hcl⟩ := claimAt (h7.gives (B := Reads 2 (.slice a1 s.1.length c1) s.1.length (clR s.1)))
  simp only [Value.slice.injEq, true_and] at hv
  obtain ⟨rfl, rfl⟩ := hv
  obtain ⟨g, o, rfl, hrow, _, _⟩ := hcl i hil
  simp -dsimp -implicitDefEqProofs (disch := omega) only [go_sem, reqD_of, dec_t, dec_f, wrap_i64, wrap_u32, wrap_u64, wrap_u8, hd, e0, e14, e22, e23, e24, hlt, hrow]
  refine h7.new fun X w5 h8 => ?_
  simp -dsimp -implicitDefEqProofs (disch := omega) only [go_sem, reqD_of, dec_t, dec_f, wrap_i64, wrap_u32, wrap_u64, wrap_u8]
  refine h8.stoAll (cs := clC s.1[i]) rfl rfl (by simp [clC, isCell]) fun w6 h9 => ?_
  have h10 := h9.drew
  have hX := h10.cl X
  have hB := h10.cl B
  simp only [clC] at hX
  simp -dsimp -implicitDefEqProofs (disch := omega) only [go_sem, reqD_of, dec_t, dec_f, wrap_i64, wrap_u32, wrap_u64, wrap_u8, hd, e0, e14, e22, e23, e24, hX, hB]
  refine h10.lkH (b := m2) Tryz.underlying56 lawI zeroV38 ?_
  rw [lk_amap, lkV_get]
  simp -dsimp -implicitDefEqProofs (disch := omega) only [go_sem, reqD_of, dec_t, dec_f, wrap_i64, wrap_u32, wrap_u64, wrap_u8, hX, hB]
  refine h10.new fun N w7 h11 => ?_
  have hX1 := h11.cl X
  have hB1 := h11.cl B
  simp only [clC] at hX1
  simp -dsimp -implicitDefEqProofs (disch := omega) only [go_sem, reqD_of, dec_t, dec_f, wrap_i64, wrap_u32, wrap_u64, wrap_u8, hX1, hB1]
  refine ⟨h11.lkH (b := m2) Tryz.underlying56 lawI zeroV38 (by rw [lk_amap, lkV_get]), ?_⟩
  refine h11.stoAll (cs := needC ((agt (s.1[i]).1 ws).getD ((0, 0, 0), false))) rfl rfl (needC_cells _) fun w8 h12 => ?_
  have hX2 := h12.cl X
  simp only [clC] at hX2
  have h13 : St w0 (Blk B (.cells #[.map (some m1), .map (some m2)] 58 (0, 0)) * (IterP namV m1 r (amap ptrV ps) (amap ptrV rest) * (MapP encI m2 (amap needV ws) * ((LkQ b (.slice (some ⟨g, o, none⟩) s.1.length c1) v2 s.1 s.2 * lksP (adel nm ps)) * F)))) w8 := h12.right.right
  cases hw : agt (s.1[i]).1 ws with
  | none =>
    have h14 := LkQ.shutH (h13.iterEnd m1) b
    rw [show LkP b (s.1, s.2) = LkP b s from rfl, ← lks_open hk] at h14
    simp -dsimp -implicitDefEqProofs (disch := omega) only [go_sem, reqD_of, dec_t, dec_f, wrap_i64, wrap_u32, wrap_u64, wrap_u8, hd, e0, e14, e22, e23, e24, hX2, Option.isSome_none, Option.isSome_some]
    exact ⟨(TabP.col (B := B) (m1 := m1) (m2 := m2) (ws := ws) h14 hps), .inl ⟨_, nm, s, rfl, hls, List.mem_map.2 ⟨_, List.getElem_mem hil, rfl⟩, hw⟩⟩
  | some n =>
    simp -dsimp -implicitDefEqProofs (disch := omega) only [go_sem, reqD_of, dec_t, dec_f, wrap_i64, wrap_u32, wrap_u64, wrap_u8, hd, e0, e14, e22, e23, e24, hX2, Option.isSome_none, Option.isSome_some]
    refine ⟨⟨i + 1, by omega, by omega, fun c hc => ?_, h13⟩, by omega⟩
    rw [List.take_succ_eq_append_getElem hil, List.mem_append] at hc
    rcases hc with hc | hc
    · exact hok2 c hc
    · simp only [List.mem_singleton] at hc
      rw [hc, hw]; rfl

end
end Go.Proofs.YtacmnfpgimgigaaGreat

namespace Go.Proofs.YtacmnfpgimgigaaGreat
open Go

/-- A way to read a row of cells, in a memory, as something; it stays in a greater memory. -/
structure Rdr (α : Type) where
  rel : α → List Value → Heap → Prop
  mono : ∀ {x cs h h'}, hle h h' → rel x cs h → rel x cs h'

def rInt (k : IntKind) : Rdr Int := ⟨fun n cs _ => cs = [.int k n] ∧ (Lit.int k n).wf = true, fun _ h => h⟩
def rBool : Rdr Bool := ⟨fun b cs _ => cs = [.bool b], fun _ h => h⟩
def rStr : Rdr ByteArray := ⟨fun s cs _ => cs = [.string s] ∧ s.size ≤ reachBytes, fun _ h => h⟩
def rEnd : Rdr Unit := ⟨fun _ cs _ => cs = [], fun _ h => h⟩
def rCons {α β : Type} (n : Nat) (R : Rdr α) (S : Rdr β) : Rdr (α × β) :=
  ⟨fun x cs h => ∃ c1 c2, cs = c1 ++ c2 ∧ c1.length = n ∧ R.rel x.1 c1 h ∧ S.rel x.2 c2 h, fun hl ⟨c1, c2, e, l, a, b⟩ => ⟨c1, c2, e, l, R.mono hl a, S.mono hl b⟩⟩
def rSlice {α : Type} (s b : Nat) (R : Rdr α) : Rdr (List α) :=
  ⟨fun xs cs h => ∃ a cap, cs = [.slice a xs.length cap] ∧ xs.length ≤ cap ∧ cap ≤ maxLen ∧ xs.length * b ≤ reachBytes ∧
    (xs = [] ∨ ∃ g o cur T fr, a = some ⟨g, o, none⟩ ∧ h g = some (.cells cur T fr) ∧ ∀ j (hj : j < xs.length), ((cur.toList.drop (o + j * s)).take s).length = s ∧ R.rel xs[j] ((cur.toList.drop (o + j * s)).take s) h),
   by
    rintro xs cs h h' hl ⟨a, cap, e, l, m, r, k⟩
    refine ⟨a, cap, e, l, m, r, ?_⟩
    rcases k with k | ⟨g, o, cur, T, fr, ea, hg, hj⟩
    · exact .inl k
    · exact .inr ⟨g, o, cur, T, fr, ea, hl _ _ hg, fun j hj' => ⟨(hj j hj').1, R.mono hl (hj j hj').2⟩⟩⟩
theorem Reads.mono {s n : Nat} {v : Value} {xs : List Value} {h h' : Heap} (hl : hle h h') (k : Reads s v n xs h) : Reads s v n xs h' := by
  obtain ⟨l, a, c, hv, hnc, hr⟩ := k
  exact ⟨l, a, c, hv, hnc, hr.imp id fun ⟨b, o, cur, T, fr, ha, hg, hj⟩ => ⟨b, o, cur, T, fr, ha, hl _ _ hg, hj⟩⟩
def rBytes : Rdr (List UInt8) :=
  ⟨fun bs cs h => ∃ v, cs = [v] ∧ RdB v bs h ∧ bs.length ≤ reachBytes, fun hl ⟨v, e, k, hb⟩ => ⟨v, e, Reads.mono hl k, hb⟩⟩

/-- What the reader says of these cells, as a part of memory. -/
def Rdr.at {α : Type} (R : Rdr α) (x : α) (cs : List Value) : HP := fun h => R.rel x cs h

theorem Rdr.old {α : Type} {R : Rdr α} {x : α} {cs : List Value} {w0 : World} (h : R.rel x cs (heapOf w0)) : Ent (Old w0) (R.at x cs) :=
  Ent.of fun _ ho => R.mono (fun b o e => ho b o e) h

theorem St.sat' {w0 w : World} {A : HP} (h : St w0 A w) : ∃ x, hle x (heapOf w) ∧ A x := h.sat

/-- What a reader says, said of the world at hand. -/
theorem St.reader {α : Type} {R : Rdr α} {x : α} {cs : List Value} {w0 w : World} {F : HP} (h : St w0 F w) (k : Ent F (R.at x cs)) : R.rel x cs (heapOf w) := by
  obtain ⟨y, l, hy⟩ := (h.ent k).sat
  exact R.mono l hy

/-- A slice that came in: its form, and its elements' cells. -/
theorem Rdr.slice {α : Type} {s b : Nat} {R : Rdr α} {xs : List α} {v : Value} {h : Heap} (k : (rSlice s b R).rel xs [v] h) :
    ∃ a cap, v = .slice a xs.length cap ∧ xs.length ≤ cap ∧ cap ≤ maxLen ∧ xs.length * b ≤ reachBytes := by
  obtain ⟨a, cap, e, l, m, r, _⟩ := k
  simp only [List.cons.injEq, and_true] at e
  exact ⟨a, cap, e, l, m, r⟩

/-- An element of a slice that came in: where its cells lie, and that they read so, whatever turned since. -/
theorem Rdr.elem {α : Type} {s b : Nat} {R : Rdr α} {xs : List α} {a : Option Addr} {n cap j : Nat} {F : HP} (k : Ent F ((rSlice s b R).at xs [.slice a n cap])) {w0 w : World} (hw : St w0 F w) (hj : j < xs.length) :
    ∃ g o cs, a = some ⟨g, o, none⟩ ∧ cs.length = s ∧ (∀ i, i < s → w.cell? ⟨g, o + j * s + i, none⟩ = cs[i]?) ∧ R.rel xs[j] cs (heapOf w) := by
  obtain ⟨a', cap', e, _, _, _, hr⟩ := hw.reader k
  simp only [List.cons.injEq, Value.slice.injEq, and_true] at e
  obtain ⟨rfl, rfl, rfl⟩ := e
  rcases hr with rfl | ⟨g, o, cur, T, fr, rfl, hg, hr⟩
  · simp at hj
  · obtain ⟨hl, hx⟩ := hr j hj
    refine ⟨g, o, _, rfl, hl, fun i hi => ?_, hx⟩
    rw [cell_of_heap hg, List.getElem?_take, if_pos hi, List.getElem?_drop]
    simp

/-- An element read as a part of memory that stays. -/
theorem Rdr.elemEnt {α : Type} {s b : Nat} {R : Rdr α} {xs : List α} {a : Option Addr} {n cap j : Nat} {w0 : World} (k : Ent (Old w0) ((rSlice s b R).at xs [.slice a n cap])) (hj : j < xs.length) :
    ∃ g o cs, a = some ⟨g, o, none⟩ ∧ cs.length = s ∧ Ent (Old w0) (R.at xs[j] cs) ∧ ∀ (F : HP) (u : World), St w0 (Old w0 * F) u → ∀ i, i < s → u.cell? ⟨g, o + j * s + i, none⟩ = cs[i]? := by
  obtain ⟨a', cap', e, _, _, _, hr⟩ := (St.start w0).reader k
  simp only [List.cons.injEq, Value.slice.injEq, and_true] at e
  obtain ⟨rfl, rfl, rfl⟩ := e
  rcases hr with rfl | ⟨g, o, cur, T, fr, rfl, hg, hr⟩
  · simp at hj
  · obtain ⟨hl, hx⟩ := hr j hj
    refine ⟨g, o, _, rfl, hl, Rdr.old hx, fun F w hw i hi => ?_⟩
    obtain ⟨y, l, h1, h2, hd, l1, l2, ho, _⟩ := hw.sat
    have hgw : w.heap[g]? = some (.cells cur T fr) := l _ _ (l1 _ _ (ho _ _ hg))
    rw [cell_of_heap hgw, List.getElem?_take, if_pos hi, List.getElem?_drop]
    simp

/-! ### From what the row says of an argument to its reader -/

def Opens {α : Type} (P : Program) (t : TypeId) (R : Rdr α) : Prop :=
  ∀ {H : Type} (enc : TypeId × Value → H) (W : World) (sp : Nat → Bool) (fuel : Nat) (cs : List Value) (y : DataW H × List MemPlace),
    DataW.trod enc P W 0 sp true fuel t cs = some y → (∀ n ∈ y.1.weights P t, n ≤ reachBytes) → ∃ x, R.rel x cs (heapOf W)

theorem opens_int {P : Program} {t : TypeId} {k : IntKind} (hu : P.underlying t = some (.int k)) : Opens P t (rInt k) := by
  intro H enc W sp fuel cs y h _
  obtain ⟨n, hc, _, hw⟩ := DataW.trod_int hu h
  exact ⟨n, hc, hw⟩

theorem opens_bool {P : Program} {t : TypeId} (hu : P.underlying t = some .bool) : Opens P t rBool := by
  intro H enc W sp fuel cs y h _
  obtain ⟨b, hc, _⟩ := DataW.trod_bool hu h
  exact ⟨b, hc⟩

theorem opens_str {P : Program} {t : TypeId} (hu : P.underlying t = some .string) : Opens P t rStr := by
  intro H enc W sp fuel cs y h hz
  obtain ⟨s, hc, rfl, _⟩ := DataW.trod_string hu h
  refine ⟨s, hc, ?_⟩
  have := hz s.data.toList.length (by simp [DataW.weights])
  simpa using this

theorem weightsAll_mem {H : Type} {P : Program} {e : TypeId} {d : DataW H} {n : Nat} (hn : n ∈ d.weights P e) : ∀ {l : List (DataW H)}, d ∈ l → n ∈ DataW.weightsAll P e l
  | x :: l, hd => by
    simp only [DataW.weightsAll, List.mem_append]
    rcases List.mem_cons.1 hd with rfl | hd
    · exact .inl hn
    · exact .inr (weightsAll_mem hn hd)

theorem cellsAt {W : World} {a : Addr} {n : Nat} {cs : List Value} (h : W.cells? 0 a n = some cs) (hn : 0 < n) :
    ∃ g o cur T fr, a = ⟨g, o, none⟩ ∧ W.heap[g]? = some (.cells cur T fr) ∧ cs = (cur.toList.drop o).take n ∧ cs.length = n := by
  unfold World.cells? at h
  rw [if_pos (Nat.zero_le _)] at h
  have hl := mapM_some_length h
  have hg := fun i (hi : i < n) => mapM_some_get h i i (by simp [hi])
  simp only [List.length_range] at hl
  obtain ⟨g, o, sp⟩ := a
  have h0 := hg 0 hn
  have hsome : cs[0]? = some cs[0] := List.getElem?_eq_getElem (by omega)
  rw [hsome] at h0
  have hsp : sp = none := by simpa [Addr.add] using World.cell?_spot h0
  subst hsp
  rw [add_lit] at h0
  have hb : ∃ cur T fr, W.heap[g]? = some (.cells cur T fr) := by
    unfold World.cell? at h0
    simp only at h0
    split at h0
    · rename_i cur T fr hx; exact ⟨cur, T, fr, hx⟩
    · cases h0
  obtain ⟨cur, T, fr, hx⟩ := hb
  refine ⟨g, o, cur, T, fr, rfl, hx, ?_, hl⟩
  apply List.ext_getElem?
  intro i
  rw [List.getElem?_take]
  split
  · rename_i hi
    have := hg i hi
    rw [add_lit, cell_of_heap hx] at this
    rw [← this, List.getElem?_drop]
    simp
  · rw [List.getElem?_eq_none]; omega

/-- What each of a row may be, as a row. -/
theorem choose_list {α : Type} {n : Nat} {p : Nat → α → Prop} (h : ∀ i, i < n → ∃ x, p i x) : ∃ xs : List α, xs.length = n ∧ ∀ i (hi : i < xs.length), p i xs[i] := by
  induction n with
  | zero => exact ⟨[], rfl, fun i hi => by simp at hi⟩
  | succ n ih =>
    obtain ⟨xs, hl, hx⟩ := ih fun i hi => h i (by omega)
    obtain ⟨x, hp⟩ := h n (by omega)
    refine ⟨xs ++ [x], by simp [hl], fun i hi => ?_⟩
    rw [List.getElem_append]
    split
    · rename_i h'; exact hx i h'
    · rename_i h'
      have : i = n := by simp at hi; omega
      subst this
      simpa using hp

theorem opens_slice {α : Type} {P : Program} {t e : TypeId} {s b : Nat} {R : Rdr α} (hu : P.underlying t = some (.slice e)) (hs : P.cellsOf e = s) (hb : P.bytesOf e = b) (h0 : 0 < s) (hR : Opens P e R) : Opens P t (rSlice s b R) := by
  intro H enc W sp fuel cs y h hz
  subst hs hb
  rcases DataW.trod_slice hu h with ⟨rfl, rfl⟩ | ⟨a, len, cap, elems, rest, n, rfl, rfl, rfl, _, hlc, hcm, hel, hel2, _, _⟩
  · exact ⟨[], none, 0, rfl, Nat.le_refl _, by simp, by simp, .inl rfl⟩
  · simp only [DataW.weights, hu, List.mem_cons, List.mem_append, List.length_map] at hz
    have hsz : len * P.bytesOf e ≤ reachBytes := by
      have := hz _ (.inl rfl)
      rw [hel] at this
      exact Nat.le_trans (Nat.mul_le_mul_right _ (Nat.le_add_right _ _)) this
    have hel3 : ∀ i, i < len → ∃ x, ∃ cs, W.cells? 0 (a.add (i * P.cellsOf e)) (P.cellsOf e) = some cs ∧ R.rel x cs (heapOf W) := by
      intro i hi
      have h1 := hel2 i hi
      have hi' : i < elems.length := by omega
      rw [List.getElem?_eq_getElem hi'] at h1
      obtain ⟨cs, hcs, htr⟩ := Option.bind_eq_some_iff.1 h1
      obtain ⟨x, hx⟩ := hR enc W sp n cs _ htr fun m hm => hz m (.inr (.inl (weightsAll_mem hm (List.mem_map.2 ⟨_, List.getElem_mem hi', rfl⟩))))
      exact ⟨x, cs, hcs, hx⟩
    obtain ⟨xs, hxl, hxs⟩ := choose_list hel3
    subst hxl
    refine ⟨xs, some a, cap, rfl, hlc, hcm, hsz, ?_⟩
    by_cases hx : xs = []
    · exact .inl hx
    · right
      obtain ⟨cs0, hc0, _⟩ := hxs 0 (List.length_pos_iff.2 hx)
      obtain ⟨g, o, cur, T, fr, ha, hg, _, _⟩ := cellsAt hc0 h0
      have ha : a = ⟨g, o, none⟩ := by
        obtain ⟨g', o', sp'⟩ := a
        simp only [Nat.zero_mul] at ha
        have : (⟨g', o', sp'⟩ : Addr).add 0 = ⟨g', o', sp'⟩ := rfl
        rw [this] at ha; exact ha
      subst ha
      refine ⟨g, o, cur, T, fr, rfl, hg, fun j hj => ?_⟩
      obtain ⟨csj, hcj, hrj⟩ := hxs j hj
      rw [add_lit] at hcj
      obtain ⟨g', o', cur', T', fr', ha', hg', hcs', hl'⟩ := cellsAt hcj h0
      simp only [Addr.mk.injEq, and_true] at ha'
      obtain ⟨rfl, rfl⟩ := ha'
      rw [hg] at hg'
      simp only [Option.some.injEq, Obj.cells.injEq] at hg'
      obtain ⟨rfl, _, _⟩ := hg'
      rw [← hcs']
      exact ⟨hl', hrj⟩

theorem opens_bytes {P : Program} {t e : TypeId} (hu : P.underlying t = some (.slice e)) (he : P.underlying e = some (.int .u8)) (hs : P.cellsOf e = 1) (hb : P.bytesOf e = 1) : Opens P t rBytes := by
  intro H enc W sp fuel cs y h hz
  obtain ⟨xs, a, cap, rfl, hlc, hcm, hsz, hr⟩ := opens_slice hu hs hb (by omega) (opens_int he) enc W sp fuel cs y h hz
  have hbs : ∃ bs : List UInt8, bs.length = xs.length ∧ ((xs = [] ∨ ∃ g o cur T fr, a = some ⟨g, o, none⟩ ∧ heapOf W g = some (.cells cur T fr) ∧ ∀ j, j < xs.length → cur[o + j]? = (bs.map bv)[j]?)) := by
    rcases hr with rfl | ⟨g, o, cur, T, fr, rfl, hg, hr⟩
    · exact ⟨[], rfl, .inl rfl⟩
    · refine ⟨xs.map fun n => UInt8.ofNat n.toNat, by simp, .inr ⟨g, o, cur, T, fr, rfl, hg, fun j hj => ?_⟩⟩
      obtain ⟨_, hc, hw⟩ := hr j hj
      have h1 : cur[o + j]? = some (.int .u8 xs[j]) := by
        have := congrArg (fun l => l[0]?) hc
        simpa [List.getElem?_take, List.getElem?_drop] using this
      rw [h1]
      simp only [List.map_map, List.getElem?_map, List.getElem?_eq_getElem hj, Option.map_some, Function.comp, bv]
      have hb2 : 0 ≤ xs[j] ∧ xs[j] < 256 := by
        have h1 : IntKind.u8.min = 0 := rfl
        have h2 : IntKind.u8.max = 255 := rfl
        simp [Lit.wf] at hw
        omega
      congr 2
      have : (UInt8.ofNat (xs[j]).toNat).toNat = (xs[j]).toNat % 256 := by simp
      omega
  obtain ⟨bs, hbl, hr⟩ := hbs
  refine ⟨bs, _, rfl, ⟨by simp, a, cap, by rw [hbl], by omega, ?_⟩, by omega⟩
  rcases hr with rfl | ⟨g, o, cur, T, fr, ha, hg, hr⟩
  · left; simpa using hbl
  · exact .inr ⟨g, o, cur, T, fr, ha, hg, fun j hj => hr j (by simp at hj; omega)⟩

/-- The fields from one on, of a struct of N cells. -/
def OpensF {α : Type} (P : Program) (N : Nat) (fs : List Field) (off : Nat) (R : Rdr α) : Prop :=
  ∀ {H : Type} (enc : TypeId × Value → H) (W : World) (sp : Nat → Bool) (fuel : Nat) (cs : List Value) (xs : List (DataW H × List MemPlace)), cs.length = N → xs.length = fs.length →
    (∀ (i : Nat) (f : Field), fs[i]? = some f → DataW.trod enc P W 0 sp true fuel f.type ((cs.drop f.offset).take (P.cellsOf f.type)) = xs[i]?) →
    (∀ n ∈ DataW.weightsEach P (fs.map (·.type)) (xs.map (·.1)), n ≤ reachBytes) → ∃ x, R.rel x (cs.drop off) (heapOf W)

theorem opensF_nil {P : Program} {N : Nat} : OpensF P N [] N rEnd := by
  intro H enc W sp fuel cs xs hl _ _ _
  exact ⟨(), by show cs.drop N = []; simp; omega⟩

theorem opensF_cons {α β : Type} {P : Program} {N off s : Nat} {f : Field} {fs : List Field} {R : Rdr α} {S : Rdr β} (hoff : f.offset = off) (hs : P.cellsOf f.type = s) (hN : off + s ≤ N) (hR : Opens P f.type R) (hS : OpensF P N fs (off + s) S) : OpensF P N (f :: fs) off (rCons s R S) := by
  intro H enc W sp fuel cs xs hl hxl hx hz
  cases xs with
  | nil => simp at hxl
  | cons x0 xs =>
    have h0 := hx 0 f rfl
    rw [hoff, hs] at h0
    simp only [List.map_cons, DataW.weightsEach, List.mem_append] at hz
    obtain ⟨a, ha⟩ := hR enc W sp fuel _ _ h0 fun n hn => hz n (.inl hn)
    obtain ⟨b, hb⟩ := hS enc W sp fuel cs xs hl (by simpa using hxl) (fun i g hg => hx (i + 1) g (by simpa using hg)) fun n hn => hz n (.inr hn)
    refine ⟨(a, b), (cs.drop off).take s, cs.drop (off + s), ?_, by simp; omega, ha, hb⟩
    rw [← List.drop_drop, List.take_append_drop]

theorem opens_struct {α : Type} {P : Program} {t : TypeId} {fs : Array Field} {N : Nat} {R : Rdr α} (hu : P.underlying t = some (.struct fs)) (hN : P.cellsOf t = N) (hF : OpensF P N fs.toList 0 R) : Opens P t R := by
  intro H enc W sp fuel cs y h hz
  obtain ⟨xs, n, rfl, rfl, hl, hxl, hx⟩ := DataW.trod_struct hu h
  have := hF enc W sp n cs xs (by rw [hl, hN]) (by simpa using hxl) (fun i f hf => hx i f (by simpa using hf)) (by simpa [DataW.weights, hu] using hz)
  simpa using this

/-- An argument, opened. -/
theorem Opens.arg {α : Type} {P : Program} {t : TypeId} {R : Rdr α} (hR : Opens P t R) {H : Type} {enc : TypeId × Value → H} {W : World} {sp : Nat → Bool} {v : Value} {d : DataW H} {p : List MemPlace} (h : DataW.Trod enc P W 0 sp true t v d p)
    {ts : List TypeId} {ds : List (DataW H)} (hz : (DataW.weightsEach P ts ds).all (· ≤ reachBytes) = true) (j : Nat) (hj : ts[j]? = some t) (hd : ds[j]? = some d) : ∃ x, R.rel x v.cells.toList (heapOf W) := by
  obtain ⟨fuel, hf⟩ := h
  refine hR enc W sp fuel _ _ hf fun n hn => ?_
  have := List.all_eq_true.1 hz _ (DataW.weights_mem_each hj hd n hn)
  simpa using this

theorem u32_nonneg {n : Int} (h : (Lit.int .u32 n).wf = true) : 0 ≤ n := by
  have h1 : IntKind.u32.min = 0 := rfl
  have h2 : IntKind.u32.max = 4294967295 := rfl
  simp [Lit.wf, h1, h2] at h
  omega
theorem u32_lt {n : Int} (h : (Lit.int .u32 n).wf = true) : n < 4294967296 := by
  have h1 : IntKind.u32.min = 0 := rfl
  have h2 : IntKind.u32.max = 4294967295 := rfl
  simp [Lit.wf, h1, h2] at h
  omega
theorem i64_bounds {n : Int} (h : (Lit.int .i64 n).wf = true) : -9223372036854775808 ≤ n ∧ n < 9223372036854775808 := by
  have h1 : IntKind.i64.min = -9223372036854775808 := rfl
  have h2 : IntKind.i64.max = 9223372036854775807 := rfl
  simp [Lit.wf, h1, h2] at h
  omega

end Go.Proofs.YtacmnfpgimgigaaGreat

namespace Go.Proofs.YtacmnfpgimgigaaGreat
open Go
set_option linter.unusedVariables false

theorem rSlice_reads {α : Type} {s b : Nat} {R : Rdr α} {enc : α → List Value} (he : ∀ x cs h, R.rel x cs h → cs = enc x) (hk : ∀ x, (enc x).length = s) {xs : List α} {v : Value} :
    Ent ((rSlice s b R).at xs [v]) (Reads s v xs.length (xs.flatMap enc)) := by
  refine Ent.of fun h hr => ?_
  obtain ⟨a, cap, e, l, m, r, k⟩ := hr
  simp only [List.cons.injEq, and_true] at e
  subst e
  refine ⟨flatMap_length hk xs, a, cap, rfl, l, ?_⟩
  rcases k with k | ⟨g, o, cur, T, fr, ea, hg, hj⟩
  · left; subst k; rfl
  · right
    refine ⟨g, o, cur, T, fr, ea, hg, fun t ht => ?_⟩
    rw [flatMap_length hk] at ht
    obtain ⟨i, j, hi, hjs, e, hf⟩ := flatMap_at_all hk xs t ht
    obtain ⟨h1, h2⟩ := hj i hi
    have h3 := he _ _ _ h2
    rw [hf, ← h3, e, List.getElem?_take_of_lt hjs, List.getElem?_drop, Array.getElem?_toList]
    congr 1
    omega

/-- make, of elements of one cell. -/
theorem St.make1 {P : Program} {w0 w : World} {F : HP} {t e bs n c : Nat} {z : Value} {K : Value → World → Prop} {θ : Tag K} (h : St w0 F w) (ht : rowTy P t = some (e, 1, bs, [z])) (hn : n ≤ c) (hc : c ≤ 16777216) (hb : bs * c ≤ 281474976710656)
    (hK : ∀ b w', St w0 (RowO e 1 (.slice (some ⟨b, 0, none⟩) n c) n (List.replicate n z) * F) w' → K (.slice (some ⟨b, 0, none⟩) n c) w') : semD P (kMakeSlice t (.int .i64 n) (.int .i64 c)) w K θ := by
  show semD P (Instr.makeSlice t (.int .i64 n) (.int .i64 c)) w K θ
  obtain ⟨hu, i, zv, hi, hz, hsz, hbs, hzs, hzc⟩ := rowTy_some ht
  have hb2 : (bs : Int) * c ≤ 281474976710656 := by
    have : ((bs * c : Nat) : Int) ≤ 281474976710656 := by omega
    rwa [Int.natCast_mul] at this
  have hr := run_makeSlice (P := P) (w := w) t e i zv hu hi hz .i64 .i64 n c (by omega) (by omega) (by rw [hsz]; simp; omega) (by rw [hbs]; exact hb2) (by omega)
  simp only [Int.toNat_natCast, hsz, Nat.mul_one] at hr
  have hcells : madeCells zv.cells c = (List.replicate c z).toArray := by
    have hz1 : zv.cells = #[z] := Array.ext' (by rw [hzc])
    rw [hz1]
    apply Array.ext'
    simp only [madeCells]
    apply List.ext_getElem
    · simp
    · intro j h1 h2
      simp [Nat.mod_one]
  rw [hcells] at hr
  refine ⟨_, _, hr, hK _ _ ((h.alloc _).ent (Ent.sep (Ent.of fun k hk => .inr ⟨w.heap.size, 0, c, (List.replicate c z).toArray, rfl, hk, hn, by simp only [maxLen]; omega, by simp, ?_, by simp⟩) (Ent.rfl' F)))⟩
  simp only [List.drop_zero, Nat.mul_one, List.take_replicate, Nat.min_eq_left hn]

/-- The first k elements, as the evaluator spells 'x[:k]'. -/
theorem Reads.takeK {s n c k : Nat} {a : Option Addr} {xs : List Value} (hk : k ≤ n) : Ent (Reads s (.slice a n c) n xs) (Reads s (.slice (if c = 0 then a else Option.map (fun x => x) a) k (c - 0)) k (xs.take (k * s))) := by
  have h := Reads.sub (s := s) (n := n) (lo := 0) (k := k) (c := c) (a := a) (xs := xs) (by omega)
  rw [Nat.zero_mul, List.drop_zero] at h
  exact h
theorem flatMap_take {α : Type} {enc : α → List Value} {k : Nat} (hk : ∀ x, (enc x).length = k) : ∀ (l : List α) (n : Nat), (l.flatMap enc).take (n * k) = (l.take n).flatMap enc
  | [], n => by simp
  | x :: l, 0 => by simp
  | x :: l, n + 1 => by
    rw [List.flatMap_cons, List.take_succ_cons, List.flatMap_cons, Nat.add_mul, Nat.one_mul, Nat.add_comm, List.take_append, hk, List.take_of_length_le (by rw [hk]; omega), show k + n * k - k = n * k by omega, flatMap_take hk l n]

/-- A slice of no elements that is not nil. -/
theorem St.lit0 {P : Program} {t e s bs : Nat} {zs : List Value} {w0 w : World} {F : HP} {parts : Array (Nat × Value)} {K : Value → World → Prop} {θ : Tag K}
    (h : St w0 F w) (ht : rowTy P t = some (e, s, bs, zs)) (hp : parts = #[]) (hK : ∀ v w', St w0 (RowO e s v 0 [] * F) w' → K v w') : semD P (kBuildSlice t 0 parts) w K θ := by
  show semD P (Instr.buildSlice t 0 parts) w K θ
  subst hp
  obtain ⟨hu, i, z, hi, hz, rfl, rfl, hzs, rfl⟩ := rowTy_some ht
  refine ⟨.slice (some ⟨w.heap.size, 0, none⟩) 0 0, w.alloc (.cells #[] e), ?_, hK _ _ ((h.alloc _).ent (Ent.sep (Ent.of fun k hk => .inr ⟨w.heap.size, 0, 0, #[], rfl, hk, Nat.le_refl _, by simp [maxLen], by simp, by simp, by simp⟩) (Ent.rfl' F)))⟩
  unfold Instr.buildSlice
  simp only [Sem.run_bind, run_underlying' hu, Result.andThen_ok, run_sizeOf' hi, Nat.zero_mul, if_neg (show ¬ (0 > 2 ^ 24) by omega), if_true, Sem.run_pure]
  have hf : Instr.fill (fun i_1 => some (i_1 * i.size, i.size)) (Array.map (fun x => (#[] : Array Value)[x % (#[] : Array Value).size]!) (Array.range 0)) ([] : List (Nat × Value)) = some #[] := by simp [Instr.fill]
  rw [hf]
  rfl

/-- A map's copy. -/
theorem St.copyMap {κ : Type} {enc : κ → Value} {b : Nat} {l : List (κ × Value)} {w0 w : World} {A : HP} {C : HP → HP} (h : St w0 A w) [i : Hole (.map b) A (MapP enc b l) C] :
    ∃ es clock, w.heap[b]? = some (.map es clock) ∧ St w0 (MapP enc w.heap.size l * A) (w.alloc (.map es clock)) := by
  obtain ⟨R, hR, h'⟩ := h.out (.map b)
  obtain ⟨es, clock, h1⟩ := MapP.open h'
  obtain ⟨hb, hm⟩ := MapE.heap h1
  exact ⟨es, clock, hb, (h.alloc _).ent (Ent.sep (Ent.of fun k hk => ⟨es, clock, hk, hm⟩) (Ent.rfl' A))⟩

/-! ### Loops by a rank that is not read off the world -/
theorem least_nat {p : Nat → Prop} (h : ∃ n, p n) : ∃ n, p n ∧ ∀ m, p m → n ≤ m := by
  obtain ⟨n, hn⟩ := h
  induction n using Nat.strongRecOn with
  | _ n ih =>
    by_cases hx : ∃ m, m < n ∧ p m
    · obtain ⟨m, hm, hp⟩ := hx
      exact ih m hm hp
    · refine ⟨n, hn, fun m hm => ?_⟩
      have : ¬ m < n := fun hlt => hx ⟨m, hlt, hm⟩
      omega
open Classical in
noncomputable def rankOf (I : Nat → FA → World → Prop) (e : FA) (w : World) : Nat := if h : ∃ n, I n e w then Classical.choose (least_nat h) else 0
theorem rank_min {I : Nat → FA → World → Prop} {e : FA} {w : World} (h : ∃ n, I n e w) : I (rankOf I e w) e w ∧ ∀ m, I m e w → rankOf I e w ≤ m := by
  unfold rankOf
  rw [dif_pos h]
  exact Classical.choose_spec (least_nat h)
theorem rank_down {I : Nat → FA → World → Prop} {e e' : FA} {w w' : World} {m : Nat} (h : I m e' w') (hm : m < rankOf I e w) : (∃ n, I n e' w') ∧ rankOf I e' w' < rankOf I e w :=
  ⟨⟨m, h⟩, Nat.lt_of_le_of_lt ((rank_min ⟨m, h⟩).2 m h) hm⟩
theorem loop_rank {P : Program} {c : Cd} {Q : Post} {e : FA} {w : World} {θ : Tag ((.loop c : Cd), Q, e, w)} (I : Nat → FA → World → Prop) (n : Nat) (h0 : I n e w)
    (h1 : ∀ e w, I (rankOf I e w) e w → cwE P c (loopP (fun e w => ∃ n, I n e w) (rankOf I) e w Q) e w) : cwE P (.loop c) Q e w θ :=
  loop_intro (fun e w => ∃ n, I n e w) (rankOf I) ⟨n, h0⟩ fun e w h => h1 e w (rank_min h).1

/-- make, of no elements, with room. -/
theorem St.make0 {P : Program} {w0 w : World} {F : HP} {t e s bs c : Nat} {zs : List Value} {K : Value → World → Prop} {θ : Tag K} (h : St w0 F w) (ht : rowTy P t = some (e, s, bs, zs)) (hc : c * s ≤ 16777216) (hcm : c ≤ 16777216) (hb : bs * c ≤ 281474976710656)
    (hK : ∀ v w', St w0 (RowO e s v 0 [] * F) w' → K v w') : semD P (kMakeSlice t (.int .i64 0) (.int .i64 c)) w K θ := by
  show semD P (Instr.makeSlice t (.int .i64 0) (.int .i64 c)) w K θ
  obtain ⟨hu, i, zv, hi, hz, hsz, hbs, hzs, hzc⟩ := rowTy_some ht
  have hb2 : (bs : Int) * c ≤ 281474976710656 := by
    have : ((bs * c : Nat) : Int) ≤ 281474976710656 := by omega
    rwa [Int.natCast_mul] at this
  have hr := run_makeSlice (P := P) (w := w) t e i zv hu hi hz .i64 .i64 0 c (by omega) (by omega) (by rw [hsz]; simp; omega) (by rw [hbs]; exact hb2) (by omega)
  simp only [Int.toNat_natCast, Int.toNat_zero, hsz] at hr
  refine ⟨_, _, hr, hK _ _ ((h.alloc _).ent (Ent.sep (Ent.of fun k hk => .inr ⟨w.heap.size, 0, c, madeCells zv.cells (c * s), rfl, hk, Nat.zero_le _, by simp only [maxLen]; omega, by simp [madeCells], by simp, by simp⟩) (Ent.rfl' F)))⟩

end Go.Proofs.YtacmnfpgimgigaaGreat

namespace Go.Proofs.YtacmnfpgimgigaaGreat
open Go.Shelf
set_option maxRecDepth 100000

def cloneL_ren : Go.Shelf.Ren := ⟨fun | 5 => 72 | 7 => 98 | n => n, fun | 3 => 42 | 23 => 56 | 25 => 3 | n => n, fun | n => n⟩

theorem cloneL : Go.Proofs.SlLaysW.n5 Tryz.prog cloneL_ren := {
  mixed := by kernel_rfl,
  f5 := ⟨Tryz.f72.name, by decide, Tryz.func72.trans (congrArg some (by kernel_rfl))⟩,
  f7 := Tryz.func98.trans (congrArg some (by kernel_rfl)),
  t4 := Tryz.underlying4,
  a4 := Tryz.isAgg4,
  z4 := Tryz.sizeOf4,
  v4 := Tryz.zeroValue4,
  t20 := Tryz.underlying20,
  a20 := Tryz.isAgg20,
  z20 := Tryz.sizeOf20,
  v20 := Tryz.zeroValue20,
  t23 := Tryz.underlying56,
  a23 := Tryz.isAgg56,
  z23 := Tryz.sizeOf56,
  v23 := Tryz.zeroValue56 }

end Go.Proofs.YtacmnfpgimgigaaGreat

namespace Go.Proofs.YtacmnfpgimgigaaGreat
open Go
set_option linter.unusedSimpArgs false
set_option linter.unusedVariables false
set_option maxRecDepth 100000

section
attribute [local go_sem] F73.t3_eq
theorem cloneClaims_any {w0 w : World} {F : HP} {v : Value} {l : List Claim} (h : St w0 F w) (hr : Ent F (Reads 2 v l.length (clR l))) (hl : l.length < 1099511627776) :
    Calls Tryz.prog 73 #[v] w fun e w' => ∃ v', St w0 (RowO 76 2 v' l.length (clR l) * F) w' ∧ e = .returned v' := by
  have r := (h.ent hr).rd
  obtain ⟨a, c, rfl, hnc, hcl⟩ := r.form
  refine F73.calls (by simp) ?_
  unfold F73.code
  cases a with
  | none =>
    have hnil : clR l = [] := by
      rcases hcl with h | ⟨b, o, h, _⟩
      · exact h
      · cases h
    have hl0 : l.length = 0 := by have := congrArg List.length hnil; rw [clR_length, List.length_nil] at this; omega
    simp -dsimp -implicitDefEqProofs (disch := omega) only [go_sem, reqD_of, dec_t, dec_f, wrap_i64, wrap_u32, wrap_u64, wrap_u8]
    refine ⟨.slice none 0 0, ?_, rfl⟩
    rw [hnil, hl0]
    exact h.nilR 76 2
  | some a =>
    simp -dsimp -implicitDefEqProofs (disch := omega) only [go_sem, reqD_of, dec_t, dec_f, wrap_i64, wrap_u32, wrap_u64, wrap_u8]
    refine h.lit0 fact_rowTy_71 rfl fun v1 w1 h1 => ?_
    simp -dsimp -implicitDefEqProofs (disch := omega) only [go_sem, reqD_of, dec_t, dec_f, wrap_i64, wrap_u32, wrap_u64, wrap_u8]
    refine h1.app (v := v1) fact_rowTy_71 ((Ent.right _ _).trans hr) Tryz.underlying71 (clR_cells l) (fun h => by have := congrArg List.length h; rw [clR_length, List.length_nil] at this; omega) (by simp only [maxLen]; omega) (by omega) fun v2 w2 h2 => ?_
    simp -dsimp -implicitDefEqProofs (disch := omega) only [go_sem, reqD_of, dec_t, dec_f, wrap_i64, wrap_u32, wrap_u64, wrap_u8]
    rw [Nat.zero_add, List.nil_append] at h2
    exact ⟨v2, h2, rfl⟩

theorem aset_new {κ α : Type} [DecidableEq κ] {x : κ} {v : α} : ∀ {l : List (κ × α)}, agt x l = none → aset x v l = l ++ [(x, v)]
  | [], _ => rfl
  | (y, u) :: l, h => by
    simp only [agt] at h
    split at h
    · cases h
    · rename_i hx
      simp only [aset, if_neg hx, aset_new h, List.cons_append]

theorem cloneWaits_any {w0 w : World} {A : HP} {C : HP → HP} {b : Nat} {l : List (Int × Value)} (h : St w0 A w) [i : Hole (.map b) A (MapP encI b l) C] :
    Calls Tryz.prog 72 #[.map (some b)] w fun e w' => ∃ b2, St w0 (MapP encI b2 l * A) w' ∧ e = .returned (.map (some b2)) := by
  obtain ⟨es, clock, hb, h1⟩ := h.copyMap (b := b)
  refine (AnyW.maps_Clone cloneL b es clock w hb).mono ?_
  rintro e w' ⟨rfl, rfl⟩
  exact ⟨_, h1, rfl⟩

end
section
attribute [local go_sem] F56.t4_eq F56.t6_eq
theorem clone_any {w0 w : World} {F : HP} {B : Nat} {ls : List (Nam × LkS)} {ws : List (Int × Nee)} (h : St w0 (TabP B ls ws * F) w) (hT : tot ls < 1099511627776) :
    Calls Tryz.prog 56 #[.pointer (some ⟨B, 0, none⟩)] w fun e w' => ∃ B2 ls2, ls2.Perm ls ∧ St w0 (TabP B2 ls2 ws * (TabP B ls ws * F)) w' ∧ e = .returned (.pointer (some ⟨B2, 0, none⟩)) := by
  obtain ⟨m1, m2, ps, hps, h1⟩ := TabP.open h
  rw [TabQ_eq] at h1
  refine F56.calls (by simp) ?_
  unfold F56.code
  simp -dsimp -implicitDefEqProofs (disch := omega) only [go_sem, reqD_of, dec_t, dec_f, wrap_i64, wrap_u32, wrap_u64, wrap_u8]
  refine St.makeMap (enc := namV) h1 fun b1 w1 h2 => ?_
  simp -dsimp -implicitDefEqProofs (disch := omega) only [go_sem, reqD_of, dec_t, dec_f, wrap_i64, wrap_u32, wrap_u64, wrap_u8, h2.cl]
  refine (cloneWaits_any (b := m2) h2).mono ?_
  rintro e' w2 ⟨b2, h3, rfl⟩
  simp -dsimp -implicitDefEqProofs (disch := omega) only [go_sem, reqD_of, dec_t, dec_f, wrap_i64, wrap_u32, wrap_u64, wrap_u8]
  refine onV_of (v := .agg #[.map (some b1), .map (some b2)]) rfl ?_
  simp -dsimp -implicitDefEqProofs (disch := omega) only [go_sem, reqD_of, dec_t, dec_f, wrap_i64, wrap_u32, wrap_u64, wrap_u8]
  refine h3.new fun B2 w3 h4 => ?_
  simp -dsimp -implicitDefEqProofs (disch := omega) only [go_sem, reqD_of, dec_t, dec_f, wrap_i64, wrap_u32, wrap_u64, wrap_u8, h4.cl B]
  have hkeys : (ps.map (·.1)).Nodup := by
    have := h4.mapNodup m1
    rwa [amap_keys] at this
  refine h4.rangeH (b := m1) Tryz.underlying55 fun r w4 h5 => ?_
  simp -dsimp -implicitDefEqProofs (disch := omega) only [go_sem, reqD_of, dec_t, dec_f, wrap_i64, wrap_u32, wrap_u64, wrap_u8]
  refine loop_intro (fun e w' => e.ds = [] ∧ e.ρ 3 = .pointer (some ⟨B2, 0, none⟩) ∧ e.ρ 18 = .pointer (some ⟨r, 0, none⟩) ∧ ∃ (done left ps2 : Ptrs), (done ++ left).Perm ps ∧ amap (·.2) ps2 = amap (·.2) done ∧
      St w0 (Blk B2 (.cells #[.map (some b1), .map (some b2)] 58 (0, 0)) * (MapP namV b1 (amap ptrV ps2) * (MapP encI b2 (amap needV ws) * (lksP ps2 * (Blk B (.cells #[.map (some m1), .map (some m2)] 58 (0, 0)) * (IterP namV m1 r (amap ptrV ps) (amap ptrV left) * (MapP encI m2 (amap needV ws) * (lksP ps * F)))))))) w')
    (fun _ w => iterLeft m1 r w) ?_ ?_
  · refine ⟨rfl, by simp -dsimp -implicitDefEqProofs only [go_sem], by simp -dsimp -implicitDefEqProofs only [go_sem], [], ps, [], .refl _, rfl, ?_⟩
    have h6 := h5.ent (Ent.empL _)
    exact St.sub (B := Blk B2 (.cells #[.map (some b1), .map (some b2)] 58 (0, 0)) * (MapP namV b1 [] * (MapP encI b2 (amap needV ws) * (EmpH * (Blk B (.cells #[.map (some m1), .map (some m2)] 58 (0, 0)) * (IterP namV m1 r (amap ptrV ps) (amap ptrV ps) * (MapP encI m2 (amap needV ws) * (lksP ps * F)))))))) h6
  rintro e w5 ⟨hd, e3, e18, done, left, ps2, hperm, hps2, h6⟩
  simp -dsimp -implicitDefEqProofs (disch := omega) only [go_sem, reqD_of, dec_t, dec_f, wrap_i64, wrap_u32, wrap_u64, wrap_u8, hd, e18]
  refine h6.nextP m1 (fun hl => ?_) (fun x rest w6 hx h7 => ?_)
  · subst hl
    rw [List.append_nil] at hperm
    have h7 := h6.iterEnd m1
    have h8 := TabP.col (B := B2) (m1 := b1) (m2 := b2) (ps := ps2) (ls := amap (·.2) ps2) (ws := ws) h7 rfl
    have h9 := (TabP.col (B := B) (m1 := m1) (m2 := m2) (ws := ws) h8 hps).sw2
    simp -dsimp -implicitDefEqProofs (disch := omega) only [go_sem, reqD_of, dec_t, dec_f, wrap_i64, wrap_u32, wrap_u64, wrap_u8, hd, e3]
    refine ⟨B2, amap (·.2) ps2, ?_, h9.sub, rfl⟩
    rw [hps2, ← hps]
    exact hperm.map _
  obtain ⟨nm, b, s⟩ := x
  simp -dsimp -implicitDefEqProofs (disch := omega) only [go_sem, reqD_of, dec_t, dec_f, wrap_i64, wrap_u32, wrap_u64, wrap_u8, hd, e18]
  refine h7.entryH m1 ?_
  have h8 := h7.iterDone m1
  have hmem : (nm, (b, s)) ∈ ps := hperm.mem_iff.1 (List.mem_append_right _ (hx.mem_iff.1 (by simp)))
  have hk := agt_of_mem hkeys hmem
  have hpm : ((done ++ [(nm, (b, s))]) ++ rest).Perm ps := by
    rw [List.append_assoc]
    exact (List.Perm.append_left done hx).trans hperm
  have hnew : agt nm ps2 = none := by
    have hnd : nm ∉ done.map (·.1) := by
      have h9 := (hpm.map (·.1)).nodup_iff.2 hkeys
      rw [List.map_append, List.map_append] at h9
      have h10 := (List.nodup_append.1 h9).1
      intro hm
      exact (List.nodup_append.1 h10).2.2 nm hm nm (by simp) rfl
    have h9 : agt nm (amap (·.2) done) = none := by rw [agt_amap, agt_none_of_notin hnd]; rfl
    rw [← hps2, agt_amap] at h9
    simpa using h9
  have hmeas : ∀ {A : HP} {C : HP → HP} {w' : World} [Hole (.map m1) A (IterP namV m1 r (amap ptrV ps) (amap ptrV rest)) C], St w0 A w' → iterLeft m1 r w' < iterLeft m1 r w5 := by
    intro A C w' _ hw'
    rw [hw'.iterLeft m1, h6.iterLeft m1]
    have := hx.length_eq
    simp only [amap, List.length_map]
    simp at this
    omega
  have hsl : s.1.length + s.2.length ≤ tot ls := by
    have := tot_mem (p := (nm, s)) (ls := ls) (by rw [← hps]; exact List.mem_map.2 ⟨(nm, (b, s)), hmem, rfl⟩)
    exact this
  simp -dsimp -implicitDefEqProofs (disch := omega) only [go_sem, reqD_of, dec_t, dec_f, wrap_i64, wrap_u32, wrap_u64, wrap_u8, hd]
  refine h8.new fun X w7 h9 => ?_
  simp -dsimp -implicitDefEqProofs (disch := omega) only [go_sem, reqD_of, dec_t, dec_f, wrap_i64, wrap_u32, wrap_u64, wrap_u8, hd]
  refine h9.stoAll (cs := namC nm) rfl rfl (namC_cells _) fun w8 h10 => ?_
  have h11 := h10.drew
  rw [lks_open hk] at h11
  obtain ⟨v1, v2, h12⟩ := LkP.openH (b := b) h11
  have hb := LkQ.clH h12 b
  have hX : rowV w8.drew ⟨X, 0, none⟩ 3 = some (namV nm) := h12.rowH X 3 rfl
  have hB2 := h12.cl B2
  simp -dsimp -implicitDefEqProofs (disch := omega) only [go_sem, reqD_of, dec_t, dec_f, wrap_i64, wrap_u32, wrap_u64, wrap_u8, hd, e3, e18, ptrV, hb, hX, hB2]
  refine (cloneClaims_any (v := v1) (l := s.1) h12 Gives.ent (by omega)).mono ?_
  rintro e' w9 ⟨v1', h13, rfl⟩
  have hb := LkQ.clH h13 b
  have hX := h13.cl X
  simp only [namC] at hX
  have hB2 := h13.cl B2
  simp -dsimp -implicitDefEqProofs (disch := omega) only [go_sem, reqD_of, dec_t, dec_f, wrap_i64, wrap_u32, wrap_u64, wrap_u8, hd, e3, e18, ptrV, hb, hX, hB2]
  refine ⟨rfl, ?_⟩
  refine (cloneClaims_any (v := v2) (l := s.2) h13 Gives.ent (by omega)).mono ?_
  rintro e' w10 ⟨v2', h14, rfl⟩
  have hb := LkQ.clH h14 b
  have hX := h14.cl X
  simp only [namC] at hX
  have hB2 := h14.cl B2
  obtain ⟨a1, c1, rfl, _⟩ := h14.rowForm v1'
  obtain ⟨a2, c2, rfl, _⟩ := h14.rowForm v2'
  simp -dsimp -implicitDefEqProofs (disch := omega) only [go_sem, reqD_of, dec_t, dec_f, wrap_i64, wrap_u32, wrap_u64, wrap_u8, hd, e3, e18, ptrV, hb, hX, hB2]
  refine ⟨rfl, ?_⟩
  refine onV_of (v := .agg #[.slice a1 s.1.length c1, .slice a2 s.2.length c2]) rfl ?_
  simp -dsimp -implicitDefEqProofs (disch := omega) only [go_sem, reqD_of, dec_t, dec_f, wrap_i64, wrap_u32, wrap_u64, wrap_u8]
  refine h14.new fun b' w11 h15 => ?_
  have hX := h15.cl X
  simp only [namC] at hX
  have hB2 := h15.cl B2
  simp -dsimp -implicitDefEqProofs (disch := omega) only [go_sem, reqD_of, dec_t, dec_f, wrap_i64, wrap_u32, wrap_u64, wrap_u8, hd, e3, e18, hX, hB2]
  refine ⟨rfl, ?_⟩
  refine h15.updH (b := b1) Tryz.underlying55 lawN fun w12 h16 => ?_
  have h17 := LkQ.shutH h16 b
  rw [show LkP b (s.1, s.2) = LkP b s from rfl, ← lks_open hk, show (Value.pointer (some ⟨b', 0, none⟩)) = ptrV (b', s) from rfl, upd_amap] at h17
  simp -dsimp -implicitDefEqProofs (disch := omega) only [go_sem, reqD_of, dec_t, dec_f, wrap_i64, wrap_u32, wrap_u64, wrap_u8, hd, e3, e18]
  refine ⟨⟨done ++ [(nm, (b, s))], rest, aset nm (b', s) ps2, hpm, ?_, ?_⟩, hmeas h17⟩
  · rw [aset_new hnew, amap_app, amap_app, hps2]; rfl
  · have h18 : St w0 ((Blk b' (.cells #[.slice a1 s.1.length c1, .slice a2 s.2.length c2] 73 (0, 0)) * (RowO 76 2 (.slice a1 s.1.length c1) s.1.length (clR s.1) * RowO 76 2 (.slice a2 s.2.length c2) s.2.length (clR s.2))) * (Blk B2 (.cells #[.map (some b1), .map (some b2)] 58 (0, 0)) * (MapP namV b1 (amap ptrV (aset nm (b', s) ps2)) * (MapP encI b2 (amap needV ws) * (lksP ps2 * (Blk B (.cells #[.map (some m1), .map (some m2)] 58 (0, 0)) * (IterP namV m1 r (amap ptrV ps) (amap ptrV rest) * (MapP encI m2 (amap needV ws) * (lksP ps * F))))))))) w12 := by
      refine St.ac (St.sub (B := Blk b' (.cells #[.slice a1 s.1.length c1, .slice a2 s.2.length c2] 73 (0, 0)) * (RowO 76 2 (.slice a1 s.1.length c1) s.1.length (clR s.1) * (RowO 76 2 (.slice a2 s.2.length c2) s.2.length (clR s.2) * (Blk B2 (.cells #[.map (some b1), .map (some b2)] 58 (0, 0)) * (MapP namV b1 (amap ptrV (aset nm (b', s) ps2)) * (MapP encI b2 (amap needV ws) * (lksP ps2 * (Blk B (.cells #[.map (some m1), .map (some m2)] 58 (0, 0)) * (IterP namV m1 r (amap ptrV ps) (amap ptrV rest) * (MapP encI m2 (amap needV ws) * (lksP ps * F))))))))))) h17) ?_
      ac_rfl
    have h19 := h18.ent (Ent.sep (LkQ.shut b' _ _ s.1 s.2) (Ent.rfl' _))
    have e1 : lksP (aset nm (b', s) ps2) = LkP b' s * lksP ps2 := stars_new (fun p : Nam × (Nat × LkS) => LkP p.2.1 p.2.2) nm (b', s) ps2 hnew
    rw [e1]
    exact h19.ac (by ac_rfl)

end
end Go.Proofs.YtacmnfpgimgigaaGreat

namespace Go.Proofs.YtacmnfpgimgigaaGreat
open Go
set_option linter.unusedSimpArgs false
set_option linter.unusedVariables false
set_option maxRecDepth 100000

theorem agt_perm {κ α : Type} [DecidableEq κ] {l l' : List (κ × α)} (hp : l.Perm l') (hn : (l'.map (·.1)).Nodup) (x : κ) : agt x l = agt x l' := by
  have hn' : (l.map (·.1)).Nodup := (hp.map (·.1)).nodup_iff.2 hn
  cases h : agt x l' with
  | some v => exact agt_of_mem hn' (hp.mem_iff.2 (mem_of_agt h))
  | none =>
    cases h2 : agt x l with
    | none => rfl
    | some v => rw [agt_of_mem hn (hp.mem_iff.1 (mem_of_agt h2))] at h; cases h
theorem tot_perm {l l' : List (Nam × LkS)} (hp : l.Perm l') : tot l = tot l' := by
  induction hp with
  | nil => rfl
  | cons x _ ih => simp only [tot, List.map_cons, List.sum_cons] at ih ⊢; rw [ih]
  | swap x y l => simp only [tot, List.map_cons, List.sum_cons]; omega
  | trans _ _ h1 h2 => rw [h1, h2]

section
variable {ls ls2 : List (Nam × LkS)} {ws : List (Int × Nee)}
theorem Inv.perm (v : Inv ls ws) (hp : ls2.Perm ls) : Inv ls2 ws := by
  have ha := agt_perm hp v.kn
  refine ⟨(hp.map (·.1)).nodup_iff.2 v.kn, v.wn, fun x s h => v.ok x s (by rw [← ha]; exact h), fun x s h => v.ne x s (by rw [← ha]; exact h), fun x s c q h => v.hd x s c q (by rw [← ha]; exact h), fun x s w a h => v.qw x s w a (by rw [← ha]; exact h), fun w x a h => ?_⟩
  obtain ⟨s, hs, hm⟩ := v.wq w x a h
  exact ⟨s, by rw [ha]; exact hs, hm⟩
theorem Closed.congr (ha : ∀ x, agt x ls2 = agt x ls) {S : Int → Prop} (c : Closed ls ws S) : Closed ls2 ws S := by
  intro p hp
  obtain ⟨x, a, q, h1, h2, h3⟩ := c p hp
  exact ⟨x, a, q, h1, h2, by unfold hsK at h3 ⊢; rw [ha]; exact h3⟩
theorem stk_congr (ha : ∀ x, agt x ls2 = agt x ls) (p : Int) : Stk ls2 ws p ↔ Stk ls ws p :=
  ⟨fun ⟨S, c, h⟩ => ⟨S, c.congr fun x => (ha x).symm, h⟩, fun ⟨S, c, h⟩ => ⟨S, c.congr ha, h⟩⟩
end

/-! ### How many wait -/
theorem adel_len {κ α : Type} [DecidableEq κ] (x : κ) (l : List (κ × α)) : (adel x l).length ≤ l.length := by
  have := (adel_keys x l).length_le
  simpa using this
theorem delAll_len : ∀ (l : List Claim) (ws : List (Int × Nee)), (delAll l ws).length ≤ ws.length
  | [], ws => Nat.le_refl _
  | c :: l, ws => Nat.le_trans (delAll_len l (adel c.1 ws)) (adel_len c.1 ws)
theorem turnS_wlen (x : Nam) (s : LkS) (ls : List (Nam × LkS)) (ws : List (Int × Nee)) : (turnS x s ls ws).2.2.length ≤ ws.length := delAll_len _ _
theorem freeS_wlen (who : Int) (x : Nam) (ls : List (Nam × LkS)) (ws : List (Int × Nee)) : (freeS who x ls ws).2.2.length ≤ ws.length := by
  cases h : agt x ls with
  | none => rw [freeS_no (by simp [h])]; exact Nat.le_refl _
  | some s =>
    rcases posC_spec who s.1 0 with hp | ⟨i, hi, hp⟩
    · rw [freeS_no (by intro s' hs'; rw [h] at hs'; cases hs'; omega)]; exact Nat.le_refl _
    · rw [Nat.zero_add] at hp
      rw [freeS_turn h hp]
      exact turnS_wlen _ _ _ _
theorem leaveL_wlen (who : Int) : ∀ (L : List Nee) (ls : List (Nam × LkS)) (ws : List (Int × Nee)), (leaveL who L ls ws).2.2.length ≤ ws.length
  | [], ls, ws => Nat.le_refl _
  | n :: L, ls, ws => Nat.le_trans (leaveL_wlen who L _ _) (freeS_wlen who n.1 ls ws)
theorem leaveS_wlen (who : Int) (ls : List (Nam × LkS)) (ws : List (Int × Nee)) : (leaveS who ls ws).2.2.length ≤ ws.length := by
  have h1 : (leave1 who ls ws).2.2.length ≤ ws.length := by
    unfold leave1
    split
    · exact Nat.le_refl _
    · split
      · exact Nat.le_refl _
      · exact Nat.le_trans (turnS_wlen _ _ _ _) (adel_len _ _)
  exact Nat.le_trans (leaveL_wlen _ _ _ _) h1

/-! ### Stuck -/
def StuckIs (ls : List (Nam × LkS)) (ws : List (Int × Nee)) (l : List Int) : Prop := l.Pairwise (· < ·) ∧ ∀ p, p ∈ l ↔ Stk ls ws p

theorem sorted_lt {l : List Int} (hn : l.Nodup) : (l.mergeSort fun a b => decide (a ≤ b)).Pairwise (· < ·) := by
  have h1 : (l.mergeSort fun a b => decide (a ≤ b)).Pairwise fun a b => decide (a ≤ b) = true := List.pairwise_mergeSort (fun a b c h1 h2 => by simp at *; omega) (fun a b => by simp; omega) l
  have h2 : (l.mergeSort fun a b => decide (a ≤ b)).Nodup := (List.mergeSort_perm _ _).nodup_iff.2 hn
  exact (h1.and h2).imp fun ⟨h3, h4⟩ => by simp at h3; omega


theorem sorted_any {w0 w : World} {F : HP} {Bx m : Nat} {l : List (Int × Value)} (h : St w0 (BoxM Bx m * (MapP encI m l * F)) w) (hl : l.length < 1099511627776) :
    Calls Tryz.prog 58 #[.func (.func 75) #[] #[.pointer (some ⟨Bx, 0, none⟩)]] w fun e w' => ∃ (v : Value) (xs : List Int), xs.Perm (l.map (·.1)) ∧ St w0 (RowO 3 1 v xs.length (intR (xs.mergeSort fun a b => decide (a ≤ b))) * (BoxM Bx m * (MapP encI m l * F))) w' ∧ e = .returned v := by
  refine F58.calls (by simp) ?_
  unfold F58.code
  simp -dsimp -implicitDefEqProofs (disch := omega) only [go_sem, reqD_of, dec_t, dec_f, wrap_i64, wrap_u32, wrap_u64, wrap_u8]
  refine (collect_any h hl).mono ?_
  rintro e' w1 ⟨v, xs, hp, h1, rfl⟩
  have hxl : xs.length = l.length := by have := hp.length_eq; simpa using this
  simp -dsimp -implicitDefEqProofs (disch := omega) only [go_sem, reqD_of, dec_t, dec_f, wrap_i64, wrap_u32, wrap_u64, wrap_u8]
  refine (St.sortInts (P := Tryz.prog) sortIntL (T := 3) (l := xs) (v := v) (by simpa [intR] using h1) (by omega)).mono ?_
  rintro e w3 ⟨h2, rfl⟩
  simp -dsimp -implicitDefEqProofs (disch := omega) only [go_sem, reqD_of, dec_t, dec_f, wrap_i64, wrap_u32, wrap_u64, wrap_u8]
  exact ⟨v, xs, hp, h2, rfl⟩

/-- The play, so far: n claims are left. -/
def PlayI (w0 : World) (B2 : Nat) (ls : List (Nam × LkS)) (ws : List (Int × Nee)) (G : HP) (n : Nat) (e : FA) (w : World) : Prop :=
  e.ds = [] ∧ e.ρ 3 = .pointer (some ⟨B2, 0, none⟩) ∧ ∃ (ls' : List (Nam × LkS)) (ws' : List (Int × Nee)) (a b : Value), tot ls' = n ∧ Inv ls' ws' ∧ (∀ p, Stk ls' ws' p ↔ Stk ls ws p) ∧ tot ls' ≤ tot ls ∧ ls'.length ≤ ls.length ∧ ws'.length ≤ ws.length ∧ e.ρ 4 = a ∧ e.ρ 5 = b ∧ FreeOk ls' ws' (.returned (.tuple #[a, b])) ∧ St w0 (TabP B2 ls' ws' * G) w

section
attribute [local go_sem] F32.t4_eq F32.t5_eq F32.t6_eq
theorem stuck_any {w0 w : World} {F : HP} {B : Nat} {ls : List (Nam × LkS)} {ws : List (Int × Nee)} (v : Inv ls ws) (h : St w0 (TabP B ls ws * F) w) (hT : tot ls < 1073741824) (hL : ls.length < 1073741824) (hW : ws.length < 1073741824) :
    Calls Tryz.prog 32 #[.pointer (some ⟨B, 0, none⟩)] w fun e w' => ∃ v l, StuckIs ls ws l ∧ St w0 (RowO 3 1 v l.length (intR l) * (TabP B ls ws * F)) w' ∧ e = .returned v := by
  refine F32.calls (by simp) ?_
  unfold F32.code
  simp -dsimp -implicitDefEqProofs (disch := omega) only [go_sem, reqD_of, dec_t, dec_f, wrap_i64, wrap_u32, wrap_u64, wrap_u8]
  refine (clone_any h (by omega)).mono ?_
  rintro e' w1 ⟨B2, ls2, hp, h1, rfl⟩
  have ht2 := tot_perm hp
  have hl2 := hp.length_eq
  have v2 := v.perm hp
  simp -dsimp -implicitDefEqProofs (disch := omega) only [go_sem, reqD_of, dec_t, dec_f, wrap_i64, wrap_u32, wrap_u64, wrap_u8]
  refine (freeSome_any h1 (fun p hp => by have := tot_mem hp; omega)).mono ?_
  rintro e' w2 ⟨h2, hf⟩
  obtain ⟨a, b, rfl⟩ : ∃ a b, e' = .returned (.tuple #[a, b]) := by
    rcases hf with ⟨who, x, s, h, _⟩ | ⟨h, _⟩
    · exact ⟨_, _, h⟩
    · exact ⟨_, _, h⟩
  simp -dsimp -implicitDefEqProofs (disch := omega) only [go_sem, reqD_of, dec_t, dec_f, wrap_i64, wrap_u32, wrap_u64, wrap_u8]
  refine loop_rank (PlayI w0 B2 ls2 ws (TabP B ls ws * F)) (tot ls2) ⟨by simp -dsimp -implicitDefEqProofs only [go_sem], by simp -dsimp -implicitDefEqProofs only [go_sem], ls2, ws, a, b, rfl, v2, fun _ => Iff.rfl, Nat.le_refl _, Nat.le_refl _, Nat.le_refl _, by simp -dsimp -implicitDefEqProofs only [go_sem], by simp -dsimp -implicitDefEqProofs only [go_sem], hf, h2⟩ ?_
  rintro e w3 ⟨hd, e3, ls', ws', a, b, hn, v', hst, ht', hl', hw', e4, e5, hf', h3⟩
  rcases hf' with ⟨who, x, s, hab, hs, hm, hwn⟩ | ⟨hab, hend⟩
  · simp only [Ending.returned.injEq, Value.tuple.injEq, Array.mk.injEq, List.cons.injEq, and_true] at hab
    obtain ⟨rfl, rfl⟩ := hab
    simp -dsimp -implicitDefEqProofs (disch := omega) only [go_sem, reqD_of, dec_t, dec_f, wrap_i64, wrap_u32, wrap_u64, wrap_u8, hd, e3, e4, e5]
    refine (leave_any h3 (fun n hn => by rw [hwn] at hn; cases hn) (by omega) (by omega)).mono ?_
    rintro e' w4 hq
    obtain ⟨va, h4, rfl⟩ := hq
    obtain ⟨t1, _, t3⟩ := leaveS_tot who ls' ws'
    have t4 := leaveS_wlen who ls' ws'
    have h5 : St w0 (TabP B2 (leaveS who ls' ws').2.1 (leaveS who ls' ws').2.2 * (TabP B ls ws * F)) w4 := h4.right
    simp -dsimp -implicitDefEqProofs (disch := omega) only [go_sem, reqD_of, dec_t, dec_f, wrap_i64, wrap_u32, wrap_u64, wrap_u8, hd, e3, e4, e5]
    refine (freeSome_any h5 (fun p hp => by have := tot_mem hp; omega)).mono ?_
    rintro e' w5 ⟨h6, hf⟩
    obtain ⟨a, b, rfl⟩ : ∃ a b, e' = .returned (.tuple #[a, b]) := by
      rcases hf with ⟨who, x, s, h, _⟩ | ⟨h, _⟩
      · exact ⟨_, _, h⟩
      · exact ⟨_, _, h⟩
    simp -dsimp -implicitDefEqProofs (disch := omega) only [go_sem, reqD_of, dec_t, dec_f, wrap_i64, wrap_u32, wrap_u64, wrap_u8, hd, e3, e4, e5]
    refine rank_down (m := tot (leaveS who ls' ws').2.1) ⟨by simp -dsimp -implicitDefEqProofs only [go_sem, hd], by simp -dsimp -implicitDefEqProofs only [go_sem, e3], _, _, a, b, rfl, v'.leave who, fun p => (stk_leave v' hwn p).trans (hst p), by omega, by omega, by omega, by simp -dsimp -implicitDefEqProofs only [go_sem], by simp -dsimp -implicitDefEqProofs only [go_sem], hf, h6⟩ ?_
    rw [← hn]
    exact leave_lt v' hwn hs hm
  · simp only [Ending.returned.injEq, Value.tuple.injEq, Array.mk.injEq, List.cons.injEq, and_true] at hab
    obtain ⟨rfl, rfl⟩ := hab
    obtain ⟨m1, m2, ps, hps, h4⟩ := TabP.open h3
    rw [TabQ_eq] at h4
    simp -dsimp -implicitDefEqProofs (disch := omega) only [go_sem, reqD_of, dec_t, dec_f, wrap_i64, wrap_u32, wrap_u64, wrap_u8, hd, e3, e4, e5, h4.cl B2]
    refine F59.calls (by simp) ?_
    unfold F59.code
    simp -dsimp -implicitDefEqProofs (disch := omega) only [go_sem, reqD_of, dec_t, dec_f, wrap_i64, wrap_u32, wrap_u64, wrap_u8]
    refine h4.new fun Bx w4 h5 => ?_
    simp -dsimp -implicitDefEqProofs (disch := omega) only [go_sem, reqD_of, dec_t, dec_f, wrap_i64, wrap_u32, wrap_u64, wrap_u8]
    have h6 : St w0 (BoxM Bx m2 * (MapP encI m2 (amap needV ws') * (TabP B ls ws * F))) w4 := h5.sub
    refine (sorted_any h6 (by simp only [amap, List.length_map]; omega)).mono ?_
    rintro e' w5 ⟨va, xs, hpx, h7, rfl⟩
    simp -dsimp -implicitDefEqProofs (disch := omega) only [go_sem, reqD_of, dec_t, dec_f, wrap_i64, wrap_u32, wrap_u64, wrap_u8, hd]
    rw [amap_keys] at hpx
    have hxn : xs.Nodup := hpx.nodup_iff.2 v'.wn
    refine ⟨va, xs.mergeSort fun a b => decide (a ≤ b), ⟨sorted_lt hxn, fun p => ?_⟩, ?_, rfl⟩
    · rw [List.mem_mergeSort, hpx.mem_iff, ← stk_congr (agt_perm hp v.kn) p, ← hst p, stk_end v' hend p, agt_isSome_iff]
    · rw [List.length_mergeSort]
      exact h7.sub

end
end Go.Proofs.YtacmnfpgimgigaaGreat
