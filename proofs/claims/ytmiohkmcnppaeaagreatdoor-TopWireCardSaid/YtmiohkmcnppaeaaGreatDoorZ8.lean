/- Slices: a row of one's own, what append makes of it; what a slice reads as. · Variables of more cells than one: read and written whole. · Maps of one's own: made, looked up, written, gone through. · Rows of one's own that begin anywhere in their block: cut, appended to, cleared. · Parts of memory, found by what they are about: the frame is looked through by instances. · Texts out of bytes. · Loops over functions: what a loop asks of the function it ranges over, in parts of memory. · Texts as lists of bytes; their characters; a text gone through; what the library's calls leave. · The library's sorts and their like, laid at this program (by the kit's own command, in plain words). -/
import Derived.Test.YtmiohkmcnppaeaaGreatDoorZ1
import Derived.Test.YtmiohkmcnppaeaaGreatDoorZ2
import Derived.Test.YtmiohkmcnppaeaaGreatDoorZ3
import Derived.Test.YtmiohkmcnppaeaaGreatDoorZ4
import Derived.Test.YtmiohkmcnppaeaaGreatDoorZ5
import Derived.Test.YtmiohkmcnppaeaaGreatDoorZ6
import Derived.Test.YtmiohkmcnppaeaaGreatDoorZ7
import Derived.Deep.AppendSrc
import Derived.MapKept
import Derived.Maps.RangeRun
import Derived.Carry
import Derived.WideKeyRuns
import Derived.Lib.SliceRun
import Derived.Laws.BytesArg
import Derived.Lib.OthersKept
import Derived.Laws.RangeAny
import Derived.Lib.DecodeN
import Derived.Lib.Strings
import Derived.Below
import Derived.Deep.Draws
import Derived.Shelf.Unicode.DecodeAny
import Derived.Test.YtmiohkmcnppaeaaGreatDoorProg
import Derived.KernelRfl
namespace Go.Proofs.YtmiohkmcnppaeaaGreatDoor
open Go

theorem length_setRowL : ∀ (vs : List Value) (cs : List Value) (o : Nat), (setRowL cs o vs).length = cs.length
  | [], _, _ => rfl
  | v :: vs, cs, o => by simp [setRowL, length_setRowL vs]

theorem getElem?_setRowL_lt : ∀ (vs : List Value) (cs : List Value) (o k : Nat), k < o → (setRowL cs o vs)[k]? = cs[k]?
  | [], _, _, _, _ => rfl
  | v :: vs, cs, o, k, h => by
    simp only [setRowL]
    rw [getElem?_setRowL_lt vs _ (o + 1) k (by omega), List.getElem?_set_ne (by omega)]

theorem getElem?_setRowL_in : ∀ (vs : List Value) (cs : List Value) (o j : Nat), j < vs.length → o + vs.length ≤ cs.length → (setRowL cs o vs)[o + j]? = vs[j]?
  | v :: vs, cs, o, 0, _, hl => by
    simp only [setRowL, Nat.add_zero]
    rw [getElem?_setRowL_lt vs _ (o + 1) o (by omega), List.getElem?_set_self (by simp at hl; omega)]
    rfl
  | v :: vs, cs, o, j + 1, hj, hl => by
    simp only [setRowL]
    have := getElem?_setRowL_in vs (cs.set o v) (o + 1) j (by simpa using hj) (by simp at hl ⊢; omega)
    rw [show o + (j + 1) = o + 1 + j by omega, this]
    rfl

theorem getElem?_setRowL_ge : ∀ (vs : List Value) (cs : List Value) (o k : Nat), o + vs.length ≤ k → (setRowL cs o vs)[k]? = cs[k]?
  | [], _, _, _, _ => rfl
  | v :: vs, cs, o, k, h => by
    simp only [setRowL]
    simp only [List.length_cons] at h
    rw [getElem?_setRowL_ge vs _ (o + 1) k (by omega), List.getElem?_set_ne (by omega)]

theorem take_setRowL {vs cs : List Value} {o : Nat} (h : o + vs.length ≤ cs.length) : (setRowL cs o vs).take (o + vs.length) = cs.take o ++ vs := by
  apply List.ext_getElem?
  intro k
  rw [List.getElem?_take]
  split
  · rename_i hk
    rcases Nat.lt_or_ge k o with h1 | h1
    · rw [getElem?_setRowL_lt _ _ _ _ h1, List.getElem?_append_left (by simp; omega), List.getElem?_take, if_pos h1]
    · obtain ⟨j, rfl⟩ : ∃ j, k = o + j := ⟨k - o, by omega⟩
      rw [getElem?_setRowL_in _ _ _ _ (by omega) h, List.getElem?_append_right (by simp; omega)]
      congr 1
      simp; omega
  · rename_i hk
    rw [List.getElem?_eq_none]
    simp; omega

theorem heap_setCells (b : Nat) (T : TypeId) (fr : Nat × Nat) : ∀ (vs : List Value) (o : Nat) (w : World) (cur : Array Value), w.heap[b]? = some (.cells cur T fr) →
    (w.setCells b o vs).heap[b]? = some (.cells (setRowL cur.toList o vs).toArray T fr) ∧ (∀ k, k ≠ b → (w.setCells b o vs).heap[k]? = w.heap[k]?) ∧ (w.setCells b o vs).heap.size = w.heap.size ∧
      (w.setCells b o vs).os = w.os ∧ (w.setCells b o vs).tape = w.tape ∧ (w.setCells b o vs).output = w.output
  | [], o, w, cur, h => ⟨by simpa [World.setCells, setRowL] using h, fun _ _ => rfl, rfl, rfl, rfl, rfl⟩
  | v :: vs, o, w, cur, h => by
    have h1 : (w.setCell ⟨b, o, none⟩ v).heap[b]? = some (.cells (cur.setIfInBounds o v) T fr) := by
      simp only [World.setCell, Array.getElem?_modify, if_true]
      rw [h]; rfl
    obtain ⟨a1, a2, a3, a4, a5, a6⟩ := heap_setCells b T fr vs (o + 1) (w.setCell ⟨b, o, none⟩ v) (cur.setIfInBounds o v) h1
    refine ⟨?_, fun k hk => ?_, ?_, a4, a5, a6⟩
    · simpa [World.setCells, setRowL] using a1
    · exact (a2 k hk).trans (RowKit.Below.heap_setCell w ⟨b, o, none⟩ v k hk)
    · exact a3.trans (by simp [World.setCell])

/-- The slice value v owns the cells xs: n elements of s cells each, of type T; the block is its own, from its first cell. -/
def Row (T : TypeId) (s : Nat) (v : Value) (n : Nat) (xs : List Value) : HP := fun h =>
  (v = .slice none 0 0 ∧ n = 0 ∧ xs = []) ∨
  ∃ g cap cur, v = .slice (some ⟨g, 0, none⟩) n cap ∧ h g = some (.cells cur T (0, 0)) ∧ n ≤ cap ∧ cap ≤ maxLen ∧ cur.size = cap * s ∧ cur.toList.take (n * s) = xs ∧ xs.length = n * s

theorem Row.length {T s : Nat} {v : Value} {n : Nat} {xs : List Value} {h : Heap} (k : Row T s v n xs h) : xs.length = n * s := by
  rcases k with ⟨_, rfl, rfl⟩ | ⟨_, _, _, _, _, _, _, _, _, hl⟩
  · simp
  · exact hl

/-- What a slice's type is made of: the element's type, its cells, its bytes, its zero. -/
def rowTy (P : Program) (t : TypeId) : Option (TypeId × Nat × Nat × List Value) :=
  match P.underlying t with
  | some (.slice e) => match P.info? e with
    | some i => match i.zero with
      | some z => if z.cells.size = i.size then some (e, i.size, i.bytes, z.cells.toList) else none
      | none => none
    | none => none
  | _ => none

theorem rowTy_some {P : Program} {t e s bs : Nat} {zs : List Value} (h : rowTy P t = some (e, s, bs, zs)) :
    P.underlying t = some (.slice e) ∧ ∃ i z, P.info? e = some i ∧ i.zero = some z ∧ i.size = s ∧ i.bytes = bs ∧ z.cells.size = s ∧ z.cells.toList = zs := by
  unfold rowTy at h
  split at h <;> try (cases h; done)
  rename_i e' hu
  split at h <;> try (cases h; done)
  rename_i i hi
  split at h <;> try (cases h; done)
  rename_i z hz
  split at h <;> try (cases h; done)
  rename_i hc
  simp only [Option.some.injEq, Prod.mk.injEq] at h
  obtain ⟨rfl, rfl, rfl, rfl⟩ := h
  exact ⟨hu, i, z, hi, hz, rfl, rfl, hc, rfl⟩

/-- append, to a row of one's own, from whatever source. -/
theorem St.append {P : Program} {w0 w : World} {F : HP} {t tx ty e s bs : Nat} {zs : List Value} {v x : Value} {n m : Nat} {xs news : List Value} {K : Value → World → Prop} {θ : Tag K}
    (h : St w0 (Row e s v n xs * F) w) (ht : rowTy P t = some (e, s, bs, zs)) (hs : Src P s tx x m news w) (h63 : n + m ≤ maxLen) (hb : (n + m) * bs ≤ 140737488355328)
    (hK : ∀ v' w', St w0 (Row e s v' (n + m) (xs ++ news) * F) w' → K v' w') : semD P (kAppend #[t, tx] ty #[v, x]) w K θ := by
  show semD P (Builtin.append_ #[t, tx] ty #[v, x]) w K θ
  obtain ⟨hu, i, z, hi, hz, rfl, rfl, hzs, rfl⟩ := rowTy_some ht
  obtain ⟨hh, hl, h1, h2, hd, l1, l2, hr, hf⟩ := h.sat
  have hnl : xs.length = n * i.size := hr.length
  have h63' : ((n + m : Nat) : Int) ≤ 9223372036854775807 := by simp only [maxLen] at h63; omega
  have grow : ∀ (base : Option Addr) (cap : Nat), v = .slice base n cap → cap < n + m → (Builtin.firstCells i.size n (.slice base n cap)).run P w.drew = .ok xs.toArray w.drew →
      semD P (Builtin.append_ #[t, tx] ty #[v, x]) w K θ := by
    intro base cap hv hc hold
    subst hv
    have := run_append_grow_src (P := P) w t tx ty e i z hu hi hz base n cap xs hold x m news hs hc h63' (growslice_fits hc hb)
    refine ⟨_, _, this, hK _ _ ?_⟩
    have hg := grownCap_ge w (n + m) cap e
    have hcm := grownCap_le_maxLen w (n + m) cap e h63
    have hst : St w0 F w.drew := (St.drew h).right
    refine (hst.alloc _).ent (Ent.sep (Ent.of fun k hk => .inr ⟨w.heap.size, grownCap w (n + m) cap e, _, rfl, hk, hg, hcm, ?_, ?_, ?_⟩) (Ent.rfl' F))
    · simp only [Array.size_append, List.size_toArray, List.length_append, size_zeroCells, hzs, hnl, hs.newsLen, ← Nat.add_mul]
      congr 1
      omega
    · have hlen : (xs ++ news).length = (n + m) * i.size := by rw [List.length_append, hnl, hs.newsLen, Nat.add_mul]
      simp only [Array.toList_append]
      rw [← hlen]
      exact List.take_left
    · rw [List.length_append, hnl, hs.newsLen, Nat.add_mul]
  rcases hr with ⟨rfl, rfl, rfl⟩ | ⟨g, cap, cur, rfl, hg, hnc, hcm, hcs, htake, _⟩
  · by_cases hm : m = 0
    · subst hm
      have hn : news = [] := List.eq_nil_of_length_eq_zero (by simpa using hs.newsLen)
      subst hn
      refine ⟨.slice none 0 0, w, ?_, hK _ _ h⟩
      rcases hs.kind with ⟨e', hk⟩ | hk <;>
        simp [Builtin.append_, run_underlying hu, run_underlying hk, sizeOf, typeInfo, hi, hs.len, hs.cells]
    · exact grow none 0 rfl (by omega) (by simp [Builtin.firstCells])
  · have hgw : w.heap[g]? = some (.cells cur e (0, 0)) := hl g _ (l1 g _ hg)
    by_cases hroom : n + m ≤ cap
    · have hfit : n * i.size + news.length ≤ cur.size := by rw [hs.newsLen, hcs, ← Nat.add_mul]; exact Nat.mul_le_mul_right _ hroom
      have := run_append_room_src (P := P) w t tx ty e i hu hi g 0 n cap x m news hs hroom
        (fun j hj => by rw [Nat.zero_add, cell_of_heap hgw]; simp [show n * i.size + j < cur.size by omega]) (fun j _ => frozen_of_heap hgw _)
      refine ⟨_, _, this, hK _ _ ?_⟩
      obtain ⟨a1, a2, a3, a4, a5, a6⟩ := heap_setCells g e (0, 0) news (0 + n * i.size) w cur hgw
      refine h.turn (b := g) a4 a5 a6 (by omega) (fun k hk => ?_) (fun k hk _ => a2 k hk) ⟨fun k => if k = g then some (.cells (setRowL cur.toList (0 + n * i.size) news).toArray e (0, 0)) else none, fun k o he => ?_, fun k o he => ?_, ?_⟩
      · rcases hk with ⟨hv, _⟩ | ⟨g', cap', cur', hv, hk, _⟩
        · cases hv
        · simp only [Value.slice.injEq, Option.some.injEq, Addr.mk.injEq] at hv
          obtain ⟨⟨rfl, _⟩, _⟩ := hv
          exact ⟨_, hk⟩
      · by_cases hkg : k = g <;> simp_all
      · by_cases hkg : k = g
        · subst hkg
          simp only [if_true] at he
          exact a1.trans he
        · simp [hkg] at he
      · refine .inr ⟨g, cap, (setRowL cur.toList (0 + n * i.size) news).toArray, rfl, if_pos rfl, by omega, hcm, by simp [length_setRowL, hcs], ?_, ?_⟩
        · have := take_setRowL (vs := news) (cs := cur.toList) (o := n * i.size) (by simpa using hfit)
          rw [Nat.zero_add, Nat.add_mul, ← hs.newsLen]
          simp only [this, htake]
        · rw [List.length_append, hnl, hs.newsLen, Nat.add_mul]
    · refine grow (some ⟨g, 0, none⟩) cap rfl (by omega) ?_
      have hc : ∀ j u, xs[j]? = some u → w.drew.cell? ((⟨g, 0, none⟩ : Addr).add j) = some u := by
        intro j u hu
        rw [add_lit, Nat.zero_add]
        have : w.drew.cell? ⟨g, j, none⟩ = cur[j]? := cell_of_heap (w := w.drew) hgw j
        rw [this]
        rw [← htake, List.getElem?_take] at hu
        split at hu
        · simpa using hu
        · cases hu
      exact run_firstCells_some w.drew i.size n ⟨g, 0, none⟩ n cap xs hnl hc

/-! ### Parts with something hidden -/

def HP.ex {α : Type} (A : α → HP) : HP := fun h => ∃ x, A x h
def HP.fact (p : Prop) (A : HP) : HP := fun h => p ∧ A h

theorem ex_sep {α : Type} (A : α → HP) (F : HP) : HP.ex A * F = HP.ex fun x => A x * F := by
  funext h
  apply propext
  constructor
  · rintro ⟨h1, h2, d, l1, l2, ⟨x, a⟩, f⟩; exact ⟨x, h1, h2, d, l1, l2, a, f⟩
  · rintro ⟨x, h1, h2, d, l1, l2, a, f⟩; exact ⟨h1, h2, d, l1, l2, ⟨x, a⟩, f⟩
theorem fact_sep (p : Prop) (A F : HP) : HP.fact p A * F = HP.fact p (A * F) := by
  funext h
  apply propext
  constructor
  · rintro ⟨h1, h2, d, l1, l2, ⟨x, a⟩, f⟩; exact ⟨x, h1, h2, d, l1, l2, a, f⟩
  · rintro ⟨x, h1, h2, d, l1, l2, a, f⟩; exact ⟨h1, h2, d, l1, l2, ⟨x, a⟩, f⟩
theorem St.ex {α : Type} {w0 w : World} {A : α → HP} (h : St w0 (HP.ex A) w) : ∃ x, St w0 (A x) w := by
  obtain ⟨y, l, x, a⟩ := h.sat
  exact ⟨x, h.os, h.tape, h.output, h.drawn, h.size, y, l, a⟩
theorem St.exF {α : Type} {w0 w : World} {A : α → HP} {F : HP} (h : St w0 (HP.ex A * F) w) : ∃ x, St w0 (A x * F) w := by rw [ex_sep] at h; exact h.ex
theorem St.factF {w0 w : World} {p : Prop} {A F : HP} (h : St w0 (HP.fact p A * F) w) : p ∧ St w0 (A * F) w := by
  rw [fact_sep] at h
  obtain ⟨y, l, x, a⟩ := h.sat
  exact ⟨x, h.os, h.tape, h.output, h.drawn, h.size, y, l, a⟩
theorem Ent.ex {α : Type} (A : α → HP) (x : α) : Ent (A x) (HP.ex A) := Ent.of fun _ a => ⟨x, a⟩
theorem Ent.fact {p : Prop} (hp : p) (A : HP) : Ent A (HP.fact p A) := Ent.of fun _ a => ⟨hp, a⟩

/-- A store of one cell into a block of one's own. -/
theorem St.store {w0 w : World} {F : HP} {c off : Nat} {arr arr' : Array Value} {T : TypeId} {v : Value} {K : World → Prop} {θ : Tag K} (h : St w0 (Blk c (.cells arr T (0, 0)) * F) w) (he : arr.setIfInBounds off v = arr') (hi : off < arr.size) (hv : isCell v = true)
    (hK : ∀ w', St w0 (Blk c (.cells arr' T (0, 0)) * F) w' → K w') : storeD (some 1) (.pointer (some ⟨c, off, none⟩)) v w K θ := by
  subst he
  rw [storeD_cell hv (by rw [h.cells]; simp [hi]) (h.thaw off)]
  exact hK _ (h.setCell off v)

/-- A new block of cells. -/
theorem St.new {w0 w : World} {F : HP} {T : TypeId} {cells : Array Value} {K : Value → World → Prop} {θ : Tag K} (h : St w0 F w) (hK : ∀ b w', St w0 (Blk b (.cells cells T (0, 0)) * F) w' → K (.pointer (some ⟨b, 0, none⟩)) w') : newD T cells w K θ :=
  hK _ _ (h.alloc _)

theorem Row.form {w0 w : World} {T s : Nat} {v : Value} {n : Nat} {xs : List Value} {F : HP} (h : St w0 (Row T s v n xs * F) w) : ∃ a c, v = .slice a n c ∧ xs.length = n * s := by
  obtain ⟨_, _, h1, _, _, _, _, hr, _⟩ := h.sat
  rcases hr with ⟨rfl, rfl, rfl⟩ | ⟨g, cap, cur, rfl, _, _, _, _, _, hl⟩
  · exact ⟨_, _, rfl, by simp⟩
  · exact ⟨_, _, rfl, hl⟩

theorem Row.nil (T s : Nat) : ∀ h, Row T s (.slice none 0 0) 0 [] h := fun _ => .inl ⟨rfl, rfl, rfl⟩
theorem Ent.nilRow (T s : Nat) (F : HP) : Ent F (Row T s (.slice none 0 0) 0 [] * F) :=
  Ent.of fun h f => ⟨(fun _ => none : Heap), h, fun _ => .inl rfl, (fun _ _ e => (by cases e)), hle.rfl' h, Row.nil T s _, f⟩

/-! ### What a slice reads as -/

/-- The slice value v has n elements of s cells, and these are its cells. -/
def Reads (s : Nat) (v : Value) (n : Nat) (xs : List Value) : HP := fun h =>
  xs.length = n * s ∧ ∃ a c, v = .slice a n c ∧ n ≤ c ∧ (xs = [] ∨ ∃ b o cur T fr, a = some ⟨b, o, none⟩ ∧ h b = some (.cells cur T fr) ∧ ∀ j, j < xs.length → cur[o + j]? = xs[j]?)

theorem Row.reads (T s : Nat) (v : Value) (n : Nat) (xs : List Value) : Ent (Row T s v n xs) (Reads s v n xs) := by
  refine Ent.of fun h k => ⟨k.length, ?_⟩
  rcases k with ⟨rfl, rfl, rfl⟩ | ⟨g, cap, cur, rfl, hg, hn, hc, hs, ht, hl⟩
  · exact ⟨none, 0, rfl, Nat.le_refl _, .inl rfl⟩
  · refine ⟨_, _, rfl, hn, .inr ⟨g, 0, cur, T, (0, 0), rfl, hg, fun j hj => ?_⟩⟩
    rw [Nat.zero_add, ← ht, List.getElem?_take, if_pos (by omega)]
    simp

/-- What a slice of one's own or another's reads as, in the world at hand. -/
structure Rd (s : Nat) (v : Value) (n : Nat) (xs : List Value) (w : World) : Prop where
  length : xs.length = n * s
  form : ∃ a c, v = .slice a n c ∧ n ≤ c ∧ (xs = [] ∨ ∃ b o, a = some ⟨b, o, none⟩ ∧ ∀ j, j < xs.length → w.cell? ⟨b, o + j, none⟩ = xs[j]?)

theorem St.rd {w0 w : World} {s : Nat} {v : Value} {n : Nat} {xs : List Value} (h : St w0 (Reads s v n xs) w) : Rd s v n xs w := by
  obtain ⟨x, l, hx, a, c, rfl, hnc, hr⟩ := h.sat
  refine ⟨hx, a, c, rfl, hnc, ?_⟩
  rcases hr with hr | ⟨b, o, cur, T, fr, rfl, hb, hr⟩
  · exact .inl hr
  · exact .inr ⟨b, o, rfl, fun j hj => by rw [cell_of_heap (l b _ hb)]; exact hr j hj⟩

theorem Rd.drew {s : Nat} {v : Value} {n : Nat} {xs : List Value} {w : World} (h : Rd s v n xs w) : Rd s v n xs w.drew := ⟨h.length, h.form⟩

theorem Rd.src {P : Program} {s : Nat} {v : Value} {n : Nat} {xs : List Value} {w : World} (h : Rd s v n xs w) {tx e' : TypeId} (hk : P.underlying tx = some (.slice e')) (h1 : ∀ u ∈ xs, isCell u = true) (hsn : xs = [] → n = 0) : Src P s tx v n xs w := by
  obtain ⟨a, c, rfl, hnc, hr | ⟨b, o, rfl, hr⟩⟩ := h.form
  · have hn := hsn hr
    subst hr hn
    cases a with
    | none => exact Src.ofNil w hk c
    | some a => exact Src.ofSlice w hk a 0 c [] (by simp) (by simp) (by simp)
  · refine Src.ofSlice w hk _ n c xs h.length (fun j u hu => ?_) (fun u hu => by rw [← isCell_eq]; exact h1 u hu)
    rw [add_lit]
    have hj : j < xs.length := (List.getElem?_eq_some_iff.1 hu).1
    rw [hr j hj]; exact hu

/-! ### Bytes -/

def bv (b : UInt8) : Value := .int .u8 (b.toNat : Int)

abbrev RdB (v : Value) (bs : List UInt8) : HP := Reads 1 v bs.length (bs.map bv)

theorem bv_isCell (bs : List UInt8) : ∀ u ∈ bs.map bv, isCell u = true := by
  intro u hu
  obtain ⟨b, _, rfl⟩ := List.mem_map.1 hu
  rfl

/-- A byte slice: its form, and each byte. -/
theorem St.bytes {w0 w : World} {v : Value} {bs : List UInt8} (h : St w0 (RdB v bs) w) : ∃ a c, v = .slice a bs.length c ∧ bs.length ≤ c ∧ (bs = [] ∨ ∃ b o, a = some ⟨b, o, none⟩ ∧ ∀ j, j < bs.length → w.cell? ⟨b, o + j, none⟩ = some (bv (bs.getD j 0))) := by
  obtain ⟨a, c, hv, hnc, hr⟩ := h.rd.form
  refine ⟨a, c, hv, hnc, ?_⟩
  rcases hr with hr | ⟨b, o, rfl, hr⟩
  · exact .inl (by simpa using hr)
  · refine .inr ⟨b, o, rfl, fun j hj => ?_⟩
    rw [hr j (by simpa using hj)]
    simp [List.getElem?_eq_getElem hj]

/-- A part of a slice. -/
theorem Reads.sub {s n lo k c : Nat} {a : Option Addr} {xs : List Value} (h : lo + k ≤ n) :
    Ent (Reads s (.slice a n c) n xs) (Reads s (.slice (if c = lo then a else a.map (·.add (lo * s))) k (c - lo)) k ((xs.drop (lo * s)).take (k * s))) := by
  refine Ent.of fun hp ⟨hl, a', c', hv, hnc, hr⟩ => ?_
  simp only [Value.slice.injEq, true_and] at hv
  obtain ⟨rfl, rfl⟩ := hv
  have hle : lo * s + k * s ≤ xs.length := by rw [hl, ← Nat.add_mul]; exact Nat.mul_le_mul_right _ h
  refine ⟨by simp; omega, _, _, rfl, by omega, ?_⟩
  rcases hr with rfl | ⟨b, o, cur, T, fr, rfl, hb, hr⟩
  · exact .inl (by simp)
  · by_cases hc : c = lo
    · left
      have : k = 0 := by omega
      subst this; simp
    · rw [if_neg hc]
      refine .inr ⟨b, o + lo * s, cur, T, fr, by simp [add_lit], hb, fun j hj => ?_⟩
      have hj' : j < k * s := by simp at hj; omega
      rw [List.getElem?_take, if_pos hj', List.getElem?_drop, Nat.add_assoc]
      exact hr _ (by omega)

theorem RdB.sub {lo k c : Nat} {a : Option Addr} {bs : List UInt8} (h : lo + k ≤ bs.length) :
    Ent (RdB (.slice a bs.length c) bs) (RdB (.slice (if c = lo then a else a.map (·.add lo)) k (c - lo)) ((bs.drop lo).take k)) := by
  have := Reads.sub (s := 1) (n := bs.length) (lo := lo) (k := k) (c := c) (a := a) (xs := bs.map bv) h
  have hk : ((bs.drop lo).take k).length = k := by simp; omega
  unfold RdB
  rw [hk]
  simpa [List.map_drop, List.map_take] using this

/-- What append leaves: the new row; and the old one reads on, in the same block or in its own. -/
def AppP (T : TypeId) (s : Nat) (v : Value) (n : Nat) (xs : List Value) (v' : Value) (m : Nat) (ys : List Value) : HP := fun h =>
  (Row T s v' m ys h ∧ Reads s v n xs h) ∨ (Row T s v' m ys * Row T s v n xs) h

theorem AppP.row (T : TypeId) (s : Nat) (v : Value) (n : Nat) (xs : List Value) (v' : Value) (m : Nat) (ys : List Value) : Ent (AppP T s v n xs v' m ys) (Row T s v' m ys) := fun h k => by
  rcases k with ⟨k, _⟩ | k
  · exact ⟨h, hle.rfl' h, k⟩
  · exact Ent.left _ _ h k
theorem AppP.old (T : TypeId) (s : Nat) (v : Value) (n : Nat) (xs : List Value) (v' : Value) (m : Nat) (ys : List Value) : Ent (AppP T s v n xs v' m ys) (Reads s v n xs) := fun h k => by
  rcases k with ⟨_, k⟩ | k
  · exact ⟨h, hle.rfl' h, k⟩
  · exact ((Ent.right _ _).trans (Row.reads _ _ _ _ _)) h k

theorem St.appendKeep {P : Program} {w0 w : World} {F : HP} {t tx ty e s bs : Nat} {zs : List Value} {v x : Value} {n m : Nat} {xs news : List Value} {K : Value → World → Prop} {θ : Tag K}
    (h : St w0 (Row e s v n xs * F) w) (ht : rowTy P t = some (e, s, bs, zs)) (hs : Src P s tx x m news w) (h63 : n + m ≤ maxLen) (hb : (n + m) * bs ≤ 140737488355328)
    (hK : ∀ v' w', St w0 (AppP e s v n xs v' (n + m) (xs ++ news) * F) w' → K v' w') : semD P (kAppend #[t, tx] ty #[v, x]) w K θ := by
  show semD P (Builtin.append_ #[t, tx] ty #[v, x]) w K θ
  obtain ⟨hu, i, z, hi, hz, rfl, rfl, hzs, rfl⟩ := rowTy_some ht
  obtain ⟨hh, hl, h1, h2, hd, l1, l2, hr, hf⟩ := h.sat
  have hnl : xs.length = n * i.size := hr.length
  have h63' : ((n + m : Nat) : Int) ≤ 9223372036854775807 := by simp only [maxLen] at h63; omega
  have grow : ∀ (base : Option Addr) (cap : Nat), v = .slice base n cap → cap < n + m → (Builtin.firstCells i.size n (.slice base n cap)).run P w.drew = .ok xs.toArray w.drew →
      semD P (Builtin.append_ #[t, tx] ty #[v, x]) w K θ := by
    intro base cap hv hc hold
    subst hv
    have := run_append_grow_src (P := P) w t tx ty e i z hu hi hz base n cap xs hold x m news hs hc h63' (growslice_fits hc hb)
    refine ⟨_, _, this, hK _ _ ?_⟩
    have hg := grownCap_ge w (n + m) cap e
    have hcm := grownCap_le_maxLen w (n + m) cap e h63
    refine (((St.drew h).alloc _).ac (sep_assoc _ _ _).symm).ent (Ent.sep ((Ent.sep (Ent.of fun k hk => .inr ⟨w.heap.size, grownCap w (n + m) cap e, _, rfl, hk, hg, hcm, ?_, ?_, ?_⟩) (Ent.rfl' _)).trans (Ent.of fun _ k => .inr k)) (Ent.rfl' F))
    · simp only [Array.size_append, List.size_toArray, List.length_append, size_zeroCells, hzs, hnl, hs.newsLen, ← Nat.add_mul]
      congr 1
      omega
    · have hlen : (xs ++ news).length = (n + m) * i.size := by rw [List.length_append, hnl, hs.newsLen, Nat.add_mul]
      simp only [Array.toList_append]
      rw [← hlen]
      exact List.take_left
    · rw [List.length_append, hnl, hs.newsLen, Nat.add_mul]
  rcases hr with ⟨rfl, rfl, rfl⟩ | ⟨g, cap, cur, rfl, hg, hnc, hcm, hcs, htake, _⟩
  · by_cases hm : m = 0
    · subst hm
      have hn : news = [] := List.eq_nil_of_length_eq_zero (by simpa using hs.newsLen)
      subst hn
      refine ⟨.slice none 0 0, w, ?_, hK _ _ (h.ent (Ent.sep (Ent.of fun k hk => .inl ⟨.inl ⟨rfl, rfl, rfl⟩, ?_⟩) (Ent.rfl' F)))⟩
      · rcases hs.kind with ⟨e', hk⟩ | hk <;>
          simp [Builtin.append_, run_underlying hu, run_underlying hk, sizeOf, typeInfo, hi, hs.len, hs.cells]
      · exact ⟨by simp, none, 0, rfl, Nat.le_refl _, .inl rfl⟩
    · exact grow none 0 rfl (by omega) (by simp [Builtin.firstCells])
  · have hgw : w.heap[g]? = some (.cells cur e (0, 0)) := hl g _ (l1 g _ hg)
    by_cases hroom : n + m ≤ cap
    · have hfit : n * i.size + news.length ≤ cur.size := by rw [hs.newsLen, hcs, ← Nat.add_mul]; exact Nat.mul_le_mul_right _ hroom
      have := run_append_room_src (P := P) w t tx ty e i hu hi g 0 n cap x m news hs hroom
        (fun j hj => by rw [Nat.zero_add, cell_of_heap hgw]; simp [show n * i.size + j < cur.size by omega]) (fun j _ => frozen_of_heap hgw _)
      refine ⟨_, _, this, hK _ _ ?_⟩
      obtain ⟨a1, a2, a3, a4, a5, a6⟩ := heap_setCells g e (0, 0) news (0 + n * i.size) w cur hgw
      refine h.turn (b := g) a4 a5 a6 (by omega) (fun k hk => ?_) (fun k hk _ => a2 k hk) ⟨fun k => if k = g then some (.cells (setRowL cur.toList (0 + n * i.size) news).toArray e (0, 0)) else none, fun k o he => ?_, fun k o he => ?_, ?_⟩
      · rcases hk with ⟨hv, _⟩ | ⟨g', cap', cur', hv, hk, _⟩
        · cases hv
        · simp only [Value.slice.injEq, Option.some.injEq, Addr.mk.injEq] at hv
          obtain ⟨⟨rfl, _⟩, _⟩ := hv
          exact ⟨_, hk⟩
      · by_cases hkg : k = g <;> simp_all
      · by_cases hkg : k = g
        · subst hkg
          simp only [if_true] at he
          exact a1.trans he
        · simp [hkg] at he
      · refine .inl ⟨.inr ⟨g, cap, (setRowL cur.toList (0 + n * i.size) news).toArray, rfl, if_pos rfl, by omega, hcm, by simp [length_setRowL, hcs], ?_, ?_⟩, hnl, some ⟨g, 0, none⟩, cap, rfl, hnc, .inr ⟨g, 0, (setRowL cur.toList (0 + n * i.size) news).toArray, e, (0, 0), rfl, if_pos rfl, fun j hj => ?_⟩⟩
        · have := take_setRowL (vs := news) (cs := cur.toList) (o := n * i.size) (by simpa using hfit)
          rw [Nat.zero_add, Nat.add_mul, ← hs.newsLen]
          simp only [this, htake]
        · rw [List.length_append, hnl, hs.newsLen, Nat.add_mul]
        · have := getElem?_setRowL_lt news cur.toList (0 + n * i.size) (0 + j) (by omega)
          rw [List.getElem?_toArray, this, Nat.zero_add, ← htake, List.getElem?_take, if_pos (by omega)]
    · refine grow (some ⟨g, 0, none⟩) cap rfl (by omega) ?_
      have hc : ∀ j u, xs[j]? = some u → w.drew.cell? ((⟨g, 0, none⟩ : Addr).add j) = some u := by
        intro j u hu
        rw [add_lit, Nat.zero_add]
        have : w.drew.cell? ⟨g, j, none⟩ = cur[j]? := cell_of_heap (w := w.drew) hgw j
        rw [this]
        rw [← htake, List.getElem?_take] at hu
        split at hu
        · simpa using hu
        · cases hu
      exact run_firstCells_some w.drew i.size n ⟨g, 0, none⟩ n cap xs hnl hc

/-! ### A slice out of a literal -/

def mkZeros (zs : List Value) (m : Nat) : List Value := (List.range m).map fun i => zs.toArray[i % zs.length]!

theorem St.buildSlice {P : Program} {w0 w : World} {F : HP} {t e s bs n : Nat} {zs cells : List Value} {parts : List (Nat × Value)} {K : Value → World → Prop} {θ : Tag K}
    (h : St w0 F w) (ht : rowTy P t = some (e, s, bs, zs)) (hf : fillL (fun i => some (i * s, s)) (mkZeros zs (n * s)) parts = some cells) (hsz : 0 < n * s) (hsz2 : n * s ≤ 16777216)
    (hK : ∀ v' w', St w0 (Row e s v' n cells * F) w' → K v' w') : semD P (kBuildSlice t n parts.toArray) w K θ := by
  show semD P (Instr.buildSlice t n parts.toArray) w K θ
  obtain ⟨hu, i, z, hi, hz, rfl, rfl, hzs, rfl⟩ := rowTy_some ht
  have hzero : (zeroValue e).run P w = .ok z w := by
    simp only [zeroValue, Sem.run_bind, run_typeInfo' hi, hz, Result.andThen_ok]; rfl
  have hfill := fill_eq (fun i' => some (i' * i.size, i.size)) parts (mkZeros z.cells.toList (n * i.size))
  rw [hf] at hfill
  have harr : (Array.range (n * i.size)).map (fun x => z.cells[x % z.cells.size]!) = (mkZeros z.cells.toList (n * i.size)).toArray := by
    apply Array.ext'
    simp [mkZeros]
  have hlen : cells.length = n * i.size := by
    have : ∀ (ps : List (Nat × Value)) (cs cs' : List Value), fillL (fun i' => some (i' * i.size, i.size)) cs ps = some cs' → cs'.length = cs.length := by
      intro ps
      induction ps with
      | nil => intro cs cs' h; simp only [fillL, Option.some.injEq] at h; rw [h]
      | cons p ps ih =>
        intro cs cs' h
        simp only [fillL] at h
        split at h
        · cases h
        · rw [ih _ _ h, length_setRowL]
    rw [this _ _ _ hf]; simp [mkZeros]
  have hrun : (Instr.buildSlice t n parts.toArray).run P w = .ok (.slice (some ⟨w.heap.size, 0, none⟩) n n) (w.alloc (.cells cells.toArray e)) := by
    unfold Instr.buildSlice
    simp only [Sem.run_bind, run_underlying' hu, Result.andThen_ok, run_sizeOf' hi, if_neg (show ¬ (n * i.size > 2 ^ 24) by omega), if_neg (show ¬ (n * i.size = 0) by omega), hzero, Sem.run_pure, harr, hfill, Option.map_some]
    rfl
  refine ⟨_, _, hrun, hK _ _ ((h.alloc _).ent (Ent.sep (Ent.of fun k hk => .inr ⟨w.heap.size, n, cells.toArray, rfl, hk, Nat.le_refl _, ?_, by simpa using hlen, ?_, hlen⟩) (Ent.rfl' F)))⟩
  · simp only [maxLen]
    have : 1 ≤ i.size := Nat.pos_of_mul_pos_left hsz |> fun h => by omega
    have := Nat.le_mul_of_pos_right n this
    omega
  · simp only [← hlen, List.take_length]

end Go.Proofs.YtmiohkmcnppaeaaGreatDoor

namespace Go.Proofs.YtmiohkmcnppaeaaGreatDoor
open Go

theorem cellsFrom_blk {w : World} {b : Nat} {arr : Array Value} {T : TypeId} {fr : Nat × Nat} (h : w.heap[b]? = some (.cells arr T fr)) (o : Nat) : ∀ (n i : Nat), o + i + n ≤ arr.size → cellsFrom w ⟨b, o, none⟩ i n = some ((arr.toList.drop (o + i)).take n)
  | 0, _, _ => by simp [cellsFrom]
  | n + 1, i, hn => by
    have ih := cellsFrom_blk h o n (i + 1) (by omega)
    have hlt : o + i < arr.size := by omega
    simp only [cellsFrom, add_lit, cell_of_heap h, Array.getElem?_eq_getElem hlt, ih]
    have : arr.toList.drop (o + i) = arr[o + i] :: arr.toList.drop (o + (i + 1)) := by
      have := List.drop_eq_getElem_cons (l := arr.toList) (i := o + i) (by simpa using hlt)
      simpa [Nat.add_assoc] using this
    rw [this, List.take_succ_cons]

theorem rowV_blk {w : World} {b : Nat} {arr : Array Value} {T : TypeId} {fr : Nat × Nat} (h : w.heap[b]? = some (.cells arr T fr)) {o n : Nat} (hn : o + n ≤ arr.size) : rowV w ⟨b, o, none⟩ n = some (.agg ((arr.toList.drop o).take n).toArray) := by
  unfold rowV
  have := cellsFrom_blk h o n 0 (by omega)
  rw [this]
  simp

/-- The whole of a block of one's own. -/
theorem St.row {w0 w : World} {b n : Nat} {arr : Array Value} {T : TypeId} {fr : Nat × Nat} {F : HP} (h : St w0 (Blk b (.cells arr T fr) * F) w) (hn : arr.size = n) : rowV w ⟨b, 0, none⟩ n = some (.agg arr) := by
  rw [rowV_blk h.blk (by omega), List.drop_zero, List.take_of_length_le (by simp; omega)]

theorem St.rowAt {w0 w : World} {b o n : Nat} {arr : Array Value} {T : TypeId} {fr : Nat × Nat} {F : HP} (h : St w0 (Blk b (.cells arr T fr) * F) w) (hn : o + n ≤ arr.size) : rowV w ⟨b, o, none⟩ n = some (.agg ((arr.toList.drop o).take n).toArray) := rowV_blk h.blk hn

/-- A row stored into a block of one's own. -/
theorem St.storeRow {w0 w : World} {F : HP} {c off n : Nat} {arr : Array Value} {cs : List Value} {T : TypeId} {K : World → Prop} {θ : Tag K} (h : St w0 (Blk c (.cells arr T (0, 0)) * F) w) (hn : cs.length = n) (hs : off + n ≤ arr.size) (hc : ∀ v ∈ cs, isCell v = true)
    (hK : ∀ w', St w0 (Blk c (.cells (setRowL arr.toList off cs).toArray T (0, 0)) * F) w' → K w') : storeD (some n) (.pointer (some ⟨c, off, none⟩)) (.agg cs.toArray) w K θ := by
  have key : ∀ (l : List Value) (i : Nat) (arr : Array Value) (w : World), (∀ v ∈ l, isCell v = true) → off + i + l.length ≤ arr.size → St w0 (Blk c (.cells arr T (0, 0)) * F) w →
      (∀ w', St w0 (Blk c (.cells (setRowL arr.toList (off + i) l).toArray T (0, 0)) * F) w' → K w') → stD w ⟨c, off, none⟩ K i l := by
    intro l
    induction l with
    | nil => intro i arr w _ _ h hK; exact hK _ (by simpa [setRowL] using h)
    | cons v l ih =>
      intro i arr w hc hs h hK
      simp only [List.length_cons] at hs
      refine ⟨⟨?_, ?_⟩, ?_⟩
      · rw [add_lit, h.cells]; simp; omega
      · rw [add_lit]; exact h.thaw _
      · rw [add_lit]
        refine ih (i + 1) (arr.setIfInBounds (off + i) v) _ (fun u hu => hc u (by simp [hu])) (by simp; omega) (h.setCell (off + i) v) fun w' h' => hK w' ?_
        simpa [setRowL, Nat.add_assoc] using h'
  refine ⟨⟨by simp [Value.cells, hn], by simpa [Value.cells] using hc⟩, ?_⟩
  have := key cs 0 arr w hc (by omega) h (by simpa using hK)
  simpa [Value.cells] using this

theorem setRowL_all {cs : List Value} : ∀ (vs : List Value), vs.length = cs.length → setRowL cs 0 vs = vs := by
  intro vs hv
  have := take_setRowL (vs := vs) (cs := cs) (o := 0) (by omega)
  rw [List.take_zero, List.nil_append, Nat.zero_add] at this
  rw [List.take_of_length_le (by rw [length_setRowL]; omega)] at this
  exact this

/-- A variable of one's own is written over. -/
theorem St.storeAll {w0 w : World} {F : HP} {c n : Nat} {arr : Array Value} {cs : List Value} {T : TypeId} {K : World → Prop} {θ : Tag K} (h : St w0 (Blk c (.cells arr T (0, 0)) * F) w) (hn : cs.length = n) (hs : arr.size = n) (hc : ∀ v ∈ cs, isCell v = true)
    (hK : ∀ w', St w0 (Blk c (.cells cs.toArray T (0, 0)) * F) w' → K w') : storeD (some n) (.pointer (some ⟨c, 0, none⟩)) (.agg cs.toArray) w K θ :=
  h.storeRow hn (by omega) hc fun w' h' => hK w' (by rwa [setRowL_all cs (by simp; omega)] at h')

end Go.Proofs.YtmiohkmcnppaeaaGreatDoor

namespace Go.Proofs.YtmiohkmcnppaeaaGreatDoor
open Go

section lists
variable {κ : Type} [DecidableEq κ]

def ixOf (x : κ) : List (κ × Value) → Nat → Option (Nat × Value)
  | [], _ => none
  | (y, v) :: l, i => if x = y then some (i, v) else ixOf x l (i + 1)
def lk (x : κ) : List (κ × Value) → Option Value
  | [] => none
  | (y, v) :: l => if x = y then some v else lk x l
def upd (x : κ) (v : Value) : List (κ × Value) → List (κ × Value)
  | [] => [(x, v)]
  | (y, u) :: l => if x = y then (x, v) :: l else (y, u) :: upd x v l
def del (x : κ) : List (κ × Value) → List (κ × Value)
  | [] => []
  | (y, u) :: l => if x = y then l else (y, u) :: del x l

theorem ixOf_lk (x : κ) : ∀ (l : List (κ × Value)) (i : Nat), (ixOf x l i).map (·.2) = lk x l
  | [], _ => rfl
  | (y, v) :: l, i => by
    simp only [ixOf, lk]
    split
    · rfl
    · exact ixOf_lk x l (i + 1)

theorem ixOf_none (x : κ) : ∀ (l : List (κ × Value)) (i : Nat) (v : Value), ixOf x l i = none → upd x v l = l ++ [(x, v)] ∧ del x l = l ∧ x ∉ l.map (·.1)
  | [], _, _, _ => ⟨rfl, rfl, by simp⟩
  | (y, u) :: l, i, v, h => by
    simp only [ixOf] at h
    split at h
    · cases h
    · rename_i hne
      obtain ⟨a, b, c⟩ := ixOf_none x l (i + 1) v h
      refine ⟨by simp [upd, hne, a], by simp [del, hne, b], ?_⟩
      simp only [List.map_cons, List.mem_cons, not_or]
      exact ⟨hne, c⟩

theorem ixOf_some (x : κ) : ∀ (l : List (κ × Value)) (i j : Nat) (u v : Value), ixOf x l i = some (j, u) → ∃ k, j = i + k ∧ l[k]? = some (x, u) ∧ upd x v l = l.set k (x, v) ∧ del x l = l.eraseIdx k
  | [], _, _, _, _, h => by cases h
  | (y, u') :: l, i, j, u, v, h => by
    simp only [ixOf] at h
    split at h
    · rename_i he
      subst he
      simp only [Option.some.injEq, Prod.mk.injEq] at h
      obtain ⟨rfl, rfl⟩ := h
      exact ⟨0, rfl, rfl, by simp [upd], by simp [del]⟩
    · rename_i hne
      obtain ⟨k, hk, h1, h2, h3⟩ := ixOf_some x l (i + 1) j u v h
      exact ⟨k + 1, by omega, by simpa using h1, by simp [upd, hne, h2], by simp [del, hne, h3]⟩

theorem upd_keys (x : κ) (v : Value) (l : List (κ × Value)) : (upd x v l).map (·.1) = if x ∈ l.map (·.1) then l.map (·.1) else l.map (·.1) ++ [x] := by
  induction l with
  | nil => simp [upd]
  | cons p l ih =>
    obtain ⟨y, u⟩ := p
    by_cases h : x = y
    · subst h; simp [upd]
    · simp only [upd, h, if_false, List.map_cons, ih, List.mem_cons, false_or]
      split <;> rfl
end lists

/-- Keys of a type: they are found by their being the same. -/
structure KeyLaw (P : Program) (kt : TypeId) {κ : Type} [DecidableEq κ] (enc : κ → Value) : Prop where
  check : ∀ (b : Bool) (w : World) (x : κ), (Instr.checkKey b 10000 kt (enc x)).run P w = .ok () w
  find : ∀ (w : World) (x : κ) (l : List MapEntry) (ks : List (κ × Value)), l.map (fun e => (e.key, e.val)) = ks.map (fun p => (enc p.1, p.2)) → (Instr.findKey kt (enc x) l).run P w = .ok (ixOf x ks 0) w
  same : ∀ x : κ, Instr.sameBits 10000 (enc x) (enc x) = true

theorem KeyLaw.int {P : Program} {kt : TypeId} {k : IntKind} (hu : P.underlying kt = some (.int k)) : KeyLaw P kt (fun n : Int => Value.int k n) := by
  refine ⟨fun b w x => MapKept.run_checkKey hu (by simp [MapKept.IsKey]) b 9999, fun w x l ks h => MapKept.run_findKey hu ?_, fun x => by simp [Instr.sameBits]⟩
  generalize 0 = i
  induction l generalizing ks i with
  | nil => cases ks with
    | nil => rfl
    | cons p ks => simp at h
  | cons e l ih => cases ks with
    | nil => simp at h
    | cons p ks =>
      simp only [List.map_cons, List.cons.injEq, Prod.mk.injEq] at h
      obtain ⟨⟨hk, hv⟩, h⟩ := h
      simp only [Instr.findNow, hk, Instr.sameNow, if_true, ixOf]
      by_cases hx : x = p.1
      · simp [hx, hv]
      · have : (x == p.1) = false := by simp [hx]
        simp only [this, if_neg hx]
        exact ih ks h (i + 1)

theorem KeyLaw.str {P : Program} {kt : TypeId} (hu : P.underlying kt = some .string) : KeyLaw P kt (fun s : ByteArray => Value.string s) := by
  refine ⟨fun b w x => MapKept.run_checkKey hu (by simp [MapKept.IsKey]) b 9999, fun w x l ks h => MapKept.run_findKey hu ?_, fun x => by simp [Instr.sameBits, MapKept.bytes_beq]⟩
  generalize 0 = i
  induction l generalizing ks i with
  | nil => cases ks with
    | nil => rfl
    | cons p ks => simp at h
  | cons e l ih => cases ks with
    | nil => simp at h
    | cons p ks =>
      simp only [List.map_cons, List.cons.injEq, Prod.mk.injEq] at h
      obtain ⟨⟨hk, hv⟩, h⟩ := h
      simp only [Instr.findNow, hk, Instr.sameNow, ixOf]
      by_cases hx : x = p.1
      · have : (x == p.1) = true := (MapKept.bytes_beq _ _).2 hx
        simp only [this, if_pos hx, hv]
      · have : (x == p.1) = false := by
          cases hb : x == p.1 with
          | false => rfl
          | true => exact (hx ((MapKept.bytes_beq _ _).1 hb)).elim
        simp only [this, if_neg hx]
        exact ih ks h (i + 1)

/-! ### Keys that are rows of plain cells -/

def ChkOk (P : Program) (em : Bool) (d : Nat) (T : TypeId) (ks : List Leaf) : Prop :=
  ∀ (w : World) (m : Nat) (xs : Array Value) (off : Nat) (b : Bool), leafEq ks ((xs.toList.drop off).take ks.length) ((xs.toList.drop off).take ks.length) = some b →
    ∃ u, (part T xs off).run P w = .ok u w ∧ (Instr.checkKey em (d + m) T u).run P w = .ok () w

theorem run_chkFs {P : Program} {em : Bool} {d : Nat} (ih : ∀ T ks, flatK P d T = some ks → (P.info? T).map (·.size) = some ks.length → ChkOk P em d T ks) (w : World) (m : Nat) (X : Array Value) :
    ∀ (fs : List Field) (o : Nat) (ks : List Leaf) (b : Bool), flatFs P (flatK P d) fs o = some ks → leafEq ks ((X.toList.drop o).take ks.length) ((X.toList.drop o).take ks.length) = some b →
      (forIn (m := Sem) fs PUnit.unit fun f _ => do
        if f.name ≠ "_" then Instr.checkKey em (d + m) f.type (← part f.type X f.offset)
        pure (ForInStep.yield PUnit.unit)).run P w = .ok PUnit.unit w
  | [], o, ks, b, h, hb => by simp
  | f :: fs, o, ks, b, h, hb => by
    unfold flatFs at h
    split at h
    · cases h
    · rename_i hn
      simp only [not_or, Decidable.not_not] at hn
      obtain ⟨hn, ho⟩ := hn
      split at h
      · cases h
      · rename_i ks1 hk
        split at h
        · rename_i hsz
          obtain ⟨ks2, h2, rfl⟩ := Option.map_eq_some_iff.1 h
          obtain ⟨b1, b2, e1, e2, rfl⟩ := leafEq_app ks1 ks2 _ _ b hb
          rw [List.take_take, List.length_append, Nat.min_eq_left (by omega)] at e1
          rw [List.drop_take, List.drop_drop, List.length_append, show ks1.length + ks2.length - ks1.length = ks2.length by omega] at e2
          obtain ⟨u, p1, p2⟩ := ih f.type ks1 hk hsz w m X o b1 e1
          have r := run_chkFs ih w m X fs (o + ks1.length) ks2 b2 h2 e2
          rw [ho.symm] at p1
          simp only [List.forIn_cons, Sem.run_bind, hn, ne_eq, not_false_eq_true, if_true, p1, p2, Result.andThen_ok, Sem.run_pure]
          exact r
        · cases h

theorem run_chkK {P : Program} {em : Bool} : ∀ (d : Nat) (T : TypeId) (ks : List Leaf), flatK P d T = some ks → (P.info? T).map (·.size) = some ks.length → ChkOk P em d T ks
  | 0, _, _, h, _ => by cases h
  | d + 1, T, ks, h, hs => by
    intro w m xs off b hb
    rw [show d + 1 + m = d + m + 1 by omega]
    unfold flatK at h
    split at h
    · rename_i k hu
      simp only [Option.some.injEq] at h
      subst h
      have hp : P.plainKey T = true := by simp [Program.plainKey, hu]
      obtain ⟨k1, x, y, e1, e2, rfl⟩ := leafEq_int hb
      exact ⟨_, run_part_plain w hp (getElem?_of_chunk e1), by simp [Instr.checkKey, run_underlying hu]⟩
    · rename_i hu
      simp only [Option.some.injEq] at h
      subst h
      have hp : P.plainKey T = true := by simp [Program.plainKey, hu]
      obtain ⟨x, y, e1, e2, rfl⟩ := leafEq_bool hb
      exact ⟨_, run_part_plain w hp (getElem?_of_chunk e1), by simp [Instr.checkKey, run_underlying hu]⟩
    · rename_i hu
      simp only [Option.some.injEq] at h
      subst h
      have hp : P.plainKey T = true := by simp [Program.plainKey, hu]
      obtain ⟨x, y, e1, e2, rfl⟩ := leafEq_str hb
      exact ⟨_, run_part_plain w hp (getElem?_of_chunk e1), by simp [Instr.checkKey, run_underlying hu]⟩
    · rename_i fs hu
      split at h
      · cases h
      · rename_i hst
        refine ⟨_, run_part_struct hu hs w xs off, ?_⟩
        have hx : ∀ zs : Array Value, ((zs.extract off (off + ks.length)).toList.drop 0).take ks.length = (zs.toList.drop off).take ks.length := by
          intro zs
          rw [Array.toList_extract, List.drop_zero, List.extract_eq_take_drop, Nat.add_sub_cancel_left, List.take_take, Nat.min_self]
        have r := run_chkFs (em := em) (run_chkK d) w m (xs.extract off (off + ks.length)) fs.toList 0 ks b h (by rw [hx]; exact hb)
        rw [Instr.checkKey]
        simp only [Sem.run_bind, run_underlying hu, Result.andThen_ok]
        rw [← Array.forIn_toList]
        simp at r ⊢
        rw [r]; rfl
    · cases h

theorem leafEq_plain : ∀ (ks : List Leaf) (l1 l2 : List Value) (b : Bool), leafEq ks l1 l2 = some b → l1.length = ks.length ∧ l2.length = ks.length ∧ ∀ v ∈ l1, ∀ m, Instr.sameBits m v v = true := by
  intro ks
  induction ks with
  | nil => intro l1 l2 b h; obtain ⟨rfl, rfl, _⟩ := leafEq_nil h; simp
  | cons k ks ih =>
    intro l1 l2 b h
    obtain ⟨b1, b2, h1, h2, _⟩ := leafEq_app [k] ks l1 l2 b h
    obtain ⟨e1, e2, e3⟩ := ih _ _ _ h2
    have : ∃ u v, l1.take 1 = [u] ∧ l2.take 1 = [v] ∧ ∀ m, Instr.sameBits m u u = true := by
      cases k
      · obtain ⟨_, _, _, e1, e2, _⟩ := leafEq_int h1; exact ⟨_, _, e1, e2, fun m => by simp [Instr.sameBits]⟩
      · obtain ⟨_, _, e1, e2, _⟩ := leafEq_bool h1; exact ⟨_, _, e1, e2, fun m => by simp [Instr.sameBits]⟩
      · obtain ⟨_, _, e1, e2, _⟩ := leafEq_str h1; exact ⟨_, _, e1, e2, fun m => by simp [Instr.sameBits, MapKept.bytes_beq]⟩
    obtain ⟨u, v, f1, f2, hs⟩ := this
    have g1 := congrArg List.length f1
    have g2 := congrArg List.length f2
    simp only [List.length_drop, List.length_cons, List.length_nil, List.length_take] at e1 e2 g1 g2 ⊢
    refine ⟨by omega, by omega, fun v hv m => ?_⟩
    rcases l1 with _ | ⟨x, l1⟩
    · simp at hv
    · simp only [List.take_succ_cons, List.take_zero, List.cons.injEq, and_true] at f1
      subst f1
      rcases List.mem_cons.1 hv with rfl | hv
      · exact hs m
      · exact e3 v (by simpa using hv) m

theorem KeyLaw.agg {P : Program} {kt : TypeId} {κ : Type} [DecidableEq κ] {enc : κ → List Value} {ks : List Leaf} (hk : flatE P kt = some ks) (he : ∀ x y : κ, leafEq ks (enc x) (enc y) = some (decide (x = y))) : KeyLaw P kt (fun x : κ => Value.agg (enc x).toArray) := by
  have hk' := hk
  unfold flatE at hk'
  split at hk' <;> try (cases hk'; done)
  rename_i fs hu
  split at hk' <;> try (cases hk'; done)
  have hk2 := hk'
  unfold flatK at hk2
  rw [hu] at hk2
  simp only at hk2
  split at hk2 <;> try (cases hk2; done)
  have hlen : ∀ x : κ, (enc x).length = ks.length := fun x => (leafEq_plain _ _ _ _ (he x x)).1
  refine ⟨fun b w x => ?_, fun w x l es h => ?_, fun x => ?_⟩
  · show (Instr.checkKey b (9999 + 1) kt (.agg (enc x).toArray)).run P w = .ok () w
    rw [Instr.checkKey]
    simp only [Sem.run_bind, run_underlying hu, Result.andThen_ok]
    rw [← Array.forIn_toList]
    have r := run_chkFs (em := b) (run_chkK 19) w 9980 (enc x).toArray fs.toList 0 ks _ hk2 (by rw [List.drop_zero, List.take_of_length_le (by simp [hlen])]; exact he x x)
    simp at r ⊢
    rw [r]; rfl
  · rw [run_findKey_eq w (by simp [hu])]
    generalize 0 = i
    induction l generalizing es i with
    | nil => cases es with
      | nil => simp [Instr.findAsking, ixOf]
      | cons p es => simp at h
    | cons e l ih => cases es with
      | nil => simp at h
      | cons p es =>
        simp only [List.map_cons, List.cons.injEq, Prod.mk.injEq] at h
        obtain ⟨⟨hkk, hv⟩, h⟩ := h
        have r := (run_aggEq (P := P) (T := kt) (xs := (enc x).toArray) (ys := (enc p.1).toArray) (b := decide (x = p.1)) (by rw [hk]; exact he x p.1) w).1
        simp only [Instr.findAsking, hkk, Sem.run_bind, r, Result.andThen_ok, ixOf]
        by_cases hx : x = p.1
        · simp [hx, hv]
        · simp only [hx, decide_false, Bool.false_eq_true, if_false]
          exact ih es h (i + 1)
  · show Instr.sameBits (9999 + 1) (.agg (enc x).toArray) (.agg (enc x).toArray) = true
    simp only [Instr.sameBits, beq_self_eq_true, Bool.true_and, List.all_eq_true]
    intro p hp
    obtain ⟨i, hi, e⟩ := List.getElem_of_mem hp
    rw [List.getElem_zip] at e
    rw [← e]
    exact (leafEq_plain _ _ _ _ (he x x)).2.2 _ (List.getElem_mem _) _

section maps
variable {κ : Type} {P : Program}

/-- What a map's block is: its entries in their order. -/
structure MapIs (enc : κ → Value) (es : Array MapEntry) (clock : Nat) (l : List (κ × Value)) : Prop where
  list : es.toList.map (fun e => (e.key, e.val)) = l.map (fun p => (enc p.1, p.2))
  born : ∀ e ∈ es.toList, e.born < clock
  nodup : (es.toList.map (·.born)).Nodup
  keys : (l.map (·.1)).Nodup

def MapE (enc : κ → Value) (b : Nat) (es : Array MapEntry) (clock : Nat) (l : List (κ × Value)) : HP := fun h => h b = some (.map es clock) ∧ MapIs enc es clock l
/-- The map b is one's own; its entries. -/
def MapP (enc : κ → Value) (b : Nat) (l : List (κ × Value)) : HP := fun h => ∃ es clock, MapE enc b es clock l h

theorem MapIs.length {enc : κ → Value} {es : Array MapEntry} {clock : Nat} {l : List (κ × Value)} (h : MapIs enc es clock l) : es.size = l.length := by
  have := congrArg List.length h.list
  simpa using this

theorem MapP.open {enc : κ → Value} {b : Nat} {l : List (κ × Value)} {w0 w : World} {F : HP} (h : St w0 (MapP enc b l * F) w) : ∃ es clock, St w0 (MapE enc b es clock l * F) w := by
  obtain ⟨x, hl, h1, h2, hd, l1, l2, ⟨es, clock, hm⟩, hf⟩ := h.sat
  exact ⟨es, clock, h.os, h.tape, h.output, h.drawn, h.size, x, hl, h1, h2, hd, l1, l2, hm, hf⟩
theorem MapE.shut (enc : κ → Value) (b : Nat) (es : Array MapEntry) (clock : Nat) (l : List (κ × Value)) : Ent (MapE enc b es clock l) (MapP enc b l) := Ent.of fun _ h => ⟨es, clock, h⟩
theorem MapE.heap {enc : κ → Value} {b : Nat} {es : Array MapEntry} {clock : Nat} {l : List (κ × Value)} {w0 w : World} {F : HP} (h : St w0 (MapE enc b es clock l * F) w) : w.heap[b]? = some (.map es clock) ∧ MapIs enc es clock l := by
  obtain ⟨x, hl, h1, h2, hd, l1, l2, ⟨hb, hm⟩, hf⟩ := h.sat
  exact ⟨hl _ _ (l1 _ _ hb), hm⟩

theorem MapP.turn {enc : κ → Value} {b : Nat} {es' : Array MapEntry} {clock' : Nat} {l l' : List (κ × Value)} {w0 w : World} {F : HP} (h : St w0 (MapP enc b l * F) w) (hm : MapIs enc es' clock' l') :
    St w0 (MapP enc b l' * F) { w with heap := w.heap.setIfInBounds b (.map es' clock') } := by
  obtain ⟨es, clock, h1⟩ := MapP.open h
  have hb := (MapE.heap h1).1
  obtain ⟨q1, q2⟩ := MapKept.heap_set (o' := .map es' clock') hb
  refine h.turn (b := b) rfl rfl rfl (by simp) (fun _ ⟨_, _, h, _⟩ => ⟨_, h⟩) (fun k hk _ => q2 k hk) ⟨fun k => if k = b then some (.map es' clock') else none, fun k o e => by by_cases hkb : k = b <;> simp_all, fun k o e => ?_, ⟨es', clock', by simp, hm⟩⟩
  by_cases hkb : k = b
  · subst hkb; simp only [if_true] at e; cases e; exact q1
  · simp [hkb] at e

theorem MapIs.nil (enc : κ → Value) (clock : Nat) : MapIs enc #[] clock [] := ⟨rfl, by simp, by simp, by simp⟩

theorem MapIs.push {enc : κ → Value} {es : Array MapEntry} {clock : Nat} {l : List (κ × Value)} (h : MapIs enc es clock l) {x : κ} (hx : x ∉ l.map (·.1)) (v : Value) :
    MapIs enc (es.push { key := enc x, val := v, born := clock }) (clock + 1) (l ++ [(x, v)]) := by
  refine ⟨by simp [h.list], ?_, ?_, ?_⟩
  · intro e he
    simp only [Array.toList_push, List.mem_append, List.mem_singleton] at he
    rcases he with he | rfl
    · exact Nat.lt_succ_of_lt (h.born e he)
    · exact Nat.lt_succ_self _
  · simp only [Array.toList_push, List.map_append, List.map_cons, List.map_nil]
    refine List.nodup_append.2 ⟨h.nodup, by simp, ?_⟩
    intro a ha b hb
    simp only [List.mem_singleton] at hb
    subst hb
    obtain ⟨e, he, rfl⟩ := List.mem_map.1 ha
    exact Nat.ne_of_lt (h.born e he)
  · simp only [List.map_append, List.map_cons, List.map_nil]
    refine List.nodup_append.2 ⟨h.keys, by simp, ?_⟩
    intro a ha b hb
    simp only [List.mem_singleton] at hb
    subst hb
    rintro rfl
    exact hx ha

theorem MapIs.set {enc : κ → Value} {es : Array MapEntry} {clock : Nat} {l : List (κ × Value)} (h : MapIs enc es clock l) {x : κ} {k : Nat} {u : Value} (hk : l[k]? = some (x, u)) (v : Value) :
    MapIs enc (es.modify k fun e => { e with key := enc x, val := v }) clock (l.set k (x, v)) := by
  have hborn : (es.modify k fun e => { e with key := enc x, val := v }).toList.map (·.born) = es.toList.map (·.born) := by
    apply List.ext_getElem?
    intro j
    simp only [List.getElem?_map, Array.getElem?_toList, Array.getElem?_modify]
    split
    · subst_vars; cases es[j]? <;> rfl
    · rfl
  refine ⟨?_, ?_, by rw [hborn]; exact h.nodup, ?_⟩
  · apply List.ext_getElem?
    intro j
    have hj := congrArg (fun l => l[j]?) h.list
    simp only [List.getElem?_map, Array.getElem?_toList, Array.getElem?_modify, List.getElem?_set] at hj ⊢
    split
    · rename_i hkj
      subst hkj
      have hlt : k < l.length := (List.getElem?_eq_some_iff.1 hk).1
      have hlt' : k < es.size := by rw [h.length]; exact hlt
      simp [hlt, hlt']
    · exact hj
  · intro e he
    have : e.born ∈ (es.modify k fun e => { e with key := enc x, val := v }).toList.map (·.born) := List.mem_map_of_mem he
    rw [hborn] at this
    obtain ⟨e', he', hb⟩ := List.mem_map.1 this
    rw [← hb]; exact h.born e' he'
  · have : (l.set k (x, v)).map (·.1) = l.map (·.1) := by
      apply List.ext_getElem?
      intro j
      simp only [List.getElem?_map, List.getElem?_set]
      split
      · rename_i hkj
        subst hkj
        have hlt : k < l.length := (List.getElem?_eq_some_iff.1 hk).1
        have := (List.getElem?_eq_some_iff.1 hk).2
        simp [hlt, this]
      · rfl
    rw [this]; exact h.keys

theorem MapIs.erase {enc : κ → Value} {es : Array MapEntry} {clock : Nat} {l : List (κ × Value)} (h : MapIs enc es clock l) {k : Nat} (hk : k < l.length) :
    MapIs enc (es.eraseIdxIfInBounds k) clock (l.eraseIdx k) := by
  have hlt : k < es.size := by rw [h.length]; exact hk
  have he : (es.eraseIdxIfInBounds k).toList = es.toList.eraseIdx k := by simp [Array.eraseIdxIfInBounds, hlt]
  have hmap : ∀ {α β : Type} (f : α → β) (l : List α) (k : Nat), (l.eraseIdx k).map f = (l.map f).eraseIdx k := by
    intro α β f l
    induction l with
    | nil => intro k; rfl
    | cons a l ih => intro k; cases k <;> simp [ih]
  refine ⟨by rw [he, hmap, hmap, h.list], ?_, ?_, ?_⟩
  · intro e hx
    rw [he] at hx
    exact h.born e (List.mem_of_mem_eraseIdx hx)
  · rw [he, hmap]; exact List.Nodup.sublist (List.eraseIdx_sublist _ _) h.nodup
  · rw [hmap]; exact List.Nodup.sublist (List.eraseIdx_sublist _ _) h.keys

/-- What a look-up hands out. -/
def lkV (z : Value) (ok : Bool) : Option Value → Value
  | some v => if ok = true then .tuple #[v, .bool true] else v
  | none => if ok = true then .tuple #[z, .bool false] else z
theorem lkV_some {z v : Value} : lkV z false (some v) = v := rfl
theorem lkV_none {z : Value} : lkV z false none = z := rfl
theorem lkV_someOk {z v : Value} : lkV z true (some v) = .tuple #[v, .bool true] := rfl
theorem lkV_noneOk {z : Value} : lkV z true none = .tuple #[z, .bool false] := rfl

theorem run_zeroV {t : TypeId} {z : Value} {w : World} (hz : zeroV P t = some z) : (zeroValue t).run P w = .ok z w := by
  unfold zeroV at hz
  obtain ⟨i, hi, hz⟩ := Option.bind_eq_some_iff.1 hz
  simp only [zeroValue, Sem.run_bind, run_typeInfo' hi, hz, Result.andThen_ok]
  rfl

theorem St.lookup [DecidableEq κ] {w0 w : World} {F : HP} {enc : κ → Value} {b : Nat} {l : List (κ × Value)} {T kt et : TypeId} {z : Value} {ok : Bool} {x : κ} {K : Value → Prop} {θ : Tag K} (h : St w0 (MapP enc b l * F) w) (hu : P.underlying T = some (.map kt et)) (law : KeyLaw P kt enc) (hz : zeroV P et = some z)
    (hK : K (lkV z ok (lk x l))) : readR P (kLookup T (.map (some b)) (enc x) ok) w K θ := by
  show readR P (Instr.lookup T (.map (some b)) (enc x) ok) w K θ
  obtain ⟨es, clock, h1⟩ := MapP.open h
  obtain ⟨hb, hm⟩ := MapE.heap h1
  refine ⟨_, ?_, hK⟩
  have hf := law.find w x es.toList l hm.list
  have hx := ixOf_lk x l 0
  unfold Instr.lookup
  cases hi : ixOf x l 0 with
  | none =>
    rw [hi] at hx hf
    simp only [Option.map_none] at hx
    rw [← hx]
    simp only [Sem.run_bind, run_underlying' hu, Result.andThen_ok, MapKept.run_getObj_map hb, Sem.run_pure, law.check, hf, run_zeroV hz]
    cases ok <;> rfl
  | some p =>
    rw [hi] at hx hf
    simp only [Option.map_some] at hx
    rw [← hx]
    simp only [Sem.run_bind, run_underlying' hu, Result.andThen_ok, MapKept.run_getObj_map hb, Sem.run_pure, law.check, hf]
    cases ok <;> rfl

/-- A look-up in a map that is nil. -/
theorem St.lookupNil [DecidableEq κ] {w : World} {enc : κ → Value} {T kt et : TypeId} {z : Value} {ok : Bool} {x : κ} {K : Value → Prop} {θ : Tag K} (hu : P.underlying T = some (.map kt et)) (law : KeyLaw P kt enc) (hz : zeroV P et = some z)
    (hK : K (lkV z ok none)) : readR P (kLookup T (.map none) (enc x) ok) w K θ := by
  show readR P (Instr.lookup T (.map none) (enc x) ok) w K θ
  refine ⟨_, ?_, hK⟩
  have hf := law.find w x [] [] rfl
  unfold Instr.lookup
  simp only [Sem.run_bind, run_underlying' hu, Result.andThen_ok, Sem.run_pure, law.check, hf, ixOf, run_zeroV hz]
  cases ok <;> rfl

theorem St.update [DecidableEq κ] {w0 w : World} {F : HP} {enc : κ → Value} {b : Nat} {l : List (κ × Value)} {T kt et : TypeId} {x : κ} {v : Value} {K : World → Prop} {θ : Tag K} (h : St w0 (MapP enc b l * F) w) (hu : P.underlying T = some (.map kt et)) (law : KeyLaw P kt enc)
    (hK : ∀ w', St w0 (MapP enc b (upd x v l) * F) w' → K w') : semU P (kMapUpdate T (.map (some b)) (enc x) v) w K θ := by
  show semU P (Instr.mapUpdate T (.map (some b)) (enc x) v) w K θ
  obtain ⟨es, clock, h1⟩ := MapP.open h
  obtain ⟨hb, hm⟩ := MapE.heap h1
  have hf := law.find w x es.toList l hm.list
  cases hi : ixOf x l 0 with
  | none =>
    obtain ⟨e1, _, e3⟩ := ixOf_none x l 0 v hi
    rw [hi] at hf
    refine ⟨{ w with heap := w.heap.setIfInBounds b (.map (es.push { key := enc x, val := v, born := clock }) (clock + 1)) }, ?_, hK _ ?_⟩
    · simp only [Instr.mapUpdate, Sem.run_bind, run_underlying' hu, Result.andThen_ok, MapKept.run_getObj_map hb, law.check, hf, MapKept.run_setObj_map _ hb]
    · rw [e1]; exact MapP.turn h (hm.push e3 v)
  | some p =>
    obtain ⟨j, u⟩ := p
    obtain ⟨k, hk, hg, e1, _⟩ := ixOf_some x l 0 j u v hi
    rw [Nat.zero_add] at hk
    subst hk
    rw [hi] at hf
    have hkey : ((es[j]?).map (·.key)).getD (enc x) = enc x := by
      have := congrArg (fun l => l[j]?) hm.list
      simp only [List.getElem?_map, hg, Option.map_some, Array.getElem?_toList] at this
      obtain ⟨e, he, hx⟩ := Option.map_eq_some_iff.1 this
      simp only [Prod.mk.injEq] at hx
      simp [he, hx.1]
    refine ⟨{ w with heap := w.heap.setIfInBounds b (.map (es.modify j fun e => { e with key := enc x, val := v }) clock) }, ?_, hK _ ?_⟩
    · simp only [Instr.mapUpdate, Sem.run_bind, run_underlying' hu, Result.andThen_ok, MapKept.run_getObj_map hb, law.check, hf, hkey, Instr.keyThatStays, law.same, if_true, Sem.run_pure, MapKept.run_setObj_map _ hb]
    · rw [e1]; exact MapP.turn h (hm.set hg v)

theorem St.delete [DecidableEq κ] {w0 w : World} {F : HP} {enc : κ → Value} {b : Nat} {l : List (κ × Value)} {T kt et ty kt' : TypeId} {x : κ} {K : Value → World → Prop} {θ : Tag K} (h : St w0 (MapP enc b l * F) w) (hu : P.underlying T = some (.map kt et)) (law : KeyLaw P kt enc)
    (hK : ∀ w', St w0 (MapP enc b (del x l) * F) w' → K (.tuple #[]) w') : semD P (kDelete #[T, kt'] ty #[.map (some b), enc x]) w K θ := by
  show semD P (Builtin.delete_ #[T, kt'] ty #[.map (some b), enc x]) w K θ
  obtain ⟨es, clock, h1⟩ := MapP.open h
  obtain ⟨hb, hm⟩ := MapE.heap h1
  have hf := law.find w x es.toList l hm.list
  cases hi : ixOf x l 0 with
  | none =>
    obtain ⟨_, e2, _⟩ := ixOf_none x l 0 undef hi
    rw [hi] at hf
    refine ⟨.tuple #[], { w with heap := w.heap.setIfInBounds b (.map es clock) }, ?_, hK _ ?_⟩
    · simp [Builtin.delete_, Sem.run_bind, run_underlying' hu, Result.andThen_ok, MapKept.run_getObj_map hb, law.check, hf, MapKept.run_setObj_map _ hb]
    · rw [e2]; exact MapP.turn h hm
  | some p =>
    obtain ⟨j, u⟩ := p
    obtain ⟨k, hk, hg, _, e2⟩ := ixOf_some x l 0 j u undef hi
    rw [Nat.zero_add] at hk
    subst hk
    rw [hi] at hf
    refine ⟨.tuple #[], { w with heap := w.heap.setIfInBounds b (.map (es.eraseIdxIfInBounds j) clock) }, ?_, hK _ ?_⟩
    · simp [Builtin.delete_, Sem.run_bind, run_underlying' hu, Result.andThen_ok, MapKept.run_getObj_map hb, law.check, hf, MapKept.run_setObj_map _ hb]
    · rw [e2]; exact MapP.turn h (hm.erase (List.getElem?_eq_some_iff.1 hg).1)

theorem St.clearMap {w0 w : World} {F : HP} {enc : κ → Value} {b : Nat} {l : List (κ × Value)} {T kt et ty : TypeId} {K : Value → World → Prop} {θ : Tag K} (h : St w0 (MapP enc b l * F) w) (hu : P.underlying T = some (.map kt et))
    (hK : ∀ w', St w0 (MapP enc b [] * F) w' → K (.tuple #[]) w') : semD P (kClear #[T] ty #[.map (some b)]) w K θ := by
  show semD P (Builtin.clear_ #[T] ty #[.map (some b)]) w K θ
  obtain ⟨es, clock, h1⟩ := MapP.open h
  obtain ⟨hb, hm⟩ := MapE.heap h1
  refine ⟨.tuple #[], { w with heap := w.heap.setIfInBounds b (.map #[] clock) }, ?_, hK _ (MapP.turn h (MapIs.nil enc clock))⟩
  simp [Builtin.clear_, Sem.run_bind, run_underlying' hu, Result.andThen_ok, MapKept.run_getObj_map hb, MapKept.run_setObj_map _ hb]

theorem St.lenMap {w0 w : World} {F : HP} {enc : κ → Value} {b : Nat} {l : List (κ × Value)} {T kt et ty : TypeId} {K : Value → Prop} {θ : Tag K} (h : St w0 (MapP enc b l * F) w) (hu : P.underlying T = some (.map kt et))
    (hK : K (.int .i64 l.length)) : readR P (kLen #[T] ty #[.map (some b)]) w K θ := by
  show readR P (Builtin.len_ #[T] ty #[.map (some b)]) w K θ
  obtain ⟨es, clock, h1⟩ := MapP.open h
  obtain ⟨hb, hm⟩ := MapE.heap h1
  refine ⟨_, ?_, hK⟩
  simp [Builtin.len_, Sem.run_bind, run_underlying' hu, Result.andThen_ok, MapKept.run_getObj_map hb, hm.length, goInt]

theorem St.makeMap {w0 w : World} {F : HP} {enc : κ → Value} {T : TypeId} {K : Value → World → Prop} {θ : Tag K} (h : St w0 F w) (hK : ∀ b w', St w0 (MapP enc b [] * F) w' → K (.map (some b)) w') : semD P (kMakeMap T none) w K θ :=
  ⟨_, _, RowKit.run_makeMap T w, hK _ _ ((h.alloc _).ent (Ent.sep (Ent.of fun _ hb => ⟨#[], 0, hb, MapIs.nil enc 0⟩) (Ent.rfl' F)))⟩

/-! ### A map is gone through, in whatever order -/

/-- The map b, gone through by the iterator r: the entries that are left. -/
def RangeP (enc : κ → Value) (b r : Nat) (l left : List (κ × Value)) : HP := fun h => ∃ es clock seen, h b = some (.map es clock) ∧ h r = some (.mapIter (some b) clock seen clock) ∧ MapIs enc es clock l ∧
  (leftOf es seen).toList.map (fun e => (e.key, e.val)) = left.map (fun p => (enc p.1, p.2)) ∧ b ≠ r

end maps

end Go.Proofs.YtmiohkmcnppaeaaGreatDoor

namespace Go.Proofs.YtmiohkmcnppaeaaGreatDoor
open Go

/-- The slice value v owns the cells xs: n elements of s cells each, of type T, somewhere in a block of one's own. -/
def RowO (T : TypeId) (s : Nat) (v : Value) (n : Nat) (xs : List Value) : HP := fun h =>
  (v = .slice none 0 0 ∧ n = 0 ∧ xs = []) ∨
  ∃ g o cap cur, v = .slice (some ⟨g, o, none⟩) n cap ∧ h g = some (.cells cur T (0, 0)) ∧ n ≤ cap ∧ cap ≤ maxLen ∧ o + cap * s ≤ cur.size ∧ (cur.toList.drop o).take (n * s) = xs ∧ xs.length = n * s

theorem RowO.length {T s : Nat} {v : Value} {n : Nat} {xs : List Value} {h : Heap} (k : RowO T s v n xs h) : xs.length = n * s := by
  rcases k with ⟨_, rfl, rfl⟩ | ⟨_, _, _, _, _, _, _, _, _, _, hl⟩
  · simp
  · exact hl

theorem Row.rowO (T s : Nat) (v : Value) (n : Nat) (xs : List Value) : Ent (Row T s v n xs) (RowO T s v n xs) := by
  refine Ent.of fun h k => ?_
  rcases k with k | ⟨g, cap, cur, hv, hg, hn, hc, hs, ht, hl⟩
  · exact .inl k
  · exact .inr ⟨g, 0, cap, cur, hv, hg, hn, hc, by omega, by simpa using ht, hl⟩

theorem RowO.nil (T s : Nat) : ∀ h, RowO T s (.slice none 0 0) 0 [] h := fun _ => .inl ⟨rfl, rfl, rfl⟩
theorem Ent.nilRowO (T s : Nat) (F : HP) : Ent F (RowO T s (.slice none 0 0) 0 [] * F) :=
  (Ent.nilRow T s F).trans (Ent.sep (Row.rowO _ _ _ _ _) (Ent.rfl' _))

theorem RowO.form {w0 w : World} {T s : Nat} {v : Value} {n : Nat} {xs : List Value} {F : HP} (h : St w0 (RowO T s v n xs * F) w) : ∃ a c, v = .slice a n c ∧ xs.length = n * s ∧ n ≤ c ∧ c ≤ maxLen := by
  obtain ⟨_, _, h1, _, _, _, _, hr, _⟩ := h.sat
  rcases hr with ⟨rfl, rfl, rfl⟩ | ⟨g, o, cap, cur, rfl, _, hn, hm, _, _, hl⟩
  · exact ⟨_, _, rfl, by simp, Nat.le_refl _, by simp [maxLen]⟩
  · exact ⟨_, _, rfl, hl, hn, hm⟩

theorem RowO.reads (T s : Nat) (v : Value) (n : Nat) (xs : List Value) : Ent (RowO T s v n xs) (Reads s v n xs) := by
  refine Ent.of fun h k => ⟨k.length, ?_⟩
  rcases k with ⟨rfl, rfl, rfl⟩ | ⟨g, o, cap, cur, rfl, hg, hn, hc, hs, ht, hl⟩
  · exact ⟨none, 0, rfl, Nat.le_refl _, .inl rfl⟩
  · refine ⟨_, _, rfl, hn, .inr ⟨g, o, cur, T, (0, 0), rfl, hg, fun j hj => ?_⟩⟩
    rw [← ht, List.getElem?_take, if_pos (by omega)]
    simp

/-- A part of it: what lies about it is given up. -/
theorem RowO.cut {T s n lo k m c : Nat} {a : Option Addr} {xs : List Value} (h1 : lo + k ≤ n) (h2 : lo + k ≤ m) (h3 : m ≤ c) :
    Ent (RowO T s (.slice a n c) n xs) (RowO T s (.slice (if m = lo then a else a.map (·.add (lo * s))) k (m - lo)) k ((xs.drop (lo * s)).take (k * s))) := by
  refine Ent.of fun hp hr => ?_
  rcases hr with ⟨hv, rfl, rfl⟩ | ⟨g, o, cap, cur, hv, hg, hn, hc, hs, ht, hl⟩
  · simp only [Value.slice.injEq, true_and] at hv
    obtain ⟨rfl, rfl⟩ := hv
    have : lo = 0 ∧ k = 0 ∧ m = 0 := by omega
    obtain ⟨rfl, rfl, rfl⟩ := this
    exact .inl ⟨by simp, rfl, by simp⟩
  · simp only [Value.slice.injEq, true_and] at hv
    obtain ⟨rfl, rfl⟩ := hv
    have hms : m * s ≤ c * s := Nat.mul_le_mul_right _ h3
    have hxs : (xs.drop (lo * s)).take (k * s) = (cur.toList.drop (o + lo * s)).take (k * s) := by
      rw [← ht, List.drop_take, List.take_take, List.drop_drop, Nat.min_eq_left]
      rw [← Nat.sub_mul]
      exact Nat.mul_le_mul_right _ (by omega)
    have hl2 : ((xs.drop (lo * s)).take (k * s)).length = k * s := by
      have : lo * s + k * s ≤ n * s := by rw [← Nat.add_mul]; exact Nat.mul_le_mul_right _ h1
      simp; omega
    by_cases hm : m = lo
    · subst hm
      have hk : k = 0 := by omega
      subst hk
      rw [if_pos rfl]
      exact .inr ⟨g, o, 0, cur, by simp, hg, Nat.le_refl _, by simp [maxLen], by simp; omega, by simp, by simp⟩
    · rw [if_neg hm]
      refine .inr ⟨g, o + lo * s, m - lo, cur, by simp [add_lit], hg, by omega, by omega, ?_, hxs.symm, hl2⟩
      rw [Nat.sub_mul]
      have : lo * s ≤ m * s := Nat.mul_le_mul_right _ (by omega)
      omega

/-- append, to a row of one's own, from whatever source. -/
theorem St.appendO {P : Program} {w0 w : World} {F : HP} {t tx ty e s bs : Nat} {zs : List Value} {v x : Value} {n m : Nat} {xs news : List Value} {K : Value → World → Prop} {θ : Tag K}
    (h : St w0 (RowO e s v n xs * F) w) (ht : rowTy P t = some (e, s, bs, zs)) (hs : Src P s tx x m news w) (h63 : n + m ≤ maxLen) (hb : (n + m) * bs ≤ 140737488355328)
    (hK : ∀ v' w', St w0 (RowO e s v' (n + m) (xs ++ news) * F) w' → K v' w') : semD P (kAppend #[t, tx] ty #[v, x]) w K θ := by
  show semD P (Builtin.append_ #[t, tx] ty #[v, x]) w K θ
  obtain ⟨hu, i, z, hi, hz, rfl, rfl, hzs, rfl⟩ := rowTy_some ht
  obtain ⟨hh, hl, h1, h2, hd, l1, l2, hr, hf⟩ := h.sat
  have hnl : xs.length = n * i.size := RowO.length hr
  have h63' : ((n + m : Nat) : Int) ≤ 9223372036854775807 := by simp only [maxLen] at h63; omega
  have grow : ∀ (base : Option Addr) (cap : Nat), v = .slice base n cap → cap < n + m → (Builtin.firstCells i.size n (.slice base n cap)).run P w.drew = .ok xs.toArray w.drew →
      semD P (Builtin.append_ #[t, tx] ty #[v, x]) w K θ := by
    intro base cap hv hc hold
    subst hv
    have := run_append_grow_src (P := P) w t tx ty e i z hu hi hz base n cap xs hold x m news hs hc h63' (growslice_fits hc hb)
    refine ⟨_, _, this, hK _ _ ?_⟩
    have hg := grownCap_ge w (n + m) cap e
    have hcm := grownCap_le_maxLen w (n + m) cap e h63
    have hst : St w0 F w.drew := (St.drew h).right
    refine (hst.alloc _).ent (Ent.sep (Ent.of fun k hk => .inr ⟨w.heap.size, 0, grownCap w (n + m) cap e, _, rfl, hk, hg, hcm, ?_, ?_, ?_⟩) (Ent.rfl' F))
    · simp only [Array.size_append, List.size_toArray, List.length_append, size_zeroCells, hzs, hnl, hs.newsLen, ← Nat.add_mul]
      rw [Nat.zero_add]
      refine Nat.le_of_eq ?_
      congr 1
      omega
    · have hlen : (xs ++ news).length = (n + m) * i.size := by rw [List.length_append, hnl, hs.newsLen, Nat.add_mul]
      simp only [Array.toList_append, List.drop_zero]
      rw [← hlen]
      exact List.take_left
    · rw [List.length_append, hnl, hs.newsLen, Nat.add_mul]
  rcases hr with ⟨rfl, rfl, rfl⟩ | ⟨g, o, cap, cur, rfl, hg, hnc, hcm, hcs, htake, _⟩
  · by_cases hm : m = 0
    · subst hm
      have hn : news = [] := List.eq_nil_of_length_eq_zero (by simpa using hs.newsLen)
      subst hn
      refine ⟨.slice none 0 0, w, ?_, hK _ _ h⟩
      rcases hs.kind with ⟨e', hk⟩ | hk <;>
        simp [Builtin.append_, run_underlying hu, run_underlying hk, sizeOf, typeInfo, hi, hs.len, hs.cells]
    · exact grow none 0 rfl (by omega) (by simp [Builtin.firstCells])
  · have hgw : w.heap[g]? = some (.cells cur e (0, 0)) := hl g _ (l1 g _ hg)
    by_cases hroom : n + m ≤ cap
    · have hle : (n + m) * i.size ≤ cap * i.size := Nat.mul_le_mul_right _ hroom
      have hfit : o + n * i.size + news.length ≤ cur.size := by rw [hs.newsLen]; rw [Nat.add_mul] at hle; omega
      have := run_append_room_src (P := P) w t tx ty e i hu hi g o n cap x m news hs hroom
        (fun j hj => by rw [cell_of_heap hgw]; simp [show o + n * i.size + j < cur.size by omega]) (fun j _ => frozen_of_heap hgw _)
      refine ⟨_, _, this, hK _ _ ?_⟩
      obtain ⟨a1, a2, a3, a4, a5, a6⟩ := heap_setCells g e (0, 0) news (o + n * i.size) w cur hgw
      refine h.turn (b := g) a4 a5 a6 (by omega) (fun k hk => ?_) (fun k hk _ => a2 k hk) ⟨fun k => if k = g then some (.cells (setRowL cur.toList (o + n * i.size) news).toArray e (0, 0)) else none, fun k o he => ?_, fun k o he => ?_, ?_⟩
      · rcases hk with ⟨hv, _⟩ | ⟨g', o', cap', cur', hv, hk, _⟩
        · cases hv
        · simp only [Value.slice.injEq, Option.some.injEq, Addr.mk.injEq] at hv
          obtain ⟨⟨rfl, rfl, _⟩, _⟩ := hv
          exact ⟨_, hk⟩
      · by_cases hkg : k = g <;> simp_all
      · by_cases hkg : k = g
        · subst hkg
          simp only [if_true] at he
          exact a1.trans he
        · simp [hkg] at he
      · refine .inr ⟨g, o, cap, (setRowL cur.toList (o + n * i.size) news).toArray, rfl, if_pos rfl, by omega, hcm, by simp [length_setRowL, hcs], ?_, ?_⟩
        · have := take_setRowL (vs := news) (cs := cur.toList) (o := o + n * i.size) (by simpa using hfit)
          have h2 := congrArg (List.drop o) this
          rw [List.drop_take, List.drop_append_of_le_length (by simp; omega), List.drop_take, show o + n * i.size + news.length - o = (n + m) * i.size by rw [hs.newsLen, Nat.add_mul]; omega, show o + n * i.size - o = n * i.size by omega, htake] at h2
          exact h2
        · rw [List.length_append, hnl, hs.newsLen, Nat.add_mul]
    · refine grow (some ⟨g, o, none⟩) cap rfl (by omega) ?_
      have hc : ∀ j u, xs[j]? = some u → w.drew.cell? ((⟨g, o, none⟩ : Addr).add j) = some u := by
        intro j u hu
        rw [add_lit]
        have : w.drew.cell? ⟨g, o + j, none⟩ = cur[o + j]? := cell_of_heap (w := w.drew) hgw (o + j)
        rw [this]
        rw [← htake, List.getElem?_take] at hu
        split at hu
        · simpa [List.getElem?_drop] using hu
        · cases hu
      exact run_firstCells_some w.drew i.size n ⟨g, o, none⟩ n cap xs hnl hc


/-- append where there is room: the slice keeps its place. -/
theorem St.appendIn {P : Program} {w0 w : World} {F : HP} {t tx ty e s bs : Nat} {zs : List Value} {a : Addr} {cap : Nat} {x : Value} {n m : Nat} {xs news : List Value} {K : Value → World → Prop} {θ : Tag K}
    (h : St w0 (RowO e s (.slice (some a) n cap) n xs * F) w) (ht : rowTy P t = some (e, s, bs, zs)) (hs : Src P s tx x m news w) (hroom : n + m ≤ cap)
    (hK : ∀ w', St w0 (RowO e s (.slice (some a) (n + m) cap) (n + m) (xs ++ news) * F) w' → K (.slice (some a) (n + m) cap) w') : semD P (kAppend #[t, tx] ty #[.slice (some a) n cap, x]) w K θ := by
  show semD P (Builtin.append_ #[t, tx] ty #[.slice (some a) n cap, x]) w K θ
  obtain ⟨hu, i, z, hi, hz, rfl, rfl, hzs, rfl⟩ := rowTy_some ht
  obtain ⟨hh, hl, h1, h2, hd, l1, l2, hr, hf⟩ := h.sat
  have hnl : xs.length = n * i.size := RowO.length hr
  rcases hr with ⟨hv, _, _⟩ | ⟨g, o, cap', cur, hv, hg, hnc, hcm, hcs, htake, _⟩
  · simp at hv
  simp only [Value.slice.injEq, Option.some.injEq, true_and] at hv
  obtain ⟨rfl, rfl⟩ := hv
  have hgw : w.heap[g]? = some (.cells cur e (0, 0)) := hl g _ (l1 g _ hg)
  have hle : (n + m) * i.size ≤ cap * i.size := Nat.mul_le_mul_right _ hroom
  have hfit : o + n * i.size + news.length ≤ cur.size := by rw [hs.newsLen]; rw [Nat.add_mul] at hle; omega
  have := run_append_room_src (P := P) w t tx ty e i hu hi g o n cap x m news hs hroom
    (fun j hj => by rw [cell_of_heap hgw]; simp [show o + n * i.size + j < cur.size by omega]) (fun j _ => frozen_of_heap hgw _)
  refine ⟨_, _, this, hK _ ?_⟩
  obtain ⟨a1, a2, a3, a4, a5, a6⟩ := heap_setCells g e (0, 0) news (o + n * i.size) w cur hgw
  refine h.turn (b := g) a4 a5 a6 (by omega) (fun k hk => ?_) (fun k hk _ => a2 k hk) ⟨fun k => if k = g then some (.cells (setRowL cur.toList (o + n * i.size) news).toArray e (0, 0)) else none, fun k o he => ?_, fun k o he => ?_, ?_⟩
  · rcases hk with ⟨hv, _⟩ | ⟨g', o', cap', cur', hv, hk, _⟩
    · cases hv
    · simp only [Value.slice.injEq, Option.some.injEq, Addr.mk.injEq] at hv
      obtain ⟨⟨rfl, rfl, _⟩, _⟩ := hv
      exact ⟨_, hk⟩
  · by_cases hkg : k = g <;> simp_all
  · by_cases hkg : k = g
    · subst hkg
      simp only [if_true] at he
      exact a1.trans he
    · simp [hkg] at he
  · refine .inr ⟨g, o, cap, (setRowL cur.toList (o + n * i.size) news).toArray, rfl, if_pos rfl, by omega, hcm, by simp [length_setRowL, hcs], ?_, ?_⟩
    · have := take_setRowL (vs := news) (cs := cur.toList) (o := o + n * i.size) (by simpa using hfit)
      have h2 := congrArg (List.drop o) this
      rw [List.drop_take, List.drop_append_of_le_length (by simp; omega), List.drop_take, show o + n * i.size + news.length - o = (n + m) * i.size by rw [hs.newsLen, Nat.add_mul]; omega, show o + n * i.size - o = n * i.size by omega, htake] at h2
      exact h2
    · rw [List.length_append, hnl, hs.newsLen, Nat.add_mul]

theorem mem_zeroCells {cs : Array Value} {n : Nat} {v : Value} (h : v ∈ (Builtin.zeroCells cs n).toList) : v ∈ cs.toList := by
  simp only [Builtin.zeroCells, Array.toList_map, List.mem_map] at h
  obtain ⟨i, hi, rfl⟩ := h
  have hpos : 0 < cs.size := by
    rcases Nat.eq_zero_or_pos cs.size with h0 | h0
    · simp [h0] at hi
    · exact h0
  have hlt := Nat.mod_lt i hpos
  rw [getElem!_pos cs _ hlt]
  simp

/-- clear behind the elements that count. -/
theorem St.clearTail {P : Program} {w0 w : World} {F : HP} {t ty e s bs : Nat} {zs : List Value} {g o cap n k m c : Nat} {xs : List Value} {K : Value → World → Prop} {θ : Tag K}
    (h : St w0 (RowO e s (.slice (some ⟨g, o, none⟩) n cap) n xs * F) w) (ht : rowTy P t = some (e, s, bs, zs)) (hz : ∀ v ∈ zs, isCell v = true) (hk : n ≤ k) (hm : k + m ≤ cap) (hm0 : 0 < m)
    (hK : ∀ w', St w0 (RowO e s (.slice (some ⟨g, o, none⟩) n cap) n xs * F) w' → K (.tuple #[]) w') : semD P (kClear #[t] ty #[.slice (some ⟨g, o + k * s, none⟩) m c]) w K θ := by
  show semD P (Builtin.clear_ #[t] ty #[.slice (some ⟨g, o + k * s, none⟩) m c]) w K θ
  obtain ⟨hu, i, z, hi, hzz, rfl, rfl, hzs, rfl⟩ := rowTy_some ht
  obtain ⟨hh, hl, h1, h2, hd, l1, l2, hr, hf⟩ := h.sat
  rcases hr with ⟨hv, _, _⟩ | ⟨g', o', cap', cur, hv, hg, hnc, hcm, hcs, htake, hxl⟩
  · simp at hv
  simp only [Value.slice.injEq, Option.some.injEq, Addr.mk.injEq, true_and, and_true] at hv
  obtain ⟨⟨rfl, rfl⟩, rfl⟩ := hv
  have hgw : w.heap[g]? = some (.cells cur e (0, 0)) := hl g _ (l1 g _ hg)
  have hzero : (zeroValue e).run P w = .ok z w := by
    simp only [zeroValue, Sem.run_bind, run_typeInfo' hi, hzz, Result.andThen_ok]; rfl
  have hlen : (Builtin.zeroCells z.cells m).toList.length = m * i.size := by rw [Array.length_toList, size_zeroCells, hzs]
  have hkm : (k + m) * i.size ≤ cap * i.size := Nat.mul_le_mul_right _ hm
  have hnk : n * i.size ≤ k * i.size := Nat.mul_le_mul_right _ hk
  rw [Nat.add_mul] at hkm
  have hst := run_storeCells_cells (P := P) g (o + k * i.size) (Builtin.zeroCells z.cells m).toList 0 w (fun j hj => by rw [cell_of_heap hgw]; simp; omega) (fun j _ => frozen_of_heap hgw _) (fun v hv => by rw [← isCell_eq]; exact hz v (mem_zeroCells hv))
  simp only [Nat.add_zero] at hst
  obtain ⟨m', rfl⟩ : ∃ m', m = m' + 1 := ⟨m - 1, by omega⟩
  refine ⟨.tuple #[], w.setCells g (o + k * i.size) (Builtin.zeroCells z.cells (m' + 1)).toList, ?_, hK _ ?_⟩
  · simp [Builtin.clear_, run_underlying hu, hzero, hst]
  · obtain ⟨a1, a2, a3, a4, a5, a6⟩ := heap_setCells g e (0, 0) (Builtin.zeroCells z.cells (m' + 1)).toList (o + k * i.size) w cur hgw
    refine h.turn (b := g) a4 a5 a6 (by omega) (fun k hk => ?_) (fun k hk _ => a2 k hk) ⟨fun k' => if k' = g then some (.cells (setRowL cur.toList (o + k * i.size) (Builtin.zeroCells z.cells (m' + 1)).toList).toArray e (0, 0)) else none, fun k o he => ?_, fun k o he => ?_, ?_⟩
    · rcases hk with ⟨hv, _⟩ | ⟨g', o', cap', cur', hv, hk, _⟩
      · cases hv
      · simp only [Value.slice.injEq, Option.some.injEq, Addr.mk.injEq] at hv
        obtain ⟨⟨rfl, rfl, _⟩, _⟩ := hv
        exact ⟨_, hk⟩
    · by_cases hkg : k = g <;> simp_all
    · by_cases hkg : k = g
      · subst hkg
        simp only [if_true] at he
        exact a1.trans he
      · simp [hkg] at he
    · refine .inr ⟨g, o, cap, (setRowL cur.toList (o + k * i.size) (Builtin.zeroCells z.cells (m' + 1)).toList).toArray, rfl, if_pos rfl, hnc, hcm, by simp [length_setRowL, hcs], ?_, hxl⟩
      rw [← htake]
      apply List.ext_getElem?
      intro j
      simp only [List.getElem?_take, List.getElem?_drop]
      split
      · exact getElem?_setRowL_lt _ _ _ _ (by omega)
      · rfl

end Go.Proofs.YtmiohkmcnppaeaaGreatDoor

namespace Go.Proofs.YtmiohkmcnppaeaaGreatDoor
open Go
set_option linter.unusedVariables false

/-- What a part is about. -/
inductive Key where
  | blk (b : Nat)
  | row (v : Value)
  | map (b : Nat)
  | obj (b : Nat)

class Face (k : Key) (X : HP) : Prop
instance (b : Nat) (o : Obj) : Face (.blk b) (Blk b o) := ⟨⟩
instance (T s : Nat) (v : Value) (n : Nat) (xs : List Value) : Face (.row v) (RowO T s v n xs) := ⟨⟩
instance (T s : Nat) (v : Value) (n : Nat) (xs : List Value) : Face (.row v) (Row T s v n xs) := ⟨⟩
instance {κ : Type} (enc : κ → Value) (b : Nat) (l : List (κ × Value)) : Face (.map b) (MapP enc b l) := ⟨⟩

/-- A has the part X, about k; with Y in X's place it is C Y. -/
class Hole (k : Key) (A : HP) (X : outParam HP) (C : outParam (HP → HP)) : Prop where
  eq : A = C X
  fr : ∃ R, ∀ Y, C Y = Y * R

section holes
variable {k : Key} {A B X F : HP} {C : HP → HP}
instance (priority := 1300) Hole.l [Face k X] : Hole k (X * F) X (fun Y => Y * F) := ⟨rfl, F, fun _ => rfl⟩
instance (priority := 1200) Hole.r [Face k X] : Hole k (F * X) X (fun Y => F * Y) := ⟨rfl, F, fun Y => sep_comm F Y⟩
instance (priority := 1100) Hole.dr [i : Hole k B X C] : Hole k (A * B) X (fun Y => A * C Y) :=
  ⟨congrArg (A * ·) i.eq, by obtain ⟨R, h⟩ := i.fr; exact ⟨A * R, fun Y => by rw [h]; ac_rfl⟩⟩
instance Hole.dl [i : Hole k A X C] : Hole k (A * B) X (fun Y => C Y * B) :=
  ⟨congrArg (· * B) i.eq, by obtain ⟨R, h⟩ := i.fr; exact ⟨R * B, fun Y => by rw [h]; ac_rfl⟩⟩
end holes

/-- The part about k, taken out of A; the rest. -/
class Take (k : Key) (A : HP) (X R : outParam HP) : Prop where
  eq : A = X * R
section take
variable {k : Key} {A B X F R : HP}
instance (priority := 1300) Take.l [Face k X] : Take k (X * F) X F := ⟨rfl⟩
instance (priority := 1200) Take.r [Face k X] : Take k (F * X) X F := ⟨sep_comm F X⟩
instance (priority := 1100) Take.dr [i : Take k B X R] : Take k (A * B) X (A * R) := ⟨by rw [i.eq]; ac_rfl⟩
instance Take.dl [i : Take k A X R] : Take k (A * B) X (R * B) := ⟨by rw [i.eq]; ac_rfl⟩
end take

/-- What is true of A's memory is true of a part that B tells of. -/
class Gives (A B : HP) : Prop where
  ent : Ent A B
section gives
variable {A B X : HP}
instance (priority := 1300) Gives.rfl' : Gives A A := ⟨Ent.rfl' A⟩
instance (priority := 1200) Gives.l [i : Gives A X] : Gives (A * B) X := ⟨(Ent.left A B).trans i.ent⟩
instance (priority := 1100) Gives.r [i : Gives B X] : Gives (A * B) X := ⟨(Ent.right A B).trans i.ent⟩
instance (T s : Nat) (v : Value) (n : Nat) (xs : List Value) : Gives (RowO T s v n xs) (Reads s v n xs) := ⟨RowO.reads T s v n xs⟩
instance (T s : Nat) (v : Value) (n : Nat) (xs : List Value) : Gives (Row T s v n xs) (Reads s v n xs) := ⟨Row.reads T s v n xs⟩
end gives

/-- X is taken out of A; the rest. -/
class Pull (A X : HP) (R : outParam HP) : Prop where
  eq : A = X * R
section pull
variable {A B X F R : HP}
instance (priority := 1300) Pull.l : Pull (X * F) X F := ⟨rfl⟩
instance (priority := 1200) Pull.r : Pull (F * X) X F := ⟨sep_comm F X⟩
instance (priority := 1100) Pull.dr [i : Pull B X R] : Pull (A * B) X (A * R) := ⟨by rw [i.eq]; ac_rfl⟩
instance Pull.dl [i : Pull A X R] : Pull (A * B) X (R * B) := ⟨by rw [i.eq]; ac_rfl⟩
end pull

/-- B is a part of A, as the parts stand there. -/
class Sub (A B : HP) : Prop where
  ent : Ent A B
section sub
variable {A B X R : HP}
instance (priority := 1300) Sub.rfl' : Sub A A := ⟨Ent.rfl' A⟩
instance (priority := 1200) Sub.star [i : Pull A X R] [j : Sub R B] : Sub A (X * B) := ⟨by rw [i.eq]; exact Ent.sep (Ent.rfl' X) j.ent⟩
instance (priority := 1100) Sub.base [i : Pull A X R] : Sub A X := ⟨by rw [i.eq]; exact Ent.left X R⟩
end sub

section ops
variable {P : Program} {w0 w : World} {A F X : HP} {C : HP → HP}

theorem St.sub {B : HP} (h : St w0 A w) [i : Sub A B] : St w0 B w := h.ent i.ent
theorem St.gives {B : HP} (h : St w0 A w) [i : Gives A B] : St w0 B w := h.ent i.ent

/-- The part about k to the front. -/
theorem St.take {R : HP} (h : St w0 A w) (k : Key) [i : Take k A X R] : St w0 (X * R) w := h.ac i.eq

/-- The part about k, taken out; whatever comes back goes into its place. -/
theorem St.out (h : St w0 A w) (k : Key) [i : Hole k A X C] : ∃ R, (∀ Y, C Y = Y * R) ∧ St w0 (X * R) w := by
  obtain ⟨R, hR⟩ := i.fr
  exact ⟨R, hR, h.ac (by rw [i.eq, hR])⟩

/-- The part about k becomes something that it entails. -/
theorem St.turnTo {Y : HP} (h : St w0 A w) (k : Key) [i : Hole k A X C] (e : Ent X Y) : St w0 (C Y) w := by
  obtain ⟨R, hR, h'⟩ := h.out k
  rw [hR]
  exact h'.ent (Ent.sep e (Ent.rfl' R))

theorem St.outEx {α : Type} {Y : α → HP} (h : St w0 A w) (k : Key) [i : Hole k A (HP.ex Y) C] : ∃ x, St w0 (C (Y x)) w := by
  obtain ⟨R, hR, h'⟩ := h.out k
  obtain ⟨x, hx⟩ := h'.exF
  exact ⟨x, by rw [hR]; exact hx⟩

theorem St.cl (h : St w0 A w) : ∀ (b : Nat) {arr : Array Value} {T : TypeId} {fr : Nat × Nat} {C : HP → HP} [Hole (.blk b) A (Blk b (.cells arr T fr)) C] (i : Nat), w.cell? ⟨b, i, none⟩ = arr[i]? := by
  intro b arr T fr C _ i
  obtain ⟨R, hR, h'⟩ := h.out (.blk b)
  exact h'.cells i

theorem St.rowH (h : St w0 A w) (b n : Nat) {arr : Array Value} {T : TypeId} {fr : Nat × Nat} {C : HP → HP} [Hole (.blk b) A (Blk b (.cells arr T fr)) C] (hn : arr.size = n) : rowV w ⟨b, 0, none⟩ n = some (.agg arr) := by
  obtain ⟨R, hR, h'⟩ := h.out (.blk b)
  exact h'.row hn

theorem St.rowAtH (h : St w0 A w) (b o n : Nat) {arr : Array Value} {T : TypeId} {fr : Nat × Nat} {C : HP → HP} [Hole (.blk b) A (Blk b (.cells arr T fr)) C] (hn : o + n ≤ arr.size) : rowV w ⟨b, o, none⟩ n = some (.agg ((arr.toList.drop o).take n).toArray) := by
  obtain ⟨R, hR, h'⟩ := h.out (.blk b)
  exact h'.rowAt hn

theorem St.sto {b off : Nat} {arr : Array Value} {T : TypeId} {v : Value} {K : World → Prop} {θ : Tag K} (h : St w0 A w) [i : Hole (.blk b) A (Blk b (.cells arr T (0, 0))) C] (hi : off < arr.size) (hv : isCell v = true)
    (hK : ∀ w', St w0 (C (Blk b (.cells (arr.setIfInBounds off v) T (0, 0)))) w' → K w') : storeD (some 1) (.pointer (some ⟨b, off, none⟩)) v w K θ := by
  obtain ⟨R, hR, h'⟩ := h.out (.blk b)
  exact h'.store rfl hi hv fun w' hw => hK w' (by rw [hR]; exact hw)

theorem St.stoRow {b off n : Nat} {arr : Array Value} {cs : List Value} {T : TypeId} {K : World → Prop} {θ : Tag K} (h : St w0 A w) [i : Hole (.blk b) A (Blk b (.cells arr T (0, 0))) C] (hn : cs.length = n) (hs : off + n ≤ arr.size) (hc : ∀ v ∈ cs, isCell v = true)
    (hK : ∀ w', St w0 (C (Blk b (.cells (setRowL arr.toList off cs).toArray T (0, 0)))) w' → K w') : storeD (some n) (.pointer (some ⟨b, off, none⟩)) (.agg cs.toArray) w K θ := by
  obtain ⟨R, hR, h'⟩ := h.out (.blk b)
  exact h'.storeRow hn hs hc fun w' hw => hK w' (by rw [hR]; exact hw)

theorem St.stoAll {b n : Nat} {arr : Array Value} {cs : List Value} {T : TypeId} {K : World → Prop} {θ : Tag K} (h : St w0 A w) [i : Hole (.blk b) A (Blk b (.cells arr T (0, 0))) C] (hn : cs.length = n) (hs : arr.size = n) (hc : ∀ v ∈ cs, isCell v = true)
    (hK : ∀ w', St w0 (C (Blk b (.cells cs.toArray T (0, 0)))) w' → K w') : storeD (some n) (.pointer (some ⟨b, 0, none⟩)) (.agg cs.toArray) w K θ := by
  obtain ⟨R, hR, h'⟩ := h.out (.blk b)
  exact h'.storeAll hn hs hc fun w' hw => hK w' (by rw [hR]; exact hw)

theorem St.nilR (h : St w0 A w) (T s : Nat) : St w0 (RowO T s (.slice none 0 0) 0 [] * A) w := h.ent (Ent.nilRowO T s A)

theorem St.rowForm (h : St w0 A w) (v : Value) {T s n : Nat} {xs : List Value} [i : Hole (.row v) A (RowO T s v n xs) C] : ∃ a c, v = .slice a n c ∧ xs.length = n * s ∧ n ≤ c ∧ c ≤ maxLen := by
  obtain ⟨R, hR, h'⟩ := h.out (.row v)
  exact RowO.form h'

theorem St.lit {t e s bs n : Nat} {zs cells : List Value} {parts : List (Nat × Value)} {K : Value → World → Prop} {θ : Tag K}
    (h : St w0 F w) (ht : rowTy P t = some (e, s, bs, zs)) (hf : fillL (fun i => some (i * s, s)) (mkZeros zs (n * s)) parts = some cells) (hsz : 0 < n * s) (hsz2 : n * s ≤ 16777216)
    (hK : ∀ v w', St w0 (RowO e s v n cells * F) w' → K v w') : semD P (kBuildSlice t n parts.toArray) w K θ :=
  h.buildSlice ht hf hsz hsz2 fun v w' h' => hK v w' (h'.ent (Ent.sep (Row.rowO e s v n cells) (Ent.rfl' F)))

/-- append to a row of one's own, from whatever reads as a row. -/
theorem St.app {t tx ty e e' s bs : Nat} {zs : List Value} {v x : Value} {n m : Nat} {xs news : List Value} {K : Value → World → Prop} {θ : Tag K}
    (h : St w0 A w) [i : Hole (.row v) A (RowO e s v n xs) C] (ht : rowTy P t = some (e, s, bs, zs)) (hx : Ent A (Reads s x m news)) (hu : P.underlying tx = some (.slice e')) (hc : ∀ u ∈ news, isCell u = true) (h0 : news = [] → m = 0)
    (h63 : n + m ≤ maxLen) (hb : (n + m) * bs ≤ 140737488355328)
    (hK : ∀ v' w', St w0 (C (RowO e s v' (n + m) (xs ++ news))) w' → K v' w') : semD P (kAppend #[t, tx] ty #[v, x]) w K θ := by
  have hs : Src P s tx x m news w := ((h.ent hx).rd).src hu hc h0
  obtain ⟨R, hR, h'⟩ := h.out (.row v)
  exact h'.appendO ht hs h63 hb fun v' w' hw => hK v' w' (by rw [hR]; exact hw)

/-- append of another row of one's own, which is let go in the end by whoever asks. -/
theorem St.appR {t tx ty e e' s bs T' : Nat} {C' : HP → HP} {zs : List Value} {v x : Value} {n m : Nat} {xs news : List Value} {K : Value → World → Prop} {θ : Tag K}
    (h : St w0 A w) [i : Hole (.row v) A (RowO e s v n xs) C] [j : Hole (.row x) A (RowO T' s x m news) C'] (ht : rowTy P t = some (e, s, bs, zs)) (hu : P.underlying tx = some (.slice e')) (hc : ∀ u ∈ news, isCell u = true) (h0 : news = [] → m = 0)
    (h63 : n + m ≤ maxLen) (hb : (n + m) * bs ≤ 140737488355328)
    (hK : ∀ v' w', St w0 (C (RowO e s v' (n + m) (xs ++ news))) w' → K v' w') : semD P (kAppend #[t, tx] ty #[v, x]) w K θ := by
  refine h.app ht ?_ hu hc h0 h63 hb hK
  obtain ⟨R, hR⟩ := j.fr
  rw [j.eq, hR]
  exact (Ent.left _ _).trans (RowO.reads T' s x m news)

end ops

section maps
variable {κ : Type} {P : Program} {w0 w : World} {A F X : HP} {C : HP → HP}
theorem St.lkH [DecidableEq κ] {enc : κ → Value} {b : Nat} {l : List (κ × Value)} {T kt et : TypeId} {z : Value} {ok : Bool} {x : κ} {K : Value → Prop} {θ : Tag K} (h : St w0 A w) [i : Hole (.map b) A (MapP enc b l) C] (hu : P.underlying T = some (.map kt et)) (law : KeyLaw P kt enc) (hz : zeroV P et = some z)
    (hK : K (lkV z ok (lk x l))) : readR P (kLookup T (.map (some b)) (enc x) ok) w K θ := by
  obtain ⟨R, hR, h'⟩ := h.out (.map b)
  exact h'.lookup hu law hz hK
theorem St.updH [DecidableEq κ] {enc : κ → Value} {b : Nat} {l : List (κ × Value)} {T kt et : TypeId} {x : κ} {v : Value} {K : World → Prop} {θ : Tag K} (h : St w0 A w) [i : Hole (.map b) A (MapP enc b l) C] (hu : P.underlying T = some (.map kt et)) (law : KeyLaw P kt enc)
    (hK : ∀ w', St w0 (C (MapP enc b (upd x v l))) w' → K w') : semU P (kMapUpdate T (.map (some b)) (enc x) v) w K θ := by
  obtain ⟨R, hR, h'⟩ := h.out (.map b)
  exact h'.update hu law fun w' hw => hK w' (by rw [hR]; exact hw)
theorem St.delH [DecidableEq κ] {enc : κ → Value} {b : Nat} {l : List (κ × Value)} {T kt et ty kt' : TypeId} {x : κ} {K : Value → World → Prop} {θ : Tag K} (h : St w0 A w) [i : Hole (.map b) A (MapP enc b l) C] (hu : P.underlying T = some (.map kt et)) (law : KeyLaw P kt enc)
    (hK : ∀ w', St w0 (C (MapP enc b (del x l))) w' → K (.tuple #[]) w') : semD P (kDelete #[T, kt'] ty #[.map (some b), enc x]) w K θ := by
  obtain ⟨R, hR, h'⟩ := h.out (.map b)
  exact h'.delete hu law fun w' hw => hK w' (by rw [hR]; exact hw)
theorem St.clearH {enc : κ → Value} {b : Nat} {l : List (κ × Value)} {T kt et ty : TypeId} {K : Value → World → Prop} {θ : Tag K} (h : St w0 A w) [i : Hole (.map b) A (MapP enc b l) C] (hu : P.underlying T = some (.map kt et))
    (hK : ∀ w', St w0 (C (MapP enc b [])) w' → K (.tuple #[]) w') : semD P (kClear #[T] ty #[.map (some b)]) w K θ := by
  obtain ⟨R, hR, h'⟩ := h.out (.map b)
  exact h'.clearMap hu fun w' hw => hK w' (by rw [hR]; exact hw)
theorem St.lenH {enc : κ → Value} {b : Nat} {l : List (κ × Value)} {T kt et ty : TypeId} {K : Value → Prop} {θ : Tag K} (h : St w0 A w) [i : Hole (.map b) A (MapP enc b l) C] (hu : P.underlying T = some (.map kt et))
    (hK : K (.int .i64 l.length)) : readR P (kLen #[T] ty #[.map (some b)]) w K θ := by
  obtain ⟨R, hR, h'⟩ := h.out (.map b)
  exact h'.lenMap hu hK
end maps

/-! ### Rows of structs are read -/
theorem cellsFrom_of (w : World) (a : Addr) : ∀ (n i : Nat) (xs : List Value), xs.length = n → (∀ j, j < n → w.cell? (a.add (i + j)) = xs[j]?) → cellsFrom w a i n = some xs
  | 0, i, [], _, _ => rfl
  | n + 1, i, x :: xs, hl, h => by
    have h0 := h 0 (by omega)
    simp only [Nat.add_zero, List.getElem?_cons_zero] at h0
    have ih := cellsFrom_of w a n (i + 1) xs (by simpa using hl) fun j hj => by
      have := h (j + 1) (by omega)
      rw [List.getElem?_cons_succ] at this
      rw [← this]; congr 2; omega
    simp only [cellsFrom, h0, ih]
theorem flatMap_length {α : Type} {enc : α → List Value} {k : Nat} (hk : ∀ x, (enc x).length = k) : ∀ l : List α, (l.flatMap enc).length = l.length * k
  | [] => by simp
  | x :: l => by rw [List.flatMap_cons, List.length_append, hk, flatMap_length hk l, List.length_cons, Nat.add_mul]; omega
theorem flatMap_at {α : Type} {enc : α → List Value} {k : Nat} (hk : ∀ x, (enc x).length = k) : ∀ (l : List α) (i j : Nat) (hi : i < l.length), j < k → (l.flatMap enc)[i * k + j]? = (enc l[i])[j]?
  | x :: l, 0, j, _, hj => by rw [List.flatMap_cons, Nat.zero_mul, Nat.zero_add, List.getElem?_append_left (by rw [hk]; exact hj)]; rfl
  | x :: l, i + 1, j, hi, hj => by
    rw [List.flatMap_cons, List.getElem?_append_right (by rw [hk, Nat.add_mul]; omega), hk, show (i + 1) * k + j - k = i * k + j by rw [Nat.add_mul]; omega, flatMap_at hk l i j (by simpa using hi) hj]
    rfl
theorem St.rowsAt {α : Type} {enc : α → List Value} {k : Nat} (hk : ∀ x, (enc x).length = k) (k0 : 0 < k) {w0 w : World} {v : Value} {n : Nat} {l : List α} (h : St w0 (Reads k v n (l.flatMap enc)) w) :
    n = l.length ∧ ∃ a c, v = .slice a n c ∧ n ≤ c ∧ ∀ i (hi : i < l.length), ∃ b o, a = some ⟨b, o, none⟩ ∧ rowV w ⟨b, o + i * k, none⟩ k = some (.agg (enc l[i]).toArray) ∧ ∀ j, j < k → w.cell? ⟨b, o + i * k + j, none⟩ = (enc l[i])[j]? := by
  have r := h.rd
  have hlen := r.length
  rw [flatMap_length hk] at hlen
  have hn : n = l.length := (Nat.eq_of_mul_eq_mul_right k0 hlen).symm
  obtain ⟨a, c, rfl, hnc, hr⟩ := r.form
  refine ⟨hn, a, c, rfl, hnc, fun i hi => ?_⟩
  have hik : i * k + k ≤ l.length * k := by
    have := Nat.mul_le_mul_right k (show i + 1 ≤ l.length from hi)
    rwa [Nat.add_mul, Nat.one_mul] at this
  rcases hr with hr | ⟨b, o, rfl, hr⟩
  · have := congrArg List.length hr
    rw [flatMap_length hk, List.length_nil] at this
    omega
  · have hc : ∀ j, j < k → w.cell? ⟨b, o + i * k + j, none⟩ = (enc l[i])[j]? := fun j hj => by
      have := hr (i * k + j) (by rw [flatMap_length hk]; omega)
      rwa [flatMap_at hk l i j hi hj, ← Nat.add_assoc] at this
    refine ⟨b, o, rfl, ?_, hc⟩
    unfold rowV
    rw [cellsFrom_of w _ k 0 (enc l[i]) (hk _) fun j hj => by rw [Nat.zero_add, add_lit]; exact hc j hj]
    rfl

/-! ### Rows of one's own are written into -/
theorem setRowL_part {cur cs : List Value} {o k N : Nat} (h1 : k + cs.length ≤ N) (h2 : o + N ≤ cur.length) : ((setRowL cur (o + k) cs).drop o).take N = setRowL ((cur.drop o).take N) k cs := by
  have hl : ((cur.drop o).take N).length = N := by rw [List.length_take, List.length_drop]; omega
  apply List.ext_getElem?
  intro j
  by_cases hj : j < N
  · rw [List.getElem?_take_of_lt hj, List.getElem?_drop]
    rcases Nat.lt_or_ge j k with h | h
    · rw [getElem?_setRowL_lt _ _ _ _ h, getElem?_setRowL_lt _ _ _ _ (by omega), List.getElem?_take_of_lt hj, List.getElem?_drop]
    · rcases Nat.lt_or_ge j (k + cs.length) with h' | h'
      · obtain ⟨i, rfl⟩ : ∃ i, j = k + i := ⟨j - k, by omega⟩
        rw [getElem?_setRowL_in _ _ _ _ (by omega) (by omega), ← Nat.add_assoc, getElem?_setRowL_in _ _ _ _ (by omega) (by omega)]
      · rw [getElem?_setRowL_ge _ _ _ _ h', getElem?_setRowL_ge _ _ _ _ (by omega), List.getElem?_take_of_lt hj, List.getElem?_drop]
  · rw [List.getElem?_take_eq_none (by omega), List.getElem?_eq_none (by rw [length_setRowL, hl]; omega)]

theorem RowO.openE (T s g o n c : Nat) (xs : List Value) : Ent (RowO T s (.slice (some ⟨g, o, none⟩) n c) n xs)
    (HP.ex fun cur : Array Value => HP.fact (n ≤ c ∧ c ≤ maxLen ∧ o + c * s ≤ cur.size ∧ (cur.toList.drop o).take (n * s) = xs ∧ xs.length = n * s) (Blk g (.cells cur T (0, 0)))) := by
  refine Ent.of fun h a => ?_
  rcases a with ⟨hv, _⟩ | ⟨g', o', cap, cur, e1, e2, e3, e4, e5, e6, e7⟩
  · cases hv
  · simp only [Value.slice.injEq, Option.some.injEq, Addr.mk.injEq, and_true, true_and] at e1
    obtain ⟨⟨rfl, rfl⟩, rfl⟩ := e1
    exact ⟨cur, ⟨e3, e4, e5, e6, e7⟩, e2⟩
theorem RowO.shutE {T s g o n c : Nat} {xs : List Value} {cur : Array Value} (h : n ≤ c ∧ c ≤ maxLen ∧ o + c * s ≤ cur.size ∧ (cur.toList.drop o).take (n * s) = xs ∧ xs.length = n * s) : Ent (Blk g (.cells cur T (0, 0))) (RowO T s (.slice (some ⟨g, o, none⟩) n c) n xs) :=
  Ent.of fun _ a => .inr ⟨g, o, c, cur, rfl, a, h.1, h.2.1, h.2.2.1, h.2.2.2.1, h.2.2.2.2⟩

theorem St.rowSet {w0 w : World} {A : HP} {C : HP → HP} {T s g o n c k m : Nat} {xs cs : List Value} {K : World → Prop} {θ : Tag K} (h : St w0 A w) [i : Hole (.row (.slice (some ⟨g, o, none⟩) n c)) A (RowO T s (.slice (some ⟨g, o, none⟩) n c) n xs) C]
    (hn : cs.length = m) (hk : k + m ≤ xs.length) (hc : ∀ v ∈ cs, isCell v = true)
    (hK : ∀ w', St w0 (C (RowO T s (.slice (some ⟨g, o, none⟩) n c) n (setRowL xs k cs))) w' → K w') : storeD (some m) (.pointer (some ⟨g, o + k, none⟩)) (.agg cs.toArray) w K θ := by
  obtain ⟨R, hR, h'⟩ := h.out (.row (.slice (some ⟨g, o, none⟩) n c))
  obtain ⟨cur, h'⟩ := (h'.ent (Ent.sep (RowO.openE T s g o n c xs) (Ent.rfl' R))).exF
  obtain ⟨⟨a1, a2, a3, a4, a5⟩, h'⟩ := h'.factF
  have hcs : n * s ≤ c * s := Nat.mul_le_mul_right s a1
  refine h'.storeRow hn (by omega) hc fun w' hw => hK w' ?_
  rw [hR]
  refine hw.ent (Ent.sep (RowO.shutE ⟨a1, a2, ?_, ?_, ?_⟩) (Ent.rfl' R))
  · simpa [length_setRowL] using a3
  · rw [List.toList_toArray, setRowL_part (by omega) (by simp only [Array.length_toList]; omega), a4]
  · rw [length_setRowL, a5]

theorem St.rowSet1 {w0 w : World} {A : HP} {C : HP → HP} {T s g o n c k : Nat} {v : Value} {xs : List Value} {K : World → Prop} {θ : Tag K} (h : St w0 A w) [i : Hole (.row (.slice (some ⟨g, o, none⟩) n c)) A (RowO T s (.slice (some ⟨g, o, none⟩) n c) n xs) C]
    (hk : k < xs.length) (hc : isCell v = true)
    (hK : ∀ w', St w0 (C (RowO T s (.slice (some ⟨g, o, none⟩) n c) n (xs.set k v))) w' → K w') : storeD (some 1) (.pointer (some ⟨g, o + k, none⟩)) v w K θ := by
  obtain ⟨R, hR, h'⟩ := h.out (.row (.slice (some ⟨g, o, none⟩) n c))
  obtain ⟨cur, h'⟩ := (h'.ent (Ent.sep (RowO.openE T s g o n c xs) (Ent.rfl' R))).exF
  obtain ⟨⟨a1, a2, a3, a4, a5⟩, h'⟩ := h'.factF
  have hcs : n * s ≤ c * s := Nat.mul_le_mul_right s a1
  refine h'.store rfl (by omega) hc fun w' hw => hK w' ?_
  rw [hR]
  refine hw.ent (Ent.sep (RowO.shutE ⟨a1, a2, by simpa using a3, ?_, by rw [List.length_set, a5]⟩) (Ent.rfl' R))
  rw [Array.toList_setIfInBounds, List.drop_set, if_neg (by omega), show o + k - o = k by omega, List.take_set, a4]

theorem flatMap_at_all {α : Type} {enc : α → List Value} {k : Nat} (hk : ∀ x, (enc x).length = k) (l : List α) (t : Nat) (ht : t < l.length * k) : ∃ (i j : Nat) (hi : i < l.length), j < k ∧ t = i * k + j ∧ (l.flatMap enc)[t]? = (enc l[i])[j]? := by
  have k0 : 0 < k := by rcases Nat.eq_zero_or_pos k with h | h; · subst h; simp at ht
                        · exact h
  have hi : t / k < l.length := Nat.div_lt_of_lt_mul (by rw [Nat.mul_comm]; exact ht)
  have e : t = t / k * k + t % k := by rw [Nat.mul_comm]; exact (Nat.div_add_mod t k).symm
  refine ⟨t / k, t % k, hi, Nat.mod_lt _ k0, e, ?_⟩
  have := flatMap_at hk l (t / k) (t % k) hi (Nat.mod_lt _ k0)
  rwa [← e] at this

/-- A look-up that may fail, as one value. -/
theorem lkV_get {α : Type} {f : α → Value} {d : α} (o : Option α) : lkV (f d) true (o.map f) = .tuple #[f (o.getD d), .bool o.isSome] := by cases o <;> rfl
theorem lkV_get1 {α : Type} {f : α → Value} {d : α} (o : Option α) : lkV (f d) false (o.map f) = f (o.getD d) := by cases o <;> rfl

/-- The raw number that speaks of one of n things. -/
def pickI (c n : Int) : Int := (if c < 0 then -(c + 1) else c).tmod n
theorem pickI_range {c n : Int} (h : 0 < n) : 0 ≤ pickI c n ∧ pickI c n < n := by
  unfold pickI
  have : 0 ≤ (if c < 0 then -(c + 1) else c) := by split <;> omega
  exact ⟨Int.tmod_nonneg _ this, Int.tmod_lt_of_pos _ h⟩
end Go.Proofs.YtmiohkmcnppaeaaGreatDoor

namespace Go.Proofs.YtmiohkmcnppaeaaGreatDoor
open Go
set_option linter.unusedVariables false

def strOf (bs : List UInt8) : ByteArray := ⟨bs.toArray⟩
theorem strOf_inj {a b : List UInt8} : strOf a = strOf b ↔ a = b := by
  constructor
  · intro h
    have := congrArg (fun s : ByteArray => s.data.toList) h
    simpa [strOf] using this
  · rintro rfl; rfl
theorem strOfNums_bytes (bs : List UInt8) : strOfNums (bs.map fun b => (b.toNat : Int)) = strOf bs := by
  unfold strOfNums strOf
  congr 1
  rw [List.map_map]
  congr 1
  have : ∀ b : UInt8, UInt8.ofNat ((b.toNat : Int)).toNat = b := fun b => by simp
  conv => rhs; rw [← List.map_id bs]
  apply List.map_congr_left
  intro b _
  exact this b

theorem St.str {P : Program} {w0 w : World} {A : HP} {src e dst : TypeId} {v : Value} {bs : List UInt8} {K : Value → Prop} {θ : Tag K} (h : St w0 A w) (hr : Ent A (RdB v bs)) (hs : P.underlying src = some (.slice e)) (he : P.underlying e = some (.int .u8)) (hd : P.underlying dst = some .string)
    (hK : K (.string (strOf bs))) : readR P (kConvert src dst v) w K θ := by
  show readR P (convert src dst v) w K θ
  obtain ⟨a, c, rfl, hnc, hb⟩ := (h.ent hr).bytes
  cases a with
  | none =>
    rcases hb with rfl | ⟨b, o, hb, _⟩
    · exact ⟨_, run_convert_bytes_nil w src e hs he _ _ dst hd, hK⟩
    · cases hb
  | some a =>
    rcases hb with rfl | ⟨b, o, hb, hc⟩
    · refine ⟨_, ?_, hK⟩
      obtain ⟨b, o, sub⟩ := a
      rw [run_convert_bytes_string w src dst e _ _ _ hs he hd]
      rw [run_bytesToString w _ _ _ [] (by simp [loadCells, loadCellsFrom])]
      rfl
    · simp only [Option.some.injEq] at hb
      subst hb
      refine ⟨_, run_convert_bytes_arg w src e hs he b o bs.length c (bs.map fun b => (b.toNat : Int)) (by simp) (fun i hi => ?_) dst hd, ?_⟩
      · rw [hc i hi]
        simp [bv, List.getD, List.getElem?_eq_getElem hi]
      · rw [strOfNums_bytes]; exact hK
end Go.Proofs.YtmiohkmcnppaeaaGreatDoor

namespace Go.Proofs.YtmiohkmcnppaeaaGreatDoor
open Go

/-- A block becomes another object. -/
theorem St.putObj {w0 w : World} {b : Nat} {o : Obj} {F : HP} (h : St w0 (Blk b o * F) w) (o' : Obj) : St w0 (Blk b o' * F) (w.putObj b o') := by
  have hb := h.blk
  have hlt := (Array.getElem?_eq_some_iff.1 hb).1
  exact h.blk_turn rfl rfl rfl (by simp) (World.putObj_heap_same hlt) fun k hk _ => World.putObj_heap_other hk

/-- A loop's record lies here. -/
def LoopHere (l : Nat) : HP := fun h => ∃ r, h l = some (.loop r)

/-- The yield of the loop l: handed an element, it goes on (J), or leaves (X). -/
def YieldsTo {α : Type} (P : Program) (w0 : World) (l : Nat) (Pass : α → Array Value → HP) (Ok : List α → Prop) (J X : List α → HP) : Prop :=
  ∀ (G : HP) (pre : List α) (x : α) (args : Array Value) (w : World), Ok (pre ++ [x]) → St w0 (J pre * (Pass x args * G)) w →
    YieldC P l args w fun e w' => (e = .returned (.bool true) ∧ St w0 (J (pre ++ [x]) * G) w') ∨ (e = .returned (.bool false) ∧ St w0 (X (pre ++ [x]) * G) w')

/-- How a round's body ends. -/
def roundQ (w0 : World) (A : HP) (B : Code → HP) : Post
  | .normal, _, w => St w0 A w
  | .ret, _, w => St w0 (B .ret) w
  | .exit id, _, w => St w0 (B (.exit id)) w
  | .goto t, _, w => St w0 (B (.goto t)) w
  | _, _, _ => False

section
variable {w0 w : World} {A : HP} {B : Code → HP} {e : FA}
theorem roundQ_normal : roundQ w0 A B .normal e w = St w0 A w := rfl
theorem roundQ_ret : roundQ w0 A B .ret e w = St w0 (B .ret) w := rfl
theorem roundQ_exit {i : Nat} : roundQ w0 A B (.exit i) e w = St w0 (B (.exit i)) w := rfl
theorem putArgs_nil {ps : List Tmp} : putArgs ps [] e = e := by cases ps <;> rfl
theorem putArgs_nil' {vs : List Value} : putArgs [] vs e = e := by cases vs <;> rfl
theorem putArgs_cons {p : Nat} {ps : List Tmp} {v : Value} {vs : List Value} : putArgs (p :: ps) (v :: vs) e = putArgs ps vs (e.put (some p) v) := rfl
theorem jumpP_ret {Q : Post} : jumpP Q (some .ret) e w = Q .ret e w := rfl
theorem jumpP_exit {Q : Post} {i : Nat} : jumpP Q (some (.exit i)) e w = Q (.exit i) e w := rfl
end

def EmpH : HP := fun _ => True
/-- What the loop's own code promises of one round. -/
def RoundOk {α : Type} (P : Program) (w0 : World) (e : FA) (ps : Array Tmp) (asg body : Cd) (Pass : α → Array Value → HP) (Ok : List α → Prop) (J : List α → HP) (X : Code → List α → HP) : Prop :=
  ∀ (l : Nat) (pre : List α) (x : α) (args : Array Value) (G : HP) (W : World), Ok (pre ++ [x]) → St w0 (J pre * (Pass x args * G)) W →
    args.size = ps.size ∧ cwRE P l asg (onlyP fun e1 W1 => St w0 (J pre * (Pass x args * G)) W1 ∧
      ∀ (G2 : HP) (W2 : World), Ent G2 (LoopHere l) → St w0 (J pre * (Pass x args * G2)) W2 → cwRE P l body (roundQ w0 (J (pre ++ [x]) * G2) fun c => X c (pre ++ [x]) * G2) e1 W2) (putArgs ps.toList args.toList { e with ds := [] }) W

/-- What the function that is ranged over promises, whatever the loop. -/
def IterOk {α : Type} (P : Program) (w0 : World) (gf : Nat) (lb : Array Value) (Pass : α → Array Value → HP) (Ok S : List α → Prop) (G G' : HP) : Prop :=
  ∀ (l : Nat) (w1 : World) (J X : List α → HP), YieldsTo P w0 l Pass Ok J X → St w0 (J [] * G) w1 →
    Calls P gf (#[.func (.yield l) #[] #[]] ++ lb) w1 fun e w' => (∃ v, e = .returned v) ∧ ((∃ xs, S xs ∧ St w0 (J xs * G') w') ∨ ∃ pre, St w0 (X pre * G') w')

theorem mk_yields {α : Type} {P : Program} {w0 : World} {e : FA} {ps : Array Tmp} {asg body : Cd} {Pass : α → Array Value → HP} {Ok : List α → Prop} {J : List α → HP} {X : Code → List α → HP} {l : Nat} {Rec : LoopState → Option Code → Obj} {Dp : HP}
    (hro : RoundOk P w0 e ps asg body Pass Ok J X)
    (hrec : LoopRec P l Rec fun args W R => args.size = ps.size ∧ cw P (some l) asg (onlyP fun e1 W1 => W1.heap[l]? = some (Rec .ready none) ∧
      cw P (some l) body (roundP l Rec R) e1 (W1.putObj l (Rec .busy none))) (putArgs ps.toList args.toList { e with ds := [] }) W) :
    YieldsTo P w0 l Pass Ok (fun pre => Blk l (Rec .ready none) * (Dp * J pre)) (fun pre => HP.ex fun c => Blk l (Rec .done (some c)) * (Dp * X c pre)) := by
  intro G pre x args w hok h
  simp only at h ⊢
  refine hrec.yield args w _ h.left.blk ?_
  have h1 : St w0 (J pre * (Pass x args * (Blk l (Rec .ready none) * (Dp * G)))) w := h.ac (by ac_rfl)
  obtain ⟨hsz, hcode⟩ := hro l pre x args _ w hok h1
  refine ⟨hsz, ?_⟩
  refine cw_of_cwD _ _ _ _ _ _ (fun ex e1 W1 hx => ?_) hcode
  cases ex with
  | normal =>
    obtain ⟨h2, hb⟩ := hx
    have h3 : St w0 (Blk l (Rec .ready none) * (J pre * (Pass x args * (Dp * G)))) W1 := h2.ac (by ac_rfl)
    refine ⟨h3.blk, ?_⟩
    have h4 := h3.putObj (Rec .busy none)
    have h5 : St w0 (J pre * (Pass x args * (Blk l (Rec .busy none) * (Dp * G)))) (W1.putObj l (Rec .busy none)) := h4.ac (by ac_rfl)
    have hl : Ent (Blk l (Rec .busy none) * (Dp * G)) (LoopHere l) := (Ent.left _ _).trans (Ent.of fun h hb => by
      obtain ⟨r, hr⟩ := hrec.isLoop .busy none
      exact ⟨r, by rw [← hr]; exact hb⟩)
    refine cw_of_cwD _ _ _ _ _ _ (fun ex e2 W2 hx => ?_) (hb _ _ hl h5)
    have stop : ∀ c, St w0 (X c (pre ++ [x]) * (Blk l (Rec .busy none) * (Dp * G))) W2 → W2.heap[l]? = some (Rec .busy none) ∧
        ((Ending.returned (.bool false) = .returned (.bool true) ∧ St w0 ((Blk l (Rec .ready none) * (Dp * J (pre ++ [x]))) * G) (W2.putObj l (Rec .done (some c)))) ∨
          (Ending.returned (.bool false) = .returned (.bool false) ∧ St w0 ((HP.ex fun c => Blk l (Rec .done (some c)) * (Dp * X c (pre ++ [x]))) * G) (W2.putObj l (Rec .done (some c))))) := fun c hx => by
      have h6 : St w0 (Blk l (Rec .busy none) * (Dp * X c (pre ++ [x]) * G)) W2 := hx.ac (by ac_rfl)
      refine ⟨h6.blk, .inr ⟨rfl, ?_⟩⟩
      have h7 := h6.putObj (Rec .done (some c))
      exact (h7.ac (by ac_rfl : _ = (Blk l (Rec .done (some c)) * (Dp * X c (pre ++ [x]))) * G)).ent (Ent.sep (Ent.ex (fun c => Blk l (Rec .done (some c)) * (Dp * X c (pre ++ [x]))) c) (Ent.rfl' _))
    cases ex with
    | normal =>
      have h6 : St w0 (Blk l (Rec .busy none) * (Dp * J (pre ++ [x]) * G)) W2 := St.ac hx (by ac_rfl)
      refine ⟨h6.blk, .inl ⟨rfl, ?_⟩⟩
      exact (h6.putObj (Rec .ready none)).ac (by ac_rfl)
    | ret => exact stop _ hx
    | exit i => exact stop _ hx
    | goto t => exact stop _ hx
    | panic c => exact hx.elim
    | outgrown => exact hx.elim
  | exit i => exact hx.elim
  | goto t => exact hx.elim
  | ret => exact hx.elim
  | panic c => exact hx.elim
  | outgrown => exact hx.elim

theorem range_intro {α : Type} {P : Program} {w0 w : World} {F G G' : HP} {e : FA} {g : Operand} {ps : Array Tmp} {asg body : Cd} {Q : Post} {θ : Tag ((.rangeFunc g ps asg body : Cd), Q, e, w)} (h : St w0 F w) {gf : Nat} {lb : Array Value}
    (hg : e.ev g = .func (.func gf) #[] lb) (hf : fnOk P gf = true) {Pass : α → Array Value → HP} {Ok S : List α → Prop} (J : List α → HP) (X : Code → List α → HP) (h0 : Ent F (J [] * G))
    (hround : RoundOk P w0 e ps asg body Pass Ok J X) (hcall : IterOk P w0 gf lb Pass Ok S G G')
    (hdone : ∀ (D : Nat) (xs : List α) (w' : World), S xs → St w0 (Blk D (.deferred (some [])) * (J xs * G')) w' → Q .normal { e with ds := { target := .collected D, args := #[] } :: e.ds } w')
    (hstop : ∀ (D : Nat) (c : Code) (pre : List α) (w' : World), St w0 (Blk D (.deferred (some [])) * (X c pre * G')) w' → jumpP Q (some c) { e with ds := { target := .collected D, args := #[] } :: e.ds } w') :
    cwE P (.rangeFunc g ps asg body) Q e w θ := by
  refine ⟨fun l h => (by cases h), gf, lb, hg, hf, fun Rec hrec => ?_⟩
  have h1 := (h.ent h0).alloc (.deferred (some []))
  have h2 := h1.alloc (Rec .ready none)
  have hs : (w.alloc (.deferred (some []))).heap.size = w.heap.size + 1 := World.size_alloc _ _
  rw [hs] at h2
  have hy := mk_yields (Dp := Blk w.heap.size (.deferred (some []))) hround hrec
  refine (hcall _ _ _ _ hy (h2.ac ?_)).mono ?_
  · simp only [loopAt]; ac_rfl
  · rintro ex W ⟨⟨v, rfl⟩, hq⟩
    rcases hq with ⟨xs, hS, hq⟩ | ⟨pre, hq⟩
    · have h3 : St w0 (Blk (w.heap.size + 1) (Rec .ready none) * (Blk w.heap.size (.deferred (some [])) * (J xs * G'))) W := hq.ac (by simp only [loopAt]; ac_rfl)
      exact ⟨.ready, none, h3.blk, by simp, hdone _ xs _ hS (h3.putObj (Rec .exhausted none)).right⟩
    · have hq := hq
      obtain ⟨c, hq⟩ := St.exF hq
      have h3 : St w0 (Blk (w.heap.size + 1) (Rec .done (some c)) * (Blk w.heap.size (.deferred (some [])) * (X c pre * G'))) W := hq.ac (by simp only [loopAt]; ac_rfl)
      exact ⟨.done, some c, h3.blk, by simp, hstop _ c pre _ (h3.putObj (Rec .exhausted (some c))).right⟩

/-- .. in a round of another loop. -/
theorem range_introR {α : Type} {P : Program} {w0 w : World} {F G G' : HP} {e : FA} {l0 : Nat} {g : Operand} {ps : Array Tmp} {asg body : Cd} {Q : Post} {θ : Tag ((.rangeFunc g ps asg body : Cd), Q, e, w)} (h : St w0 F w) (hl0 : Ent F (LoopHere l0)) {gf : Nat} {lb : Array Value}
    (hg : e.ev g = .func (.func gf) #[] lb) (hf : fnOk P gf = true) {Pass : α → Array Value → HP} {Ok S : List α → Prop} (J : List α → HP) (X : Code → List α → HP) (h0 : Ent F (J [] * G))
    (hround : RoundOk P w0 e ps asg body Pass Ok J X) (hcall : IterOk P w0 gf lb Pass Ok S G G')
    (hdone : ∀ (xs : List α) (w' : World), S xs → St w0 (J xs * G') w' → Q .normal e w')
    (hstop : ∀ (c : Code) (pre : List α) (w' : World), St w0 (X c pre * G') w' → jumpP Q (some c) e w') :
    cwRE P l0 (.rangeFunc g ps asg body) Q e w θ := by
  refine ⟨fun l hl => ?_, gf, lb, hg, hf, fun Rec hrec => ?_⟩
  · simp only [Option.some.injEq] at hl
    subst hl
    obtain ⟨y, ly, r, hr⟩ := (h.ent hl0).sat
    exact ⟨r, ly _ _ hr⟩
  have h2 := (h.ent h0).alloc (Rec .ready none)
  have hy := mk_yields (Dp := EmpH) hround hrec
  have hE : ∀ (A : HP), Ent A (EmpH * A) := fun A => Ent.of fun h a => ⟨fun _ => none, h, fun _ => .inl rfl, (fun _ _ e => by cases e), hle.rfl' h, trivial, a⟩
  refine (hcall _ _ _ _ hy ((h2.ent (Ent.sep (Ent.rfl' _) (hE _))).ac ?_)).mono ?_
  · simp only [loopAt]; ac_rfl
  · rintro ex W ⟨⟨v, rfl⟩, hq⟩
    have hds : ∀ e : FA, ({ e with ds := (loopAt (some l0) w Rec).2.2 ++ e.ds } : FA) = e := fun e => rfl
    rcases hq with ⟨xs, hS, hq⟩ | ⟨pre, hq⟩
    · have h3 : St w0 (Blk w.heap.size (Rec .ready none) * (EmpH * (J xs * G'))) W := hq.ac (by simp only [loopAt]; ac_rfl)
      refine ⟨.ready, none, h3.blk, by simp, ?_⟩
      rw [hds]
      exact hdone xs _ hS (h3.putObj (Rec .exhausted none)).right.right
    · have hq := hq
      obtain ⟨c, hq⟩ := St.exF hq
      have h3 : St w0 (Blk w.heap.size (Rec .done (some c)) * (EmpH * (X c pre * G'))) W := hq.ac (by simp only [loopAt]; ac_rfl)
      refine ⟨.done, some c, h3.blk, by simp, ?_⟩
      rw [hds]
      exact hstop c pre _ (h3.putObj (Rec .exhausted (some c))).right.right

/-- A mark among the deferred calls, at a function's end. -/
theorem St.mark {P : Program} {w0 w : World} {D : Nat} {F : HP} {asg : Array Value} {ds : List Deferred} {A : World → Prop} (h : St w0 (Blk D (.deferred (some [])) * F) w) (hA : ∀ w', St w0 (Blk D (.deferred none) * F) w' → retD P ds A w') : retD P ({ target := .collected D, args := asg } :: ds) A w :=
  ⟨D, rfl, h.blk, hA _ (h.putObj _)⟩

theorem St.mark1 {P : Program} {w0 w : World} {D : Nat} {F : HP} {ar : Array Value} {A : World → Prop} (h : St w0 (Blk D (.deferred (some [])) * F) w) (hA : ∀ w', St w0 (Blk D (.deferred none) * F) w' → A w') : retD P [{ target := .collected D, args := ar }] A w :=
  St.mark h hA

attribute [go_sem ↓] roundQ_normal
attribute [go_sem ↓] roundQ_ret
attribute [go_sem ↓] roundQ_exit
attribute [go_sem] putArgs_nil
attribute [go_sem] putArgs_nil'
attribute [go_sem] putArgs_cons
attribute [go_sem] jumpP_ret
attribute [go_sem] jumpP_exit

end Go.Proofs.YtmiohkmcnppaeaaGreatDoor

namespace Go.Proofs.YtmiohkmcnppaeaaGreatDoor
open Go
set_option linter.unusedVariables false
set_option linter.unusedSimpArgs false

/-! ### Operations -/

theorem mk_strOf (l : List UInt8) : (⟨l.toArray⟩ : ByteArray) = strOf l := rfl
theorem strOf_data (l : List UInt8) : (strOf l).data.toList = l := by simp [strOf]
theorem strOf_toList (l : List UInt8) : (strOf l).toList = l := by rw [Lib.toList_data, strOf_data]
theorem strOf_size (l : List UInt8) : (strOf l).size = l.length := by rw [Lib.size_eq, strOf_data]
theorem strOf_eta (s : ByteArray) : strOf s.data.toList = s := by cases s; simp [strOf]
theorem strOf_append (a b : List UInt8) : strOf a ++ strOf b = strOf (a ++ b) := by
  have : ∀ x y : ByteArray, x.data.toList = y.data.toList → x = y := fun x y h => by rw [← strOf_eta x, ← strOf_eta y, h]
  apply this
  simp [strOf]
theorem strOf_extract (l : List UInt8) (i j : Nat) : (strOf l).extract i j = strOf ((l.drop i).take (j - i)) := by
  have : ∀ x y : ByteArray, x.data.toList = y.data.toList → x = y := fun x y h => by rw [← strOf_eta x, ← strOf_eta y, h]
  apply this
  rw [strOf_data, ByteArray.data_extract]
  simp [strOf]
theorem strEq_beq (a b : List UInt8) : (a == b) = decide (a = b) := by rw [Bool.eq_iff_iff]; simp

theorem take_drop_all (l : List UInt8) (i : Nat) : (l.drop i).take (l.length - i) = l.drop i := List.take_of_length_le (by simp)

theorem slice_ite {c : Nat} {a : Option Addr} : (if c = 0 then a else Option.map (fun x : Addr => x) a) = a := by
  split
  · rfl
  · cases a <;> rfl
theorem binV_sadd {P : Program} {T : TypeId} {a b : List UInt8} (h : a.length + b.length ≤ 9223372036854775807) : binV P .add T (.string (strOf a)) (.string (strOf b)) = some (.string (strOf (a ++ b))) := by
  have : (strOf a).size + (strOf b).size ≤ 9223372036854775807 := by rw [strOf_size, strOf_size]; exact h
  simp [binV, strV, this, strOf_append]

abbrev sv (l : List UInt8) : Value := .string (strOf l)

/-! ### Characters -/

/-- The first character: its number and its width. -/
def decL (l : List UInt8) : Nat × Nat := Lib.decodeN l.length (l.getD 0 0).toNat (l.getD 1 0).toNat (l.getD 2 0).toNat (l.getD 3 0).toNat

theorem get!_strOf (l : List UInt8) (i : Nat) : (strOf l).get! i = l.getD i 0 := by
  simp [ByteArray.get!, strOf]
  rcases Nat.lt_or_ge i l.length with h | h
  · simp [h]
  · simp [h]; rfl

theorem decode_strOf (l : List UInt8) (i : Nat) : Utf8.decode (strOf l) i = decL (l.drop i) := by
  rw [Lib.decode_at, strOf_size]
  simp only [get!_strOf, decL, List.length_drop, List.getD_eq_getElem?_getD, List.getElem?_drop, Nat.add_zero]

theorem decL_width (l : List UInt8) (h : l ≠ []) : 1 ≤ (decL l).2 ∧ (decL l).2 ≤ l.length ∧ (decL l).2 ≤ 4 := by
  have h1 : 1 ≤ l.length := List.length_pos_iff.2 h
  unfold decL Lib.decodeN
  split
  · exact ⟨by simp, h1, by simp⟩
  split
  · rename_i hx
    split <;> simp <;> omega
  split
  · split <;> simp <;> omega
  split
  · split <;> simp <;> omega
  · simp; omega

theorem decL_le (l : List UInt8) : (decL l).1 ≤ 1114111 := by
  have hb : ∀ k, (l.getD k 0).toNat < 256 := fun k => (l.getD k 0).toNat_lt
  have h0 := hb 0; have h1 := hb 1; have h2 := hb 2; have h3 := hb 3
  unfold decL Lib.decodeN
  split
  · simp only; omega
  split
  · split <;> simp only <;> omega
  split
  · split <;> simp only <;> omega
  split
  · split <;> simp only <;> omega
  · simp only; omega

/-- The characters of a text, with their widths (fuel: its length). -/
def chsF : Nat → List UInt8 → List (Nat × Nat)
  | 0, _ => []
  | n + 1, l => if l = [] then [] else decL l :: chsF n (l.drop (decL l).2)
def chs (l : List UInt8) : List (Nat × Nat) := chsF l.length l

theorem chsF_eq : ∀ (n m : Nat) (l : List UInt8), l.length ≤ n → l.length ≤ m → chsF n l = chsF m l
  | 0, 0, _, _, _ => rfl
  | 0, m + 1, l, h, _ => by have : l = [] := List.eq_nil_of_length_eq_zero (by omega); simp [chsF, this]
  | n + 1, 0, l, _, h => by have : l = [] := List.eq_nil_of_length_eq_zero (by omega); simp [chsF, this]
  | n + 1, m + 1, l, h1, h2 => by
    by_cases e : l = []
    · simp [chsF, e]
    · have hw := decL_width l e
      simp only [chsF, e, if_false]
      rw [chsF_eq n m _ (by simp; omega) (by simp; omega)]

theorem chs_nil : chs [] = [] := rfl
theorem chs_cons {l : List UInt8} (h : l ≠ []) : chs l = decL l :: chs (l.drop (decL l).2) := by
  have hw := decL_width l h
  unfold chs
  cases hl : l.length with
  | zero => omega
  | succ n =>
    simp only [chsF, h, if_false]
    rw [chsF_eq n _ _ (by simp; omega) (Nat.le_refl _)]

/-- The numbers of the characters. -/
def runes (l : List UInt8) : List Nat := (chs l).map (·.1)
theorem runes_nil : runes [] = [] := rfl
theorem runes_cons {l : List UInt8} (h : l ≠ []) : runes l = (decL l).1 :: runes (l.drop (decL l).2) := by simp [runes, chs_cons h]
theorem runes_le {l : List UInt8} {r : Nat} (h : r ∈ runes l) : r ≤ 1114111 := by
  generalize hn : l.length = n
  induction n using Nat.strongRecOn generalizing l with
  | _ n ih =>
    by_cases e : l = []
    · rw [e, runes_nil] at h; cases h
    · have hw := decL_width l e
      rw [runes_cons e] at h
      rcases List.mem_cons.1 h with h | h
      · rw [h]; exact decL_le l
      · exact ih _ (by simp; omega) h rfl
theorem runes_length (l : List UInt8) : (runes l).length ≤ l.length := by
  generalize hn : l.length = n
  induction n using Nat.strongRecOn generalizing l with
  | _ n ih =>
    by_cases e : l = []
    · rw [e, runes_nil]; simp
    · have hw := decL_width l e
      rw [runes_cons e, List.length_cons]
      have := ih _ (by simp; omega) (l.drop (decL l).2) rfl
      simp at this
      omega

/-! ### A text gone through -/

section
variable {P : Program} {w0 w : World} {A : HP} {C : HP → HP} {l : List UInt8}
theorem St.rangeS {T : TypeId} {K : Value → World → Prop} {θ : Tag K} (h : St w0 A w) (hu : P.underlying T = some .string)
    (hK : ∀ r w', St w0 (Blk r (.stringIter (strOf l) 0) * A) w' → K (.pointer (some ⟨r, 0, none⟩)) w') : semD P (kRange T (.string (strOf l))) w K θ :=
  ⟨_, _, run_range_string w T (strOf l) hu, hK _ _ (h.alloc (.stringIter (strOf l) 0))⟩

theorem St.nextS {r pos : Nat} {ty : TypeId} {K : Value → World → Prop} {θ : Tag K} (h : St w0 A w) [i : Hole (.blk r) A (Blk r (.stringIter (strOf l) pos)) C]
    (hd : ¬ pos < l.length → K (.tuple #[.bool false]) w)
    (hm : pos < l.length → ∀ w', St w0 (C (Blk r (.stringIter (strOf l) (pos + (decL (l.drop pos)).2)))) w' → K (.tuple #[.bool true, .int .i64 pos, .int .i32 (decL (l.drop pos)).1]) w') : semD P (kNext (.pointer (some ⟨r, 0, none⟩)) true ty) w K θ := by
  obtain ⟨R, hR, h'⟩ := h.out (.blk r)
  by_cases hlt : pos < l.length
  · refine ⟨_, _, Lib.run_next_any_at w r (strOf l) pos ty h'.blk (by rw [strOf_size]; exact hlt), ?_⟩
    rw [decode_strOf]
    refine hm hlt _ ?_
    rw [hR]
    have hlt' := (Array.getElem?_eq_some_iff.1 h'.blk).1
    exact h'.blk_turn rfl rfl rfl (by simp [World.iterAt]) (by simp [World.iterAt, hlt']) fun k hk hkl => by simp only [World.iterAt]; rw [Array.getElem?_setIfInBounds_ne (Ne.symm hk)]
  · exact ⟨_, _, Lib.run_next_end_at w r (strOf l) pos ty h'.blk (by rw [strOf_size]; exact hlt), hd hlt⟩

/-! ### What the library's calls leave -/

theorem St.of_below (h : St w0 A w) {w' : World} (hb : RowKit.Below w.heap.size w w') : St w0 A w' := by
  obtain ⟨x, lx, a⟩ := h.sat
  refine ⟨hb.os.trans h.os, hb.tape.trans h.tape, hb.output.trans h.output, trivial, Nat.le_trans h.size hb.size, x, fun b o e => ?_, a⟩
  have hx := lx b o e
  have hlt := (Array.getElem?_eq_some_iff.1 hx).1
  show w'.heap[b]? = some o
  rw [hb.block b hlt]
  exact hx
theorem St.atS {a : Option Addr} {n c : Nat} {xs : List Value} (h : St w0 A w) [i : Gives A (Reads 1 (.slice a n c) n xs)] {k : Nat} (hk : k < xs.length) : ∃ b o, a = some ⟨b, o, none⟩ ∧ w.cell? ⟨b, o + k, none⟩ = some xs[k] := by
  obtain ⟨x, l, _, a', c', hv, _, hr⟩ := (h.ent i.ent).sat
  simp only [Value.slice.injEq, true_and] at hv
  obtain ⟨rfl, rfl⟩ := hv
  rcases hr with hr | ⟨b, o, cur, T, fr, rfl, hb, hc⟩
  · rw [hr] at hk; simp at hk
  · refine ⟨b, o, rfl, ?_⟩
    have : w.heap[b]? = some (.cells cur T fr) := l _ _ hb
    simp only [World.cell?, this]
    rw [← List.getElem?_eq_getElem hk, ← hc k hk]
    simp
theorem St.of_drewN (h : St w0 A w) (q : Nat) : St w0 A (w.drewN q) := ⟨h.os, h.tape, h.output, trivial, h.size, h.sat⟩
end

attribute [go_sem] mk_strOf strOf_data strOf_toList strOf_size strOf_extract strOf_append strEq_beq take_drop_all List.drop_zero Nat.sub_zero slice_ite binV_sadd
end Go.Proofs.YtmiohkmcnppaeaaGreatDoor

namespace Go.Proofs.YtmiohkmcnppaeaaGreatDoor
open Go.Shelf
set_option maxRecDepth 100000

def layDecode_ren : Go.Shelf.Ren := ⟨fun | 197 => 169 | 260 => 192 | n => n, fun | 9 => 9 | 21 => 21 | 3 => 3 | 4 => 4 | 5 => 5 | 105 => 171 | 119 => 205 | 0 => 0 | 46 => 128 | 139 => 208 | 138 => 207 | n => n, fun | 3 => 3 | 4 => 4 | n => n⟩

theorem layDecode : Go.Proofs.Lays.n197 Tryz.prog layDecode_ren := {
  mixed := by kernel_rfl,
  f197 := Tryz.func169.trans (congrArg some (by kernel_rfl)),
  f260 := Tryz.func192.trans (congrArg some (by kernel_rfl)),
  t0 := Tryz.underlying0,
  a0 := Tryz.isAgg0,
  z0 := Tryz.sizeOf0,
  v0 := Tryz.zeroValue0,
  t3 := Tryz.underlying3,
  a3 := Tryz.isAgg3,
  z3 := Tryz.sizeOf3,
  v3 := Tryz.zeroValue3,
  t4 := Tryz.underlying4,
  a4 := Tryz.isAgg4,
  z4 := Tryz.sizeOf4,
  v4 := Tryz.zeroValue4,
  t5 := Tryz.underlying5,
  a5 := Tryz.isAgg5,
  z5 := Tryz.sizeOf5,
  v5 := Tryz.zeroValue5,
  t9 := Tryz.underlying9,
  a9 := Tryz.isAgg9,
  z9 := Tryz.sizeOf9,
  v9 := Tryz.zeroValue9,
  t21 := Tryz.underlying21,
  a21 := Tryz.isAgg21,
  z21 := Tryz.sizeOf21,
  v21 := Tryz.zeroValue21,
  t46 := Tryz.underlying128,
  a46 := Tryz.isAgg128,
  z46 := Tryz.sizeOf128,
  v46 := Tryz.zeroValue128,
  t105 := Tryz.underlying171,
  a105 := Tryz.isAgg171,
  z105 := Tryz.sizeOf171,
  v105 := Tryz.zeroValue171,
  t119 := Tryz.underlying205,
  a119 := Tryz.isAgg205,
  z119 := Tryz.sizeOf205,
  t138 := Tryz.underlying207,
  a138 := Tryz.isAgg207,
  z138 := Tryz.sizeOf207,
  v138 := Tryz.zeroValue207,
  t139 := Tryz.underlying208,
  a139 := Tryz.isAgg208,
  z139 := Tryz.sizeOf208,
  v139 := Tryz.zeroValue208,
  g3 := by kernel_rfl,
  g4 := by kernel_rfl }

end Go.Proofs.YtmiohkmcnppaeaaGreatDoor
