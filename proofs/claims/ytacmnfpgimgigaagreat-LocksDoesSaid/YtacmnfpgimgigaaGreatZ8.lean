/- Slices: a row of one's own, what append makes of it; what a slice reads as. -/
import Derived.Test.YtacmnfpgimgigaaGreatZ1
import Derived.Test.YtacmnfpgimgigaaGreatZ2
import Derived.Test.YtacmnfpgimgigaaGreatZ3
import Derived.Test.YtacmnfpgimgigaaGreatZ4
import Derived.Test.YtacmnfpgimgigaaGreatZ5
import Derived.Test.YtacmnfpgimgigaaGreatZ6
import Derived.Test.YtacmnfpgimgigaaGreatZ7
import Derived.Deep.AppendSrc
namespace Go.Proofs.YtacmnfpgimgigaaGreat
open Go

theorem length_setRowL : ∀ (vs : List Value) (cs : List Value) (o : Nat), (setRowL cs o vs).length = cs.length
  | [], _, _ => rfl
  | v :: vs, cs, o => by simp [setRowL, length_setRowL vs]

theorem getElem?_setRowL_lt : ∀ (vs : List Value) (cs : List Value) (o k : Nat), k < o → (setRowL cs o vs)[k]? = cs[k]?
  | [], _, _, _, _ => rfl
  | v :: vs, cs, o, k, h => by
    simp only [setRowL]
    rw [getElem?_setRowL_lt vs _ (o + 1) k (by omega), List.getElem?_set_ne (by omega)]

theorem getElem?_setRowL_in : ∀ (vs : List Value) (cs : List Value) (o j : Nat), j < vs.length → o + vs.length ≤ cs.length → (setRowL cs o vs)[o + j]? = vs[j]?
  | v :: vs, cs, o, 0, _, hl => by
    simp only [setRowL, Nat.add_zero]
    rw [getElem?_setRowL_lt vs _ (o + 1) o (by omega), List.getElem?_set_self (by simp at hl; omega)]
    rfl
  | v :: vs, cs, o, j + 1, hj, hl => by
    simp only [setRowL]
    have := getElem?_setRowL_in vs (cs.set o v) (o + 1) j (by simpa using hj) (by simp at hl ⊢; omega)
    rw [show o + (j + 1) = o + 1 + j by omega, this]
    rfl

theorem getElem?_setRowL_ge : ∀ (vs : List Value) (cs : List Value) (o k : Nat), o + vs.length ≤ k → (setRowL cs o vs)[k]? = cs[k]?
  | [], _, _, _, _ => rfl
  | v :: vs, cs, o, k, h => by
    simp only [setRowL]
    simp only [List.length_cons] at h
    rw [getElem?_setRowL_ge vs _ (o + 1) k (by omega), List.getElem?_set_ne (by omega)]

theorem take_setRowL {vs cs : List Value} {o : Nat} (h : o + vs.length ≤ cs.length) : (setRowL cs o vs).take (o + vs.length) = cs.take o ++ vs := by
  apply List.ext_getElem?
  intro k
  rw [List.getElem?_take]
  split
  · rename_i hk
    rcases Nat.lt_or_ge k o with h1 | h1
    · rw [getElem?_setRowL_lt _ _ _ _ h1, List.getElem?_append_left (by simp; omega), List.getElem?_take, if_pos h1]
    · obtain ⟨j, rfl⟩ : ∃ j, k = o + j := ⟨k - o, by omega⟩
      rw [getElem?_setRowL_in _ _ _ _ (by omega) h, List.getElem?_append_right (by simp; omega)]
      congr 1
      simp; omega
  · rename_i hk
    rw [List.getElem?_eq_none]
    simp; omega

theorem heap_setCells (b : Nat) (T : TypeId) (fr : Nat × Nat) : ∀ (vs : List Value) (o : Nat) (w : World) (cur : Array Value), w.heap[b]? = some (.cells cur T fr) →
    (w.setCells b o vs).heap[b]? = some (.cells (setRowL cur.toList o vs).toArray T fr) ∧ (∀ k, k ≠ b → (w.setCells b o vs).heap[k]? = w.heap[k]?) ∧ (w.setCells b o vs).heap.size = w.heap.size ∧
      (w.setCells b o vs).os = w.os ∧ (w.setCells b o vs).tape = w.tape ∧ (w.setCells b o vs).output = w.output
  | [], o, w, cur, h => ⟨by simpa [World.setCells, setRowL] using h, fun _ _ => rfl, rfl, rfl, rfl, rfl⟩
  | v :: vs, o, w, cur, h => by
    have h1 : (w.setCell ⟨b, o, none⟩ v).heap[b]? = some (.cells (cur.setIfInBounds o v) T fr) := by
      simp only [World.setCell, Array.getElem?_modify, if_true]
      rw [h]; rfl
    obtain ⟨a1, a2, a3, a4, a5, a6⟩ := heap_setCells b T fr vs (o + 1) (w.setCell ⟨b, o, none⟩ v) (cur.setIfInBounds o v) h1
    refine ⟨?_, fun k hk => ?_, ?_, a4, a5, a6⟩
    · simpa [World.setCells, setRowL] using a1
    · exact (a2 k hk).trans (RowKit.Below.heap_setCell w ⟨b, o, none⟩ v k hk)
    · exact a3.trans (by simp [World.setCell])

/-- The slice value v owns the cells xs: n elements of s cells each, of type T; the block is its own, from its first cell. -/
def Row (T : TypeId) (s : Nat) (v : Value) (n : Nat) (xs : List Value) : HP := fun h =>
  (v = .slice none 0 0 ∧ n = 0 ∧ xs = []) ∨
  ∃ g cap cur, v = .slice (some ⟨g, 0, none⟩) n cap ∧ h g = some (.cells cur T (0, 0)) ∧ n ≤ cap ∧ cap ≤ maxLen ∧ cur.size = cap * s ∧ cur.toList.take (n * s) = xs ∧ xs.length = n * s

theorem Row.length {T s : Nat} {v : Value} {n : Nat} {xs : List Value} {h : Heap} (k : Row T s v n xs h) : xs.length = n * s := by
  rcases k with ⟨_, rfl, rfl⟩ | ⟨_, _, _, _, _, _, _, _, _, hl⟩
  · simp
  · exact hl

/-- What a slice's type is made of: the element's type, its cells, its bytes, its zero. -/
def rowTy (P : Program) (t : TypeId) : Option (TypeId × Nat × Nat × List Value) :=
  match P.underlying t with
  | some (.slice e) => match P.info? e with
    | some i => match i.zero with
      | some z => if z.cells.size = i.size then some (e, i.size, i.bytes, z.cells.toList) else none
      | none => none
    | none => none
  | _ => none

theorem rowTy_some {P : Program} {t e s bs : Nat} {zs : List Value} (h : rowTy P t = some (e, s, bs, zs)) :
    P.underlying t = some (.slice e) ∧ ∃ i z, P.info? e = some i ∧ i.zero = some z ∧ i.size = s ∧ i.bytes = bs ∧ z.cells.size = s ∧ z.cells.toList = zs := by
  unfold rowTy at h
  split at h <;> try (cases h; done)
  rename_i e' hu
  split at h <;> try (cases h; done)
  rename_i i hi
  split at h <;> try (cases h; done)
  rename_i z hz
  split at h <;> try (cases h; done)
  rename_i hc
  simp only [Option.some.injEq, Prod.mk.injEq] at h
  obtain ⟨rfl, rfl, rfl, rfl⟩ := h
  exact ⟨hu, i, z, hi, hz, rfl, rfl, hc, rfl⟩

/-- append, to a row of one's own, from whatever source. -/
theorem St.append {P : Program} {w0 w : World} {F : HP} {t tx ty e s bs : Nat} {zs : List Value} {v x : Value} {n m : Nat} {xs news : List Value} {K : Value → World → Prop} {θ : Tag K}
    (h : St w0 (Row e s v n xs * F) w) (ht : rowTy P t = some (e, s, bs, zs)) (hs : Src P s tx x m news w) (h63 : n + m ≤ maxLen) (hb : (n + m) * bs ≤ 140737488355328)
    (hK : ∀ v' w', St w0 (Row e s v' (n + m) (xs ++ news) * F) w' → K v' w') : semD P (kAppend #[t, tx] ty #[v, x]) w K θ := by
  show semD P (Builtin.append_ #[t, tx] ty #[v, x]) w K θ
  obtain ⟨hu, i, z, hi, hz, rfl, rfl, hzs, rfl⟩ := rowTy_some ht
  obtain ⟨hh, hl, h1, h2, hd, l1, l2, hr, hf⟩ := h.sat
  have hnl : xs.length = n * i.size := hr.length
  have h63' : ((n + m : Nat) : Int) ≤ 9223372036854775807 := by simp only [maxLen] at h63; omega
  have grow : ∀ (base : Option Addr) (cap : Nat), v = .slice base n cap → cap < n + m → (Builtin.firstCells i.size n (.slice base n cap)).run P w.drew = .ok xs.toArray w.drew →
      semD P (Builtin.append_ #[t, tx] ty #[v, x]) w K θ := by
    intro base cap hv hc hold
    subst hv
    have := run_append_grow_src (P := P) w t tx ty e i z hu hi hz base n cap xs hold x m news hs hc h63' (growslice_fits hc hb)
    refine ⟨_, _, this, hK _ _ ?_⟩
    have hg := grownCap_ge w (n + m) cap e
    have hcm := grownCap_le_maxLen w (n + m) cap e h63
    have hst : St w0 F w.drew := (St.drew h).right
    refine (hst.alloc _).ent (Ent.sep (Ent.of fun k hk => .inr ⟨w.heap.size, grownCap w (n + m) cap e, _, rfl, hk, hg, hcm, ?_, ?_, ?_⟩) (Ent.rfl' F))
    · simp only [Array.size_append, List.size_toArray, List.length_append, size_zeroCells, hzs, hnl, hs.newsLen, ← Nat.add_mul]
      congr 1
      omega
    · have hlen : (xs ++ news).length = (n + m) * i.size := by rw [List.length_append, hnl, hs.newsLen, Nat.add_mul]
      simp only [Array.toList_append]
      rw [← hlen]
      exact List.take_left
    · rw [List.length_append, hnl, hs.newsLen, Nat.add_mul]
  rcases hr with ⟨rfl, rfl, rfl⟩ | ⟨g, cap, cur, rfl, hg, hnc, hcm, hcs, htake, _⟩
  · by_cases hm : m = 0
    · subst hm
      have hn : news = [] := List.eq_nil_of_length_eq_zero (by simpa using hs.newsLen)
      subst hn
      refine ⟨.slice none 0 0, w, ?_, hK _ _ h⟩
      rcases hs.kind with ⟨e', hk⟩ | hk <;>
        simp [Builtin.append_, run_underlying hu, run_underlying hk, sizeOf, typeInfo, hi, hs.len, hs.cells]
    · exact grow none 0 rfl (by omega) (by simp [Builtin.firstCells])
  · have hgw : w.heap[g]? = some (.cells cur e (0, 0)) := hl g _ (l1 g _ hg)
    by_cases hroom : n + m ≤ cap
    · have hfit : n * i.size + news.length ≤ cur.size := by rw [hs.newsLen, hcs, ← Nat.add_mul]; exact Nat.mul_le_mul_right _ hroom
      have := run_append_room_src (P := P) w t tx ty e i hu hi g 0 n cap x m news hs hroom
        (fun j hj => by rw [Nat.zero_add, cell_of_heap hgw]; simp [show n * i.size + j < cur.size by omega]) (fun j _ => frozen_of_heap hgw _)
      refine ⟨_, _, this, hK _ _ ?_⟩
      obtain ⟨a1, a2, a3, a4, a5, a6⟩ := heap_setCells g e (0, 0) news (0 + n * i.size) w cur hgw
      refine h.turn (b := g) a4 a5 a6 (by omega) (fun k hk => ?_) (fun k hk _ => a2 k hk) ⟨fun k => if k = g then some (.cells (setRowL cur.toList (0 + n * i.size) news).toArray e (0, 0)) else none, fun k o he => ?_, fun k o he => ?_, ?_⟩
      · rcases hk with ⟨hv, _⟩ | ⟨g', cap', cur', hv, hk, _⟩
        · cases hv
        · simp only [Value.slice.injEq, Option.some.injEq, Addr.mk.injEq] at hv
          obtain ⟨⟨rfl, _⟩, _⟩ := hv
          exact ⟨_, hk⟩
      · by_cases hkg : k = g <;> simp_all
      · by_cases hkg : k = g
        · subst hkg
          simp only [if_true] at he
          exact a1.trans he
        · simp [hkg] at he
      · refine .inr ⟨g, cap, (setRowL cur.toList (0 + n * i.size) news).toArray, rfl, if_pos rfl, by omega, hcm, by simp [length_setRowL, hcs], ?_, ?_⟩
        · have := take_setRowL (vs := news) (cs := cur.toList) (o := n * i.size) (by simpa using hfit)
          rw [Nat.zero_add, Nat.add_mul, ← hs.newsLen]
          simp only [this, htake]
        · rw [List.length_append, hnl, hs.newsLen, Nat.add_mul]
    · refine grow (some ⟨g, 0, none⟩) cap rfl (by omega) ?_
      have hc : ∀ j u, xs[j]? = some u → w.drew.cell? ((⟨g, 0, none⟩ : Addr).add j) = some u := by
        intro j u hu
        rw [add_lit, Nat.zero_add]
        have : w.drew.cell? ⟨g, j, none⟩ = cur[j]? := cell_of_heap (w := w.drew) hgw j
        rw [this]
        rw [← htake, List.getElem?_take] at hu
        split at hu
        · simpa using hu
        · cases hu
      exact run_firstCells_some w.drew i.size n ⟨g, 0, none⟩ n cap xs hnl hc

/-! ### Parts with something hidden -/

def HP.ex {α : Type} (A : α → HP) : HP := fun h => ∃ x, A x h
def HP.fact (p : Prop) (A : HP) : HP := fun h => p ∧ A h

theorem ex_sep {α : Type} (A : α → HP) (F : HP) : HP.ex A * F = HP.ex fun x => A x * F := by
  funext h
  apply propext
  constructor
  · rintro ⟨h1, h2, d, l1, l2, ⟨x, a⟩, f⟩; exact ⟨x, h1, h2, d, l1, l2, a, f⟩
  · rintro ⟨x, h1, h2, d, l1, l2, a, f⟩; exact ⟨h1, h2, d, l1, l2, ⟨x, a⟩, f⟩
theorem fact_sep (p : Prop) (A F : HP) : HP.fact p A * F = HP.fact p (A * F) := by
  funext h
  apply propext
  constructor
  · rintro ⟨h1, h2, d, l1, l2, ⟨x, a⟩, f⟩; exact ⟨x, h1, h2, d, l1, l2, a, f⟩
  · rintro ⟨x, h1, h2, d, l1, l2, a, f⟩; exact ⟨h1, h2, d, l1, l2, ⟨x, a⟩, f⟩
theorem St.ex {α : Type} {w0 w : World} {A : α → HP} (h : St w0 (HP.ex A) w) : ∃ x, St w0 (A x) w := by
  obtain ⟨y, l, x, a⟩ := h.sat
  exact ⟨x, h.os, h.tape, h.output, h.drawn, h.size, y, l, a⟩
theorem St.exF {α : Type} {w0 w : World} {A : α → HP} {F : HP} (h : St w0 (HP.ex A * F) w) : ∃ x, St w0 (A x * F) w := by rw [ex_sep] at h; exact h.ex
theorem St.factF {w0 w : World} {p : Prop} {A F : HP} (h : St w0 (HP.fact p A * F) w) : p ∧ St w0 (A * F) w := by
  rw [fact_sep] at h
  obtain ⟨y, l, x, a⟩ := h.sat
  exact ⟨x, h.os, h.tape, h.output, h.drawn, h.size, y, l, a⟩
theorem Ent.ex {α : Type} (A : α → HP) (x : α) : Ent (A x) (HP.ex A) := Ent.of fun _ a => ⟨x, a⟩
theorem Ent.fact {p : Prop} (hp : p) (A : HP) : Ent A (HP.fact p A) := Ent.of fun _ a => ⟨hp, a⟩

/-- A store of one cell into a block of one's own. -/
theorem St.store {w0 w : World} {F : HP} {c off : Nat} {arr arr' : Array Value} {T : TypeId} {v : Value} {K : World → Prop} {θ : Tag K} (h : St w0 (Blk c (.cells arr T (0, 0)) * F) w) (he : arr.setIfInBounds off v = arr') (hi : off < arr.size) (hv : isCell v = true)
    (hK : ∀ w', St w0 (Blk c (.cells arr' T (0, 0)) * F) w' → K w') : storeD (some 1) (.pointer (some ⟨c, off, none⟩)) v w K θ := by
  subst he
  rw [storeD_cell hv (by rw [h.cells]; simp [hi]) (h.thaw off)]
  exact hK _ (h.setCell off v)

/-- A new block of cells. -/
theorem St.new {w0 w : World} {F : HP} {T : TypeId} {cells : Array Value} {K : Value → World → Prop} {θ : Tag K} (h : St w0 F w) (hK : ∀ b w', St w0 (Blk b (.cells cells T (0, 0)) * F) w' → K (.pointer (some ⟨b, 0, none⟩)) w') : newD T cells w K θ :=
  hK _ _ (h.alloc _)

theorem Row.form {w0 w : World} {T s : Nat} {v : Value} {n : Nat} {xs : List Value} {F : HP} (h : St w0 (Row T s v n xs * F) w) : ∃ a c, v = .slice a n c ∧ xs.length = n * s := by
  obtain ⟨_, _, h1, _, _, _, _, hr, _⟩ := h.sat
  rcases hr with ⟨rfl, rfl, rfl⟩ | ⟨g, cap, cur, rfl, _, _, _, _, _, hl⟩
  · exact ⟨_, _, rfl, by simp⟩
  · exact ⟨_, _, rfl, hl⟩

theorem Row.nil (T s : Nat) : ∀ h, Row T s (.slice none 0 0) 0 [] h := fun _ => .inl ⟨rfl, rfl, rfl⟩
theorem Ent.nilRow (T s : Nat) (F : HP) : Ent F (Row T s (.slice none 0 0) 0 [] * F) :=
  Ent.of fun h f => ⟨(fun _ => none : Heap), h, fun _ => .inl rfl, (fun _ _ e => (by cases e)), hle.rfl' h, Row.nil T s _, f⟩

/-! ### What a slice reads as -/

/-- The slice value v has n elements of s cells, and these are its cells. -/
def Reads (s : Nat) (v : Value) (n : Nat) (xs : List Value) : HP := fun h =>
  xs.length = n * s ∧ ∃ a c, v = .slice a n c ∧ n ≤ c ∧ (xs = [] ∨ ∃ b o cur T fr, a = some ⟨b, o, none⟩ ∧ h b = some (.cells cur T fr) ∧ ∀ j, j < xs.length → cur[o + j]? = xs[j]?)

theorem Row.reads (T s : Nat) (v : Value) (n : Nat) (xs : List Value) : Ent (Row T s v n xs) (Reads s v n xs) := by
  refine Ent.of fun h k => ⟨k.length, ?_⟩
  rcases k with ⟨rfl, rfl, rfl⟩ | ⟨g, cap, cur, rfl, hg, hn, hc, hs, ht, hl⟩
  · exact ⟨none, 0, rfl, Nat.le_refl _, .inl rfl⟩
  · refine ⟨_, _, rfl, hn, .inr ⟨g, 0, cur, T, (0, 0), rfl, hg, fun j hj => ?_⟩⟩
    rw [Nat.zero_add, ← ht, List.getElem?_take, if_pos (by omega)]
    simp

/-- What a slice of one's own or another's reads as, in the world at hand. -/
structure Rd (s : Nat) (v : Value) (n : Nat) (xs : List Value) (w : World) : Prop where
  length : xs.length = n * s
  form : ∃ a c, v = .slice a n c ∧ n ≤ c ∧ (xs = [] ∨ ∃ b o, a = some ⟨b, o, none⟩ ∧ ∀ j, j < xs.length → w.cell? ⟨b, o + j, none⟩ = xs[j]?)

theorem St.rd {w0 w : World} {s : Nat} {v : Value} {n : Nat} {xs : List Value} (h : St w0 (Reads s v n xs) w) : Rd s v n xs w := by
  obtain ⟨x, l, hx, a, c, rfl, hnc, hr⟩ := h.sat
  refine ⟨hx, a, c, rfl, hnc, ?_⟩
  rcases hr with hr | ⟨b, o, cur, T, fr, rfl, hb, hr⟩
  · exact .inl hr
  · exact .inr ⟨b, o, rfl, fun j hj => by rw [cell_of_heap (l b _ hb)]; exact hr j hj⟩

theorem Rd.drew {s : Nat} {v : Value} {n : Nat} {xs : List Value} {w : World} (h : Rd s v n xs w) : Rd s v n xs w.drew := ⟨h.length, h.form⟩

theorem Rd.src {P : Program} {s : Nat} {v : Value} {n : Nat} {xs : List Value} {w : World} (h : Rd s v n xs w) {tx e' : TypeId} (hk : P.underlying tx = some (.slice e')) (h1 : ∀ u ∈ xs, isCell u = true) (hsn : xs = [] → n = 0) : Src P s tx v n xs w := by
  obtain ⟨a, c, rfl, hnc, hr | ⟨b, o, rfl, hr⟩⟩ := h.form
  · have hn := hsn hr
    subst hr hn
    cases a with
    | none => exact Src.ofNil w hk c
    | some a => exact Src.ofSlice w hk a 0 c [] (by simp) (by simp) (by simp)
  · refine Src.ofSlice w hk _ n c xs h.length (fun j u hu => ?_) (fun u hu => by rw [← isCell_eq]; exact h1 u hu)
    rw [add_lit]
    have hj : j < xs.length := (List.getElem?_eq_some_iff.1 hu).1
    rw [hr j hj]; exact hu

/-! ### Bytes -/

def bv (b : UInt8) : Value := .int .u8 (b.toNat : Int)

abbrev RdB (v : Value) (bs : List UInt8) : HP := Reads 1 v bs.length (bs.map bv)

theorem bv_isCell (bs : List UInt8) : ∀ u ∈ bs.map bv, isCell u = true := by
  intro u hu
  obtain ⟨b, _, rfl⟩ := List.mem_map.1 hu
  rfl

/-- A byte slice: its form, and each byte. -/
theorem St.bytes {w0 w : World} {v : Value} {bs : List UInt8} (h : St w0 (RdB v bs) w) : ∃ a c, v = .slice a bs.length c ∧ bs.length ≤ c ∧ (bs = [] ∨ ∃ b o, a = some ⟨b, o, none⟩ ∧ ∀ j, j < bs.length → w.cell? ⟨b, o + j, none⟩ = some (bv (bs.getD j 0))) := by
  obtain ⟨a, c, hv, hnc, hr⟩ := h.rd.form
  refine ⟨a, c, hv, hnc, ?_⟩
  rcases hr with hr | ⟨b, o, rfl, hr⟩
  · exact .inl (by simpa using hr)
  · refine .inr ⟨b, o, rfl, fun j hj => ?_⟩
    rw [hr j (by simpa using hj)]
    simp [List.getElem?_eq_getElem hj]

/-- A part of a slice. -/
theorem Reads.sub {s n lo k c : Nat} {a : Option Addr} {xs : List Value} (h : lo + k ≤ n) :
    Ent (Reads s (.slice a n c) n xs) (Reads s (.slice (if c = lo then a else a.map (·.add (lo * s))) k (c - lo)) k ((xs.drop (lo * s)).take (k * s))) := by
  refine Ent.of fun hp ⟨hl, a', c', hv, hnc, hr⟩ => ?_
  simp only [Value.slice.injEq, true_and] at hv
  obtain ⟨rfl, rfl⟩ := hv
  have hle : lo * s + k * s ≤ xs.length := by rw [hl, ← Nat.add_mul]; exact Nat.mul_le_mul_right _ h
  refine ⟨by simp; omega, _, _, rfl, by omega, ?_⟩
  rcases hr with rfl | ⟨b, o, cur, T, fr, rfl, hb, hr⟩
  · exact .inl (by simp)
  · by_cases hc : c = lo
    · left
      have : k = 0 := by omega
      subst this; simp
    · rw [if_neg hc]
      refine .inr ⟨b, o + lo * s, cur, T, fr, by simp [add_lit], hb, fun j hj => ?_⟩
      have hj' : j < k * s := by simp at hj; omega
      rw [List.getElem?_take, if_pos hj', List.getElem?_drop, Nat.add_assoc]
      exact hr _ (by omega)

theorem RdB.sub {lo k c : Nat} {a : Option Addr} {bs : List UInt8} (h : lo + k ≤ bs.length) :
    Ent (RdB (.slice a bs.length c) bs) (RdB (.slice (if c = lo then a else a.map (·.add lo)) k (c - lo)) ((bs.drop lo).take k)) := by
  have := Reads.sub (s := 1) (n := bs.length) (lo := lo) (k := k) (c := c) (a := a) (xs := bs.map bv) h
  have hk : ((bs.drop lo).take k).length = k := by simp; omega
  unfold RdB
  rw [hk]
  simpa [List.map_drop, List.map_take] using this

/-- What append leaves: the new row; and the old one reads on, in the same block or in its own. -/
def AppP (T : TypeId) (s : Nat) (v : Value) (n : Nat) (xs : List Value) (v' : Value) (m : Nat) (ys : List Value) : HP := fun h =>
  (Row T s v' m ys h ∧ Reads s v n xs h) ∨ (Row T s v' m ys * Row T s v n xs) h

theorem AppP.row (T : TypeId) (s : Nat) (v : Value) (n : Nat) (xs : List Value) (v' : Value) (m : Nat) (ys : List Value) : Ent (AppP T s v n xs v' m ys) (Row T s v' m ys) := fun h k => by
  rcases k with ⟨k, _⟩ | k
  · exact ⟨h, hle.rfl' h, k⟩
  · exact Ent.left _ _ h k
theorem AppP.old (T : TypeId) (s : Nat) (v : Value) (n : Nat) (xs : List Value) (v' : Value) (m : Nat) (ys : List Value) : Ent (AppP T s v n xs v' m ys) (Reads s v n xs) := fun h k => by
  rcases k with ⟨_, k⟩ | k
  · exact ⟨h, hle.rfl' h, k⟩
  · exact ((Ent.right _ _).trans (Row.reads _ _ _ _ _)) h k

theorem St.appendKeep {P : Program} {w0 w : World} {F : HP} {t tx ty e s bs : Nat} {zs : List Value} {v x : Value} {n m : Nat} {xs news : List Value} {K : Value → World → Prop} {θ : Tag K}
    (h : St w0 (Row e s v n xs * F) w) (ht : rowTy P t = some (e, s, bs, zs)) (hs : Src P s tx x m news w) (h63 : n + m ≤ maxLen) (hb : (n + m) * bs ≤ 140737488355328)
    (hK : ∀ v' w', St w0 (AppP e s v n xs v' (n + m) (xs ++ news) * F) w' → K v' w') : semD P (kAppend #[t, tx] ty #[v, x]) w K θ := by
  show semD P (Builtin.append_ #[t, tx] ty #[v, x]) w K θ
  obtain ⟨hu, i, z, hi, hz, rfl, rfl, hzs, rfl⟩ := rowTy_some ht
  obtain ⟨hh, hl, h1, h2, hd, l1, l2, hr, hf⟩ := h.sat
  have hnl : xs.length = n * i.size := hr.length
  have h63' : ((n + m : Nat) : Int) ≤ 9223372036854775807 := by simp only [maxLen] at h63; omega
  have grow : ∀ (base : Option Addr) (cap : Nat), v = .slice base n cap → cap < n + m → (Builtin.firstCells i.size n (.slice base n cap)).run P w.drew = .ok xs.toArray w.drew →
      semD P (Builtin.append_ #[t, tx] ty #[v, x]) w K θ := by
    intro base cap hv hc hold
    subst hv
    have := run_append_grow_src (P := P) w t tx ty e i z hu hi hz base n cap xs hold x m news hs hc h63' (growslice_fits hc hb)
    refine ⟨_, _, this, hK _ _ ?_⟩
    have hg := grownCap_ge w (n + m) cap e
    have hcm := grownCap_le_maxLen w (n + m) cap e h63
    refine (((St.drew h).alloc _).ac (sep_assoc _ _ _).symm).ent (Ent.sep ((Ent.sep (Ent.of fun k hk => .inr ⟨w.heap.size, grownCap w (n + m) cap e, _, rfl, hk, hg, hcm, ?_, ?_, ?_⟩) (Ent.rfl' _)).trans (Ent.of fun _ k => .inr k)) (Ent.rfl' F))
    · simp only [Array.size_append, List.size_toArray, List.length_append, size_zeroCells, hzs, hnl, hs.newsLen, ← Nat.add_mul]
      congr 1
      omega
    · have hlen : (xs ++ news).length = (n + m) * i.size := by rw [List.length_append, hnl, hs.newsLen, Nat.add_mul]
      simp only [Array.toList_append]
      rw [← hlen]
      exact List.take_left
    · rw [List.length_append, hnl, hs.newsLen, Nat.add_mul]
  rcases hr with ⟨rfl, rfl, rfl⟩ | ⟨g, cap, cur, rfl, hg, hnc, hcm, hcs, htake, _⟩
  · by_cases hm : m = 0
    · subst hm
      have hn : news = [] := List.eq_nil_of_length_eq_zero (by simpa using hs.newsLen)
      subst hn
      refine ⟨.slice none 0 0, w, ?_, hK _ _ (h.ent (Ent.sep (Ent.of fun k hk => .inl ⟨.inl ⟨rfl, rfl, rfl⟩, ?_⟩) (Ent.rfl' F)))⟩
      · rcases hs.kind with ⟨e', hk⟩ | hk <;>
          simp [Builtin.append_, run_underlying hu, run_underlying hk, sizeOf, typeInfo, hi, hs.len, hs.cells]
      · exact ⟨by simp, none, 0, rfl, Nat.le_refl _, .inl rfl⟩
    · exact grow none 0 rfl (by omega) (by simp [Builtin.firstCells])
  · have hgw : w.heap[g]? = some (.cells cur e (0, 0)) := hl g _ (l1 g _ hg)
    by_cases hroom : n + m ≤ cap
    · have hfit : n * i.size + news.length ≤ cur.size := by rw [hs.newsLen, hcs, ← Nat.add_mul]; exact Nat.mul_le_mul_right _ hroom
      have := run_append_room_src (P := P) w t tx ty e i hu hi g 0 n cap x m news hs hroom
        (fun j hj => by rw [Nat.zero_add, cell_of_heap hgw]; simp [show n * i.size + j < cur.size by omega]) (fun j _ => frozen_of_heap hgw _)
      refine ⟨_, _, this, hK _ _ ?_⟩
      obtain ⟨a1, a2, a3, a4, a5, a6⟩ := heap_setCells g e (0, 0) news (0 + n * i.size) w cur hgw
      refine h.turn (b := g) a4 a5 a6 (by omega) (fun k hk => ?_) (fun k hk _ => a2 k hk) ⟨fun k => if k = g then some (.cells (setRowL cur.toList (0 + n * i.size) news).toArray e (0, 0)) else none, fun k o he => ?_, fun k o he => ?_, ?_⟩
      · rcases hk with ⟨hv, _⟩ | ⟨g', cap', cur', hv, hk, _⟩
        · cases hv
        · simp only [Value.slice.injEq, Option.some.injEq, Addr.mk.injEq] at hv
          obtain ⟨⟨rfl, _⟩, _⟩ := hv
          exact ⟨_, hk⟩
      · by_cases hkg : k = g <;> simp_all
      · by_cases hkg : k = g
        · subst hkg
          simp only [if_true] at he
          exact a1.trans he
        · simp [hkg] at he
      · refine .inl ⟨.inr ⟨g, cap, (setRowL cur.toList (0 + n * i.size) news).toArray, rfl, if_pos rfl, by omega, hcm, by simp [length_setRowL, hcs], ?_, ?_⟩, hnl, some ⟨g, 0, none⟩, cap, rfl, hnc, .inr ⟨g, 0, (setRowL cur.toList (0 + n * i.size) news).toArray, e, (0, 0), rfl, if_pos rfl, fun j hj => ?_⟩⟩
        · have := take_setRowL (vs := news) (cs := cur.toList) (o := n * i.size) (by simpa using hfit)
          rw [Nat.zero_add, Nat.add_mul, ← hs.newsLen]
          simp only [this, htake]
        · rw [List.length_append, hnl, hs.newsLen, Nat.add_mul]
        · have := getElem?_setRowL_lt news cur.toList (0 + n * i.size) (0 + j) (by omega)
          rw [List.getElem?_toArray, this, Nat.zero_add, ← htake, List.getElem?_take, if_pos (by omega)]
    · refine grow (some ⟨g, 0, none⟩) cap rfl (by omega) ?_
      have hc : ∀ j u, xs[j]? = some u → w.drew.cell? ((⟨g, 0, none⟩ : Addr).add j) = some u := by
        intro j u hu
        rw [add_lit, Nat.zero_add]
        have : w.drew.cell? ⟨g, j, none⟩ = cur[j]? := cell_of_heap (w := w.drew) hgw j
        rw [this]
        rw [← htake, List.getElem?_take] at hu
        split at hu
        · simpa using hu
        · cases hu
      exact run_firstCells_some w.drew i.size n ⟨g, 0, none⟩ n cap xs hnl hc

/-! ### A slice out of a literal -/

def mkZeros (zs : List Value) (m : Nat) : List Value := (List.range m).map fun i => zs.toArray[i % zs.length]!

theorem St.buildSlice {P : Program} {w0 w : World} {F : HP} {t e s bs n : Nat} {zs cells : List Value} {parts : List (Nat × Value)} {K : Value → World → Prop} {θ : Tag K}
    (h : St w0 F w) (ht : rowTy P t = some (e, s, bs, zs)) (hf : fillL (fun i => some (i * s, s)) (mkZeros zs (n * s)) parts = some cells) (hsz : 0 < n * s) (hsz2 : n * s ≤ 16777216)
    (hK : ∀ v' w', St w0 (Row e s v' n cells * F) w' → K v' w') : semD P (kBuildSlice t n parts.toArray) w K θ := by
  show semD P (Instr.buildSlice t n parts.toArray) w K θ
  obtain ⟨hu, i, z, hi, hz, rfl, rfl, hzs, rfl⟩ := rowTy_some ht
  have hzero : (zeroValue e).run P w = .ok z w := by
    simp only [zeroValue, Sem.run_bind, run_typeInfo' hi, hz, Result.andThen_ok]; rfl
  have hfill := fill_eq (fun i' => some (i' * i.size, i.size)) parts (mkZeros z.cells.toList (n * i.size))
  rw [hf] at hfill
  have harr : (Array.range (n * i.size)).map (fun x => z.cells[x % z.cells.size]!) = (mkZeros z.cells.toList (n * i.size)).toArray := by
    apply Array.ext'
    simp [mkZeros]
  have hlen : cells.length = n * i.size := by
    have : ∀ (ps : List (Nat × Value)) (cs cs' : List Value), fillL (fun i' => some (i' * i.size, i.size)) cs ps = some cs' → cs'.length = cs.length := by
      intro ps
      induction ps with
      | nil => intro cs cs' h; simp only [fillL, Option.some.injEq] at h; rw [h]
      | cons p ps ih =>
        intro cs cs' h
        simp only [fillL] at h
        split at h
        · cases h
        · rw [ih _ _ h, length_setRowL]
    rw [this _ _ _ hf]; simp [mkZeros]
  have hrun : (Instr.buildSlice t n parts.toArray).run P w = .ok (.slice (some ⟨w.heap.size, 0, none⟩) n n) (w.alloc (.cells cells.toArray e)) := by
    unfold Instr.buildSlice
    simp only [Sem.run_bind, run_underlying' hu, Result.andThen_ok, run_sizeOf' hi, if_neg (show ¬ (n * i.size > 2 ^ 24) by omega), if_neg (show ¬ (n * i.size = 0) by omega), hzero, Sem.run_pure, harr, hfill, Option.map_some]
    rfl
  refine ⟨_, _, hrun, hK _ _ ((h.alloc _).ent (Ent.sep (Ent.of fun k hk => .inr ⟨w.heap.size, n, cells.toArray, rfl, hk, Nat.le_refl _, ?_, by simpa using hlen, ?_, hlen⟩) (Ent.rfl' F)))⟩
  · simp only [maxLen]
    have : 1 ≤ i.size := Nat.pos_of_mul_pos_left hsz |> fun h => by omega
    have := Nat.le_mul_of_pos_right n this
    omega
  · simp only [← hlen, List.take_length]

end Go.Proofs.YtacmnfpgimgigaaGreat
