/- Assertions on parts of memory, block by block; what stays when a part turns. -/
import Derived.Test.YtacmnfpgimgigaaGreatZ1
import Derived.Test.YtacmnfpgimgigaaGreatZ2
import Derived.Test.YtacmnfpgimgigaaGreatZ3
import Derived.Test.YtacmnfpgimgigaaGreatZ4
import Derived.Test.YtacmnfpgimgigaaGreatZ5
namespace Go.Proofs.YtacmnfpgimgigaaGreat
open Go
set_option linter.unusedVariables false

def Heap := Nat → Option Obj
def HP := Heap → Prop

def hle (h h' : Heap) : Prop := ∀ b o, h b = some o → h' b = some o
def hdisj (h h' : Heap) : Prop := ∀ b, h b = none ∨ h' b = none
def hun (h h' : Heap) : Heap := fun b => match h b with | some o => some o | none => h' b

theorem hle.rfl' (h : Heap) : hle h h := fun _ _ e => e
theorem hle.trans {a b c : Heap} (h : hle a b) (k : hle b c) : hle a c := fun x o e => k x o (h x o e)
theorem hle_hun_left (a b : Heap) : hle a (hun a b) := fun x o e => by simp [hun, e]
theorem hle_hun_right {a b : Heap} (d : hdisj a b) : hle b (hun a b) := fun x o e => by
  rcases d x with h | h
  · simp [hun, h, e]
  · rw [h] at e; cases e
theorem hun_hle {a b c : Heap} (h : hle a c) (k : hle b c) : hle (hun a b) c := fun x o e => by
  unfold hun at e
  cases ha : a x with
  | some y => rw [ha] at e; exact h x o (by rw [ha]; exact e)
  | none => rw [ha] at e; exact k x o e
theorem hdisj.symm {a b : Heap} (h : hdisj a b) : hdisj b a := fun x => (h x).symm
theorem hdisj.mono {a b a' b' : Heap} (h : hdisj a b) (ha : hle a' a) (hb : hle b' b) : hdisj a' b' := fun x => by
  rcases h x with e | e
  · left; cases ha' : a' x with
    | none => rfl
    | some o => rw [ha x o ha'] at e; cases e
  · right; cases hb' : b' x with
    | none => rfl
    | some o => rw [hb x o hb'] at e; cases e
theorem hdisj_hun {a b c : Heap} (h : hdisj a c) (k : hdisj b c) : hdisj (hun a b) c := fun x => by
  rcases h x with e | e
  · rcases k x with e' | e'
    · left; simp [hun, e, e']
    · exact .inr e'
  · exact .inr e

/-- Two parts, apart. -/
def HP.sep (A B : HP) : HP := fun h => ∃ h1 h2, hdisj h1 h2 ∧ hle h1 h ∧ hle h2 h ∧ A h1 ∧ B h2

instance : Mul HP := ⟨HP.sep⟩

theorem sep_def (A B : HP) (h : Heap) : (A * B) h = ∃ h1 h2, hdisj h1 h2 ∧ hle h1 h ∧ hle h2 h ∧ A h1 ∧ B h2 := rfl

theorem sep_comm (A B : HP) : A * B = B * A := by
  funext h
  apply propext
  constructor <;> rintro ⟨h1, h2, d, l1, l2, a, b⟩ <;> exact ⟨h2, h1, d.symm, l2, l1, b, a⟩

theorem sep_assoc (A B C : HP) : A * B * C = A * (B * C) := by
  funext h
  apply propext
  constructor
  · rintro ⟨h12, h3, d, l12, l3, ⟨h1, h2, d12, l1, l2, a, b⟩, c⟩
    exact ⟨h1, hun h2 h3, (hdisj_hun d12.symm (d.mono l1 (hle.rfl' _)).symm).symm, l1.trans l12, hun_hle (l2.trans l12) l3, a, h2, h3, d.mono l2 (hle.rfl' _), hle_hun_left _ _, hle_hun_right (d.mono l2 (hle.rfl' _)), b, c⟩
  · rintro ⟨h1, h23, d, l1, l23, a, ⟨h2, h3, d23, l2, l3, b, c⟩⟩
    exact ⟨hun h1 h2, h3, hdisj_hun (d.mono (hle.rfl' _) l3) d23, hun_hle l1 (l2.trans l23), l3.trans l23, ⟨h1, h2, d.mono (hle.rfl' _) l2, hle_hun_left _ _, hle_hun_right (d.mono (hle.rfl' _) l2), a, b⟩, c⟩

instance : Std.Associative (α := HP) (· * ·) := ⟨sep_assoc⟩
instance : Std.Commutative (α := HP) (· * ·) := ⟨sep_comm⟩

/-- What holds of a part of it. -/
def Ent (A B : HP) : Prop := ∀ h, A h → ∃ h', hle h' h ∧ B h'

theorem Ent.rfl' (A : HP) : Ent A A := fun h a => ⟨h, hle.rfl' h, a⟩
theorem Ent.of {A B : HP} (k : ∀ h, A h → B h) : Ent A B := fun h a => ⟨h, hle.rfl' h, k h a⟩
theorem Ent.trans {A B C : HP} (h : Ent A B) (k : Ent B C) : Ent A C := fun x a => by
  obtain ⟨y, l, b⟩ := h x a
  obtain ⟨z, l', c⟩ := k y b
  exact ⟨z, l'.trans l, c⟩
theorem Ent.sep {A A' B B' : HP} (h : Ent A A') (k : Ent B B') : Ent (A * B) (A' * B') := by
  rintro x ⟨h1, h2, d, l1, l2, a, b⟩
  obtain ⟨y, ly, a'⟩ := h h1 a
  obtain ⟨z, lz, b'⟩ := k h2 b
  exact ⟨x, hle.rfl' x, y, z, d.mono ly lz, ly.trans l1, lz.trans l2, a', b'⟩
theorem Ent.left (A B : HP) : Ent (A * B) A := fun _ ⟨h1, _, _, l1, _, a, _⟩ => ⟨h1, l1, a⟩
theorem Ent.right (A B : HP) : Ent (A * B) B := fun _ ⟨_, h2, _, _, l2, _, b⟩ => ⟨h2, l2, b⟩
theorem Ent.of_eq {A B : HP} (h : A = B) : Ent A B := h ▸ Ent.rfl' A

def Blk (b : Nat) (o : Obj) : HP := fun h => h b = some o

/-- Memory as it was in w0. -/
def Old (w0 : World) : HP := fun h => ∀ b o, w0.heap[b]? = some o → h b = some o

def heapOf (w : World) : Heap := fun b => w.heap[b]?

/-- The world w: no stream has turned since w0, no block has gone; a part of its memory is as A tells. -/
structure St (w0 : World) (A : HP) (w : World) : Prop where
  os : w.os = w0.os
  tape : w.tape = w0.tape
  output : w.output = w0.output
  drawn : w0.drawn ≤ w.drawn
  size : w0.heap.size ≤ w.heap.size
  sat : ∃ h, hle h (heapOf w) ∧ A h

theorem St.ent {w0 w : World} {A B : HP} (h : St w0 A w) (k : Ent A B) : St w0 B w := by
  obtain ⟨x, l, a⟩ := h.sat
  obtain ⟨y, l', b⟩ := k x a
  exact ⟨h.os, h.tape, h.output, h.drawn, h.size, y, l'.trans l, b⟩
theorem St.ac {w0 w : World} {A B : HP} (h : St w0 A w) (e : A = B) : St w0 B w := e ▸ h
theorem St.left {w0 w : World} {A B : HP} (h : St w0 (A * B) w) : St w0 A w := h.ent (Ent.left A B)
theorem St.right {w0 w : World} {A B : HP} (h : St w0 (A * B) w) : St w0 B w := h.ent (Ent.right A B)

/-- The second, third, .. part to the front. -/
theorem St.sw2 {w0 w : World} {A B C : HP} (h : St w0 (A * (B * C)) w) : St w0 (B * (A * C)) w := h.ac (by ac_rfl)
theorem St.sw3 {w0 w : World} {A B C D : HP} (h : St w0 (A * (B * (C * D))) w) : St w0 (C * (A * (B * D))) w := h.ac (by ac_rfl)
theorem St.sw4 {w0 w : World} {A B C D E : HP} (h : St w0 (A * (B * (C * (D * E)))) w) : St w0 (D * (A * (B * (C * E)))) w := h.ac (by ac_rfl)
theorem St.sw5 {w0 w : World} {A B C D E F : HP} (h : St w0 (A * (B * (C * (D * (E * F))))) w) : St w0 (E * (A * (B * (C * (D * F))))) w := h.ac (by ac_rfl)
theorem St.sw6 {w0 w : World} {A B C D E F G : HP} (h : St w0 (A * (B * (C * (D * (E * (F * G)))))) w) : St w0 (F * (A * (B * (C * (D * (E * G)))))) w := h.ac (by ac_rfl)
theorem St.comm {w0 w : World} {A B : HP} (h : St w0 (A * B) w) : St w0 (B * A) w := h.ac (by ac_rfl)
/-- The second, third part is let go. -/
theorem St.drop2 {w0 w : World} {A B C : HP} (h : St w0 (A * (B * C)) w) : St w0 (A * C) w := h.sw2.right
theorem St.drop3 {w0 w : World} {A B C D : HP} (h : St w0 (A * (B * (C * D))) w) : St w0 (A * (B * D)) w := h.sw3.right

theorem St.start (w : World) : St w (Old w) w := ⟨rfl, rfl, rfl, Nat.le_refl _, Nat.le_refl _, heapOf w, hle.rfl' _, fun _ _ h => h⟩

theorem St.below {w0 w : World} {F : HP} (h : St w0 (Old w0 * F) w) : RowKit.Below w0.heap.size w0 w := by
  refine ⟨h.os, h.tape, h.output, h.size, fun k hk => ?_⟩
  obtain ⟨x, l, h1, _, _, l1, _, a, _⟩ := h.sat
  have := l k _ (l1 k _ (a k _ (Array.getElem?_eq_getElem hk)))
  rw [Array.getElem?_eq_getElem hk]; exact this

theorem St.drew {w0 w : World} {A : HP} (h : St w0 A w) : St w0 A w.drew := ⟨h.os, h.tape, h.output, Nat.le_trans h.drawn (Nat.le_succ _), h.size, h.sat⟩

theorem St.blk {w0 w : World} {b : Nat} {o : Obj} {F : HP} (h : St w0 (Blk b o * F) w) : w.heap[b]? = some o := by
  obtain ⟨x, l, h1, _, _, l1, _, a, _⟩ := h.sat
  exact l b o (l1 b o a)

theorem cell_of_heap {w : World} {b : Nat} {arr : Array Value} {T : TypeId} {fr : Nat × Nat} (h : w.heap[b]? = some (.cells arr T fr)) (i : Nat) : w.cell? ⟨b, i, none⟩ = arr[i]? := by
  simp [World.cell?, h]
theorem frozen_of_heap {w : World} {b : Nat} {arr : Array Value} {T : TypeId} (h : w.heap[b]? = some (.cells arr T (0, 0))) (i : Nat) : w.frozen? ⟨b, i, none⟩ = false := by
  simp [World.frozen?, h]

/-- All cells of a block of one's own, as one fact. -/
theorem St.cells {w0 w : World} {b : Nat} {arr : Array Value} {T : TypeId} {fr : Nat × Nat} {F : HP} (h : St w0 (Blk b (.cells arr T fr) * F) w) (i : Nat) : w.cell? ⟨b, i, none⟩ = arr[i]? := cell_of_heap h.blk i
theorem St.thaw {w0 w : World} {b : Nat} {arr : Array Value} {T : TypeId} {F : HP} (h : St w0 (Blk b (.cells arr T (0, 0)) * F) w) (i : Nat) : w.frozen? ⟨b, i, none⟩ = false := frozen_of_heap h.blk i

theorem drawn_setCells (b : Nat) : ∀ (vs : List Value) (o : Nat) (w : World), (w.setCells b o vs).drawn = w.drawn
  | [], _, _ => rfl
  | v :: vs, o, w => by rw [World.setCells, drawn_setCells b vs]; rfl

/-- One block turns, all others stay. -/
theorem St.turn {w0 w w' : World} {b : Nat} {A A' F : HP} (h : St w0 (A * F) w) (ho : w'.os = w.os) (ht : w'.tape = w.tape) (hu : w'.output = w.output) (hs : w.heap.size ≤ w'.heap.size)
    (hA : ∀ h, A h → ∃ o, h b = some o) (hk : ∀ k, k ≠ b → k < w.heap.size → w'.heap[k]? = w.heap[k]?) (hA' : ∃ h', (∀ k o, h' k = some o → k = b ∨ w.heap.size ≤ k) ∧ hle h' (heapOf w') ∧ A' h')
    (hdr : w.drawn ≤ w'.drawn := by first | exact Nat.le_refl _ | simp only [drawn_setCells, Nat.le_refl]) : St w0 (A' * F) w' := by
  obtain ⟨x, l, h1, h2, d, l1, l2, a, f⟩ := h.sat
  obtain ⟨o, ho1⟩ := hA h1 a
  obtain ⟨h', hd', hl', a'⟩ := hA'
  have hb2 : h2 b = none := (d b).resolve_left (by rw [ho1]; simp)
  have hlt : ∀ k o, h2 k = some o → k < w.heap.size := fun k o e => (Array.getElem?_eq_some_iff.1 (l k o (l2 k o e))).1
  have hl2 : hle h2 (heapOf w') := fun k o e => by
    have hne : k ≠ b := fun e' => by subst e'; rw [hb2] at e; cases e
    show w'.heap[k]? = some o
    rw [hk k hne (hlt k o e)]
    exact l k o (l2 k o e)
  refine ⟨ho.trans h.os, ht.trans h.tape, hu.trans h.output, Nat.le_trans h.drawn hdr, Nat.le_trans h.size hs, heapOf w', hle.rfl' _, h', h2, fun k => ?_, hl', hl2, a', f⟩
  cases hk' : h' k with
  | none => exact .inl rfl
  | some o' =>
    right
    rcases hd' k o' hk' with rfl | hge
    · exact hb2
    · cases he : h2 k with
      | none => rfl
      | some o'' => have := hlt k o'' he; omega

theorem St.blk_turn {w0 w w' : World} {b : Nat} {o o' : Obj} {F : HP} (h : St w0 (Blk b o * F) w) (ho : w'.os = w.os) (ht : w'.tape = w.tape) (hu : w'.output = w.output) (hs : w.heap.size ≤ w'.heap.size)
    (hb : w'.heap[b]? = some o') (hk : ∀ k, k ≠ b → k < w.heap.size → w'.heap[k]? = w.heap[k]?)
    (hdr : w.drawn ≤ w'.drawn := by first | exact Nat.le_refl _ | simp only [drawn_setCells, Nat.le_refl]) : St w0 (Blk b o' * F) w' :=
  h.turn (b := b) (hdr := hdr) ho ht hu hs (fun _ a => ⟨_, a⟩) hk ⟨fun k => if k = b then some o' else none, fun k o e => by by_cases hkb : k = b <;> simp_all, fun k o e => by
    by_cases hkb : k = b
    · subst hkb; simp only [if_true] at e; show w'.heap[k]? = some o; rw [hb]; exact e
    · simp [hkb] at e, by simp [Blk]⟩

theorem St.setCell {w0 w : World} {b : Nat} {arr : Array Value} {T : TypeId} {fr : Nat × Nat} {F : HP} (h : St w0 (Blk b (.cells arr T fr) * F) w) (i : Nat) (v : Value) :
    St w0 (Blk b (.cells (arr.setIfInBounds i v) T fr) * F) (w.setCell ⟨b, i, none⟩ v) := by
  have hb := h.blk
  have hlt := (Array.getElem?_eq_some_iff.1 hb).1
  refine h.blk_turn rfl rfl rfl (by simp [World.setCell]) ?_ (fun k hk _ => RowKit.Below.heap_setCell w ⟨b, i, none⟩ v k hk)
  simp only [World.setCell, Array.getElem?_modify, if_true]
  rw [hb]; rfl

/-- A new block. -/
theorem St.alloc {w0 w : World} {F : HP} (h : St w0 F w) (o : Obj) : St w0 (Blk w.heap.size o * F) (w.alloc o) := by
  obtain ⟨x, l, f⟩ := h.sat
  have hlt : ∀ k o, x k = some o → k < w.heap.size := fun k o e => (Array.getElem?_eq_some_iff.1 (l k o e)).1
  refine ⟨h.os, h.tape, h.output, h.drawn, Nat.le_trans h.size (by simp), heapOf (w.alloc o), hle.rfl' _, fun k => if k = w.heap.size then some o else none, x, fun k => ?_, fun k o' e => ?_, fun k o' e => ?_, by simp [Blk], f⟩
  · by_cases hk : k = w.heap.size
    · right; cases e : x k with
      | none => rfl
      | some o' => have := hlt k o' e; omega
    · left; simp [hk]
  · by_cases hk : k = w.heap.size
    · subst hk; simp only [if_true] at e; cases e; exact heap_alloc_new w o
    · simp [hk] at e
  · show (w.alloc o).heap[k]? = some o'
    rw [RowKit.Below.heap_alloc w o k (hlt k o' e)]; exact l k o' e

/-- A fact that a part of memory tells of every world it lies in. -/
theorem St.use {w0 w : World} {A F : HP} {R : HP} (h : St w0 (A * F) w) (k : Ent F R) : St w0 R w := h.right.ent k

end Go.Proofs.YtacmnfpgimgigaaGreat
