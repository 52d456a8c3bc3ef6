/- The library's calls, in the worlds' own words: Split, IndexByte, DecodeRuneInString. -/
import Derived.Test.YtkijkoakloacoaaDoorUpA
import Derived.Test.YtkijkoakloacoaaDoorLay
import Derived.Test.YtkijkoakloacoaaDoorIr
namespace Go.Proofs.YtkijkoakloacoaaDoor
open Go
set_option linter.unusedVariables false
set_option linter.unusedSimpArgs false

/-! ### The tables -/

def Tabs : HP := fun h =>
  (∃ cur T fr, h 1 = some (.cells cur T fr) ∧ ∀ c, c < 256 → cur[c]? = some (.int .u8 (Lib.firstT c))) ∧
  (∃ cur T fr, h 2 = some (.cells cur T fr) ∧ ∀ i, i < 16 → cur[2 * i]? = some (.int .u8 (Lib.accLo i)) ∧ cur[2 * i + 1]? = some (.int .u8 (Lib.accHi i))) ∧
  (∃ cur T fr m, h 0 = some (.cells cur T fr) ∧ cur[0]? = some (.int .i64 m))

theorem cell_of {w : World} {b : Nat} {cur : Array Value} {T : TypeId} {fr : Nat × Nat} (h : heapOf w b = some (.cells cur T fr)) (i : Nat) : w.cell? ⟨b, i, none⟩ = cur[i]? := by
  have : w.heap[b]? = some (.cells cur T fr) := h
  simp [World.cell?, this]

section
variable {w0 w : World} {A : HP}
theorem St.tabs (h : St w0 A w) [i : Gives A Tabs] : Lib.Utf8Tabs 1 2 w := by
  obtain ⟨x, l, ⟨c1, T1, f1, h1, k1⟩, ⟨c2, T2, f2, h2, k2⟩, _⟩ := (h.ent i.ent).sat
  exact ⟨fun c hc => by rw [cell_of (l _ _ h1), k1 c hc], fun j hj => by rw [cell_of (l _ _ h2), cell_of (l _ _ h2)]; exact k2 j hj⟩
theorem St.maxLen (h : St w0 A w) [i : Gives A Tabs] : ∃ m, w.cell? ⟨0, 0, none⟩ = some (.int .i64 m) := by
  obtain ⟨x, l, _, _, ⟨c0, T0, f0, m, h0, k0⟩⟩ := (h.ent i.ent).sat
  exact ⟨m, by rw [cell_of (l _ _ h0), k0]⟩
end

/-! ### The calls -/

section
variable {w0 w : World} {A : HP}

theorem split_lib (d : UInt8) (h : St w0 A w) [i : Gives A Tabs] {l : List UInt8} (hl : l.length < 4294967281) :
    Calls Tryd.prog 43 #[.string (strOf l), .string (strOf [d])] w fun e w' => ∃ g, St w0 (RowO 9 1 (.slice (some ⟨g, 0, none⟩) (pcs d l).length (pcs d l).length) (pcs d l).length ((pcs d l).map sv) * A) w' ∧ e = .returned (.slice (some ⟨g, 0, none⟩) (pcs d l).length (pcs d l).length) := by
  obtain ⟨m, hm⟩ := h.maxLen
  have h1 : 1 ≤ (strOf [d]).size := by rw [strOf_size]; exact Nat.le_refl _
  have hlen : (Lib.splitB (strOf [d]) 0 (Lib.countB (strOf l) (strOf [d])) (strOf l)).length = Lib.countB (strOf l) (strOf [d]) + 1 := Lib.splitB_all _ h1 0 _ _ rfl
  rw [splitB_d d _ l (Nat.le_refl _), List.length_map] at hlen
  refine (Any.strings_Split laySplit (by kernel_rfl) (strOf l) (strOf [d]) m w (by rw [strOf_size]; exact hl) hm h1).mono ?_
  rintro e w' ⟨rfl, rfl⟩
  rw [splitB_d d _ l (Nat.le_refl _), ← hlen]
  refine ⟨_, (h.alloc _).ent (Ent.sep (Ent.trans ?_ (Row.rowO _ _ _ _ _)) (Ent.rfl' A)), rfl⟩
  have hp := pcs_length d l
  refine Ent.of fun x hx => .inr ⟨_, _, _, rfl, hx, Nat.le_refl _, ?_, by simp, ?_, by simp⟩
  · show _ ≤ 9223372036854775807
    omega
  · simp only [List.map_map, Nat.mul_one]
    rw [List.take_of_length_le (by simp)]
    rfl

theorem indexByte_lib (h : St w0 A w) {l : List UInt8} (c : UInt8) :
    Calls Tryd.prog 102 #[.string (strOf l), .int .u8 c.toNat] w fun e w' => St w0 A w' ∧ e = .returned (.int .i64 (Lib.indexByte l c)) := by
  refine (Any.strings_IndexByte layIndexByte (strOf l) (c.toNat : Int) w).mono ?_
  rintro e w' ⟨rfl, rfl⟩
  refine ⟨h, ?_⟩
  rw [strOf_data]
  simp

theorem decode_lib (h : St w0 A w) [i : Gives A Tabs] {l : List UInt8} :
    Calls Tryd.prog 92 #[.string (strOf l)] w fun e w' => St w0 A w' ∧ e = .returned (.tuple #[.int .i32 (if l = [] then 65533 else (decL l).1 : Nat), .int .i64 (if l = [] then 0 else (decL l).2 : Nat)]) := by
  refine (Any.utf8_DecodeRuneInString layDecode (strOf l) w h.tabs).mono ?_
  rintro e w' ⟨rfl, hb⟩
  refine ⟨h.of_below hb, ?_⟩
  have : Lib.decodeGo (strOf l) = if l = [] then (65533, 0) else decL l := by
    unfold Lib.decodeGo
    rw [strOf_size, decode_strOf]
    by_cases e : l = []
    · simp [e]
    · have : l.length ≠ 0 := fun h => e (List.eq_nil_of_length_eq_zero h)
      simp [e, this]
  rw [this]
  split <;> rfl
end
end Go.Proofs.YtkijkoakloacoaaDoor
