/- The library's calls, in the worlds' own words: Split, Join, Contains, IndexByte, HasPrefix, Equal, DecodeRuneInString. -/
import Derived.Test.YtlnlomjdooobdaaDoorUs
import Derived.Test.YtlnlomjdooobdaaDoorLay
import Derived.Test.YtlnlomjdooobdaaDoorIr
import Derived.Lib.CountLaws
import Derived.Lib.SplitLaws
import Derived.Shelf.Strings.Prefix
namespace Go.Proofs.YtlnlomjdooobdaaDoor
open Go
set_option linter.unusedVariables false
set_option linter.unusedSimpArgs false

/-! ### The tables -/

def Tabs : HP := fun h =>
  (∃ cur T fr, h 1 = some (.cells cur T fr) ∧ ∀ c, c < 256 → cur[c]? = some (.int .u8 (Lib.firstT c))) ∧
  (∃ cur T fr, h 2 = some (.cells cur T fr) ∧ ∀ i, i < 16 → cur[2 * i]? = some (.int .u8 (Lib.accLo i)) ∧ cur[2 * i + 1]? = some (.int .u8 (Lib.accHi i))) ∧
  (∃ cur T fr m, h 0 = some (.cells cur T fr) ∧ cur[0]? = some (.int .i64 m))

theorem cell_of {w : World} {b : Nat} {cur : Array Value} {T : TypeId} {fr : Nat × Nat} (h : heapOf w b = some (.cells cur T fr)) (i : Nat) : w.cell? ⟨b, i, none⟩ = cur[i]? := by
  have : w.heap[b]? = some (.cells cur T fr) := h
  simp [World.cell?, this]

section
variable {w0 w : World} {A : HP}
theorem St.tabs (h : St w0 A w) [i : Gives A Tabs] : Lib.Utf8Tabs 1 2 w := by
  obtain ⟨x, l, ⟨c1, T1, f1, h1, k1⟩, ⟨c2, T2, f2, h2, k2⟩, _⟩ := (h.ent i.ent).sat
  exact ⟨fun c hc => by rw [cell_of (l _ _ h1), k1 c hc], fun j hj => by rw [cell_of (l _ _ h2), cell_of (l _ _ h2)]; exact k2 j hj⟩
theorem St.maxLen (h : St w0 A w) [i : Gives A Tabs] : ∃ m, w.cell? ⟨0, 0, none⟩ = some (.int .i64 m) := by
  obtain ⟨x, l, _, _, ⟨c0, T0, f0, m, h0, k0⟩⟩ := (h.ent i.ent).sat
  exact ⟨m, by rw [cell_of (l _ _ h0), k0]⟩
end

/-! ### Pieces between slashes -/

def pcs : List UInt8 → List (List UInt8)
  | [] => [[]]
  | c :: l => if c = 47 then [] :: pcs l else match pcs l with
    | p :: ps => (c :: p) :: ps
    | [] => [[c]]

theorem pcs_ne (l : List UInt8) : pcs l ≠ [] := by
  cases l with
  | nil => simp [pcs]
  | cons c l =>
    unfold pcs
    split
    · simp
    · split <;> simp

theorem pcs_index (l : List UInt8) : (∃ i, Lib.index l [47] = (i : Nat) ∧ i < l.length ∧ pcs l = l.take i :: pcs (l.drop (i + 1))) ∨ (Lib.index l [47] = -1 ∧ pcs l = [l]) := by
  induction l with
  | nil => exact .inr ⟨by simp [Lib.index], rfl⟩
  | cons c l ih =>
    by_cases hc : c = 47
    · subst hc
      exact .inl ⟨0, by simp [Lib.index], by simp, by simp [pcs]⟩
    · have hp : List.isPrefixOf [47] (c :: l) = false := by simp [List.isPrefixOf]; exact fun h => hc h.symm
      rcases ih with ⟨i, h1, h2, h3⟩ | ⟨h1, h2⟩
      · refine .inl ⟨i + 1, ?_, by simp; omega, ?_⟩
        · simp only [Lib.index, hp, h1]
          have : ((i : Int) == -1) = false := by simp
          simp [this]
        · simp only [pcs, hc, if_false, h3]
          simp
      · refine .inr ⟨?_, ?_⟩
        · simp [Lib.index, hp, h1]
        · simp only [pcs, hc, if_false, h2]

theorem indexB_47 (l : List UInt8) : Lib.indexB (strOf l) (strOf [47]) = Lib.index l [47] := by
  unfold Lib.indexB
  rw [strOf_data, strOf_data]

theorem splitB_47 : ∀ (n : Nat) (l : List UInt8), l.length ≤ n → Lib.splitB (strOf [47]) 0 (Lib.countB (strOf l) (strOf [47])) (strOf l) = (pcs l).map strOf := by
  intro n
  induction n with
  | zero =>
    intro l hl
    have : l = [] := List.eq_nil_of_length_eq_zero (by omega)
    subst this
    have hm : Lib.indexB (strOf []) (strOf [47]) = -1 := by rw [indexB_47]; simp [Lib.index]
    rw [Lib.splitB_miss _ _ _ _ hm]
    rfl
  | succ n ih =>
    intro l hl
    rcases pcs_index l with ⟨i, h1, h2, h3⟩ | ⟨h1, h2⟩
    · have hi : Lib.indexB (strOf l) (strOf [47]) = i := by rw [indexB_47, h1]
      have e2 : (strOf [47]).size = 1 := rfl
      have e1 : (strOf l).extract (i + (strOf [47]).size) (strOf l).size = strOf (l.drop (i + 1)) := by
        rw [e2, strOf_extract, strOf_size, List.take_of_length_le (by simp)]
      rw [Lib.countB_hit _ _ i (by rw [e2]; exact Nat.le_refl _) hi, e1, Nat.add_comm, Lib.splitB_hit _ _ _ _ i hi, e1, ih _ (by simp; omega), h3, strOf_extract]
      simp
    · have hm : Lib.indexB (strOf l) (strOf [47]) = -1 := by rw [indexB_47, h1]
      rw [Lib.splitB_miss _ _ _ _ hm, h2]
      rfl

theorem pcs_length (l : List UInt8) : (pcs l).length ≤ l.length + 1 := by
  induction l with
  | nil => simp [pcs]
  | cons c l ih =>
    unfold pcs
    split
    · simp; omega
    · split
      · rename_i h; rw [h] at ih; simp at ih ⊢; omega
      · simp

/-! ### The calls -/

section
variable {w0 w : World} {A : HP}

theorem split_lib (h : St w0 A w) [i : Gives A Tabs] {l : List UInt8} (hl : l.length < 4294967281) :
    Calls Tryd.prog 26 #[.string (strOf l), .string (strOf [47])] w fun e w' => ∃ g, St w0 (RowO 9 1 (.slice (some ⟨g, 0, none⟩) (pcs l).length (pcs l).length) (pcs l).length ((pcs l).map sv) * A) w' ∧ e = .returned (.slice (some ⟨g, 0, none⟩) (pcs l).length (pcs l).length) := by
  obtain ⟨m, hm⟩ := h.maxLen
  have h1 : 1 ≤ (strOf [47]).size := by rw [strOf_size]; exact Nat.le_refl _
  have hlen : (Lib.splitB (strOf [47]) 0 (Lib.countB (strOf l) (strOf [47])) (strOf l)).length = Lib.countB (strOf l) (strOf [47]) + 1 := Lib.splitB_all _ h1 0 _ _ rfl
  rw [splitB_47 _ l (Nat.le_refl _), List.length_map] at hlen
  refine (Any.strings_Split laySplit (by kernel_rfl) (strOf l) (strOf [47]) m w (by rw [strOf_size]; exact hl) hm h1).mono ?_
  rintro e w' ⟨rfl, rfl⟩
  rw [splitB_47 _ l (Nat.le_refl _), ← hlen]
  refine ⟨_, (h.alloc _).ent (Ent.sep (Ent.trans ?_ (Row.rowO _ _ _ _ _)) (Ent.rfl' A)), rfl⟩
  have hp := pcs_length l
  refine Ent.of fun x hx => .inr ⟨_, _, _, rfl, hx, Nat.le_refl _, ?_, by simp, ?_, by simp⟩
  · show _ ≤ 9223372036854775807
    omega
  · simp only [List.map_map, Nat.mul_one]
    rw [List.take_of_length_le (by simp)]
    rfl

theorem contains_lib (h : St w0 A w) {l : List UInt8} :
    Calls Tryd.prog 45 #[.string (strOf l), .string (strOf [47])] w fun e w' => St w0 A w' ∧ e = .returned (.bool (decide ((47 : UInt8) ∈ l))) := by
  refine (Any.strings_Contains_one layContains (strOf l) 47 w).mono ?_
  rintro e w' ⟨rfl, rfl⟩
  refine ⟨h, ?_⟩
  rw [strOf_data]
  have : ∀ l : List UInt8, (0 ≤ Lib.indexByte l 47) ↔ (47 : UInt8) ∈ l := fun l => by
    induction l with
    | nil => simp [Lib.indexByte]
    | cons b l ih =>
      have hg := Lib.indexByte_ge l 47
      simp only [Lib.indexByte, List.mem_cons]
      by_cases hb : b = 47
      · subst hb; simp
      · have hb' : (b == 47) = false := by simpa using hb
        have hb2 : ¬ (47 : UInt8) = b := fun e => hb e.symm
        simp only [hb', hb2, false_or, ← ih, Bool.false_eq_true, if_false]
        split
        · rename_i hx; simp only [beq_iff_eq] at hx; omega
        · rename_i hx; simp only [beq_iff_eq] at hx; omega
  simp only [this]

theorem prefix_lib (h : St w0 A w) {l p : List UInt8} :
    Calls Tryd.prog 25 #[.string (strOf l), .string (strOf p)] w fun e w' => St w0 A w' ∧ e = .returned (.bool (p.isPrefixOf l)) := by
  refine (Any.strings_HasPrefix layHasPrefix (strOf l) (strOf p) w).mono ?_
  rintro e w' ⟨rfl, rfl⟩
  exact ⟨h, by rw [strOf_data, strOf_data]; rfl⟩

theorem indexByte_lib (h : St w0 A w) {l : List UInt8} (c : UInt8) :
    Calls Tryd.prog 54 #[.string (strOf l), .int .u8 c.toNat] w fun e w' => St w0 A w' ∧ e = .returned (.int .i64 (Lib.indexByte l c)) := by
  refine (Any.strings_IndexByte layIndexByte (strOf l) (c.toNat : Int) w).mono ?_
  rintro e w' ⟨rfl, rfl⟩
  refine ⟨h, ?_⟩
  rw [strOf_data]
  simp

theorem decode_lib (h : St w0 A w) [i : Gives A Tabs] {l : List UInt8} :
    Calls Tryd.prog 61 #[.string (strOf l)] w fun e w' => St w0 A w' ∧ e = .returned (.tuple #[.int .i32 (if l = [] then 65533 else (decL l).1 : Nat), .int .i64 (if l = [] then 0 else (decL l).2 : Nat)]) := by
  refine (Any.utf8_DecodeRuneInString layDecode (strOf l) w h.tabs).mono ?_
  rintro e w' ⟨rfl, hb⟩
  refine ⟨h.of_below hb, ?_⟩
  have : Lib.decodeGo (strOf l) = if l = [] then (65533, 0) else decL l := by
    unfold Lib.decodeGo
    rw [strOf_size, decode_strOf]
    by_cases e : l = []
    · simp [e]
    · have : l.length ≠ 0 := fun h => e (List.eq_nil_of_length_eq_zero h)
      simp [e, this]
  rw [this]
  split <;> rfl
end
end Go.Proofs.YtlnlomjdooobdaaDoor
