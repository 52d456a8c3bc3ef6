/- Quote: a strings.Builder of the call's own, in the worlds' own words. -/
import Derived.Test.YtlnlomjdooobdaaDoorNaP
import Derived.Shelf.Strings.Builder1
import Derived.Lib.AppendIntMem
namespace Go.Proofs.YtlnlomjdooobdaaDoor
open Go
open Go.RowKit (Below)
set_option linter.unusedVariables false
set_option linter.unusedSimpArgs false
set_option maxRecDepth 100000

theorem extraWB : Builder.Extra Tryd.prog layWriteByte_ren where
  sizeBuilder := by kernel_rfl
  liesBuilder := by kernel_rfl
  t5 := Tryd.underlying5
  a5 := Tryd.isAgg5
  z5 := Tryd.sizeOf5
  v5 := Tryd.zeroValue5
  infoByte := by kernel_rfl
  cellsByte := by kernel_rfl
  sizeByte := by kernel_rfl
  neB5 := by decide
theorem extraWS : Builder.Extra Tryd.prog layWriteString_ren where
  sizeBuilder := by kernel_rfl
  liesBuilder := by kernel_rfl
  t5 := Tryd.underlying5
  a5 := Tryd.isAgg5
  z5 := Tryd.sizeOf5
  v5 := Tryd.zeroValue5
  infoByte := by kernel_rfl
  cellsByte := by kernel_rfl
  sizeByte := by kernel_rfl
  neB5 := by decide
theorem extraSt : Builder.Extra Tryd.prog layString_ren where
  sizeBuilder := by kernel_rfl
  liesBuilder := by kernel_rfl
  t5 := Tryd.underlying5
  a5 := Tryd.isAgg5
  z5 := Tryd.sizeOf5
  v5 := Tryd.zeroValue5
  infoByte := by kernel_rfl
  cellsByte := by kernel_rfl
  sizeByte := by kernel_rfl
  neB5 := by decide

structure Qb (W w : World) (P : Nat) (l : List UInt8) : Prop where
  bel : Below W.heap.size W w
  bld : Lib.IsBuilder 72 5 W.heap.size P (Lib.byteCells l) w
theorem Qb.size {W w : World} {P : Nat} {l : List UInt8} (h : Qb W w P l) : W.heap.size ≤ w.heap.size := h.bel.size

theorem wb_lib {W w : World} {P : Nat} {l : List UInt8} (h : Qb W w P l) (hl : l.length + 1 ≤ 140737488355328) (c : UInt8) :
    Calls Tryd.prog 37 #[.pointer (some ⟨P, 0, none⟩), .int .u8 c.toNat] w fun e w' => Qb W w' P (l ++ [c]) ∧ e = .returned .nilIface := by
  refine (Any.Builder_WriteByte layWriteByte extraWB W.heap.size P (Lib.byteCells l) c.toNat w h.bld (by simpa [Lib.byteCells] using hl) h.size).mono ?_
  rintro e w' ⟨rfl, h1, h2⟩
  refine ⟨⟨h.bel.trans h2, .inr ?_⟩, rfl⟩
  have : Lib.byteCells (l ++ [c]) = Lib.byteCells l ++ [.int .u8 c.toNat] := by simp [Lib.byteCells]
  rw [this]; exact h1
theorem ws_lib {W w : World} {P : Nat} {l : List UInt8} (h : Qb W w P l) (s : List UInt8) (hl : l.length + s.length ≤ 140737488355328) :
    Calls Tryd.prog 39 #[.pointer (some ⟨P, 0, none⟩), .string (strOf s)] w fun e w' => Qb W w' P (l ++ s) ∧ ∃ n, e = .returned (.tuple #[n, .nilIface]) := by
  refine (Any.Builder_WriteString layWriteString extraWS W.heap.size P (Lib.byteCells l) (strOf s) w h.bld (by rw [strOf_size]; simpa [Lib.byteCells] using hl) h.size).mono ?_
  rintro e w' ⟨rfl, h1, h2⟩
  refine ⟨⟨h.bel.trans h2, .inr ?_⟩, _, rfl⟩
  have : Lib.byteCells (l ++ s) = Lib.byteCells l ++ Lib.strCells (strOf s) := by simp [Lib.byteCells, Lib.strCells, strOf_data]
  rw [this]; exact h1
theorem str_lib {W w : World} {P : Nat} {l : List UInt8} (h : Qb W w P l) :
    Calls Tryd.prog 40 #[.pointer (some ⟨P, 0, none⟩)] w fun e w' => Below W.heap.size W w' ∧ e = .returned (.string (strOf l)) := by
  refine (Any.Builder_String_any layString extraSt W.heap.size P l w h.bld h.size).mono ?_
  rintro e w' ⟨rfl, h2⟩
  exact ⟨h.bel.trans h2, rfl⟩
theorem qb_new {W w : World} {P : Nat} (h : St W (Blk P (.cells #[.pointer none, .slice none 0 0] 72 (0, 0)) * Old W) w) : Qb W w P [] := by
  have hb := h.comm.below
  refine ⟨hb, .inl ⟨?_, .slice none 0 0, h.blk, World.ownsRow_nil _ _ _ _, by simp [Value.ownBlock]⟩⟩
  obtain ⟨x, lx, h1, h2, hdis, l1, l2, a, b⟩ := h.sat
  rcases Nat.lt_or_ge P W.heap.size with hlt | hge
  · have o2 := b P _ (Array.getElem?_eq_getElem hlt)
    have o1 : h1 P = some _ := a
    rcases hdis P with e | e
    · rw [e] at o1; cases o1
    · rw [e] at o2; cases o2
  · exact hge

/-- A byte that stands in a word as it is. -/
def plainS : List UInt8 := [95, 45, 46, 47, 58, 43, 44, 64, 37, 61, 126]
def plainB (c : UInt8) : Bool := decide (97 ≤ c.toNat ∧ c.toNat ≤ 122) || decide (65 ≤ c.toNat ∧ c.toNat ≤ 90) || decide (48 ≤ c.toNat ∧ c.toNat ≤ 57) || decide (0 ≤ Lib.indexByte plainS c)

theorem plain_any (c : UInt8) (w : World) : Calls Tryd.prog 38 #[.int .u8 c.toNat] w fun e w' => w' = w ∧ e = .returned (.bool (plainB c)) := by
  refine F38.calls (by simp) ?_
  unfold F38.code
  obtain ⟨n, hn⟩ : ∃ n, n = c.toNat := ⟨_, rfl⟩
  by_cases c1 : 97 ≤ n ∧ n ≤ 122
  · have hp : plainB c = true := by simp [plainB, ← hn, c1]
    have i1 : (97 : Int) ≤ n := by omega
    have i2 : (n : Int) ≤ 122 := by omega
    rw [hp, ← hn]
    simp -dsimp -implicitDefEqProofs (disch := omega) only [go_sem, reqD_of, dec_t, dec_f, wrap_i64, wrap_u32, wrap_u64, wrap_u8, i1, i2]
  by_cases c2 : 65 ≤ n ∧ n ≤ 90
  · have hp : plainB c = true := by simp [plainB, ← hn, c2]
    have i1 : ¬ (97 : Int) ≤ n := by omega
    have i2 : (65 : Int) ≤ n := by omega
    have i3 : (n : Int) ≤ 90 := by omega
    rw [hp, ← hn]
    simp -dsimp -implicitDefEqProofs (disch := omega) only [go_sem, reqD_of, dec_t, dec_f, wrap_i64, wrap_u32, wrap_u64, wrap_u8, i1, i2, i3]
  by_cases c3 : 48 ≤ n ∧ n ≤ 57
  · have hp : plainB c = true := by simp [plainB, ← hn, c3]
    have i1 : ¬ (97 : Int) ≤ n := by omega
    have i2 : ¬ (65 : Int) ≤ n := by omega
    have i3 : (48 : Int) ≤ n := by omega
    have i4 : (n : Int) ≤ 57 := by omega
    rw [hp, ← hn]
    simp -dsimp -implicitDefEqProofs (disch := omega) only [go_sem, reqD_of, dec_t, dec_f, wrap_i64, wrap_u32, wrap_u64, wrap_u8, i1, i2, i3, i4]
  have hp : plainB c = decide (0 ≤ Lib.indexByte plainS c) := by simp [plainB, ← hn, c1, c2, c3]
  have fin : ∀ {K : Ending → World → Prop}, (∀ e w', e = .returned (.int .i64 (Lib.indexByte plainS c)) ∧ w' = w → K e w') → Calls Tryd.prog 54 #[.string (strOf [95, 45, 46, 47, 58, 43, 44, 64, 37, 61, 126]), .int .u8 n] w K := by
    intro K hK
    refine (Any.strings_IndexByte layIndexByte (strOf plainS) (n : Int) w).mono ?_
    rintro e w' ⟨rfl, rfl⟩
    refine hK _ _ ⟨?_, rfl⟩
    rw [strOf_data, hn]
    simp
  rw [hp, ← hn]
  by_cases i1 : (97 : Int) ≤ n
  · have i2 : ¬ (n : Int) ≤ 122 := by omega
    have i3 : (65 : Int) ≤ n := by omega
    have i4 : ¬ (n : Int) ≤ 90 := by omega
    have i5 : (48 : Int) ≤ n := by omega
    have i6 : ¬ (n : Int) ≤ 57 := by omega
    simp -dsimp -implicitDefEqProofs (disch := omega) only [go_sem, reqD_of, dec_t, dec_f, wrap_i64, wrap_u32, wrap_u64, wrap_u8, i1, i2, i3, i4, i5, i6]
    refine fin ?_
    rintro e w' ⟨rfl, rfl⟩
    simp -dsimp -implicitDefEqProofs (disch := omega) only [go_sem, reqD_of, dec_t, dec_f, wrap_i64, wrap_u32, wrap_u64, wrap_u8]
  by_cases i3 : (65 : Int) ≤ n
  · have i4 : ¬ (n : Int) ≤ 90 := by omega
    have i5 : (48 : Int) ≤ n := by omega
    have i6 : ¬ (n : Int) ≤ 57 := by omega
    simp -dsimp -implicitDefEqProofs (disch := omega) only [go_sem, reqD_of, dec_t, dec_f, wrap_i64, wrap_u32, wrap_u64, wrap_u8, i1, i3, i4, i5, i6]
    refine fin ?_
    rintro e w' ⟨rfl, rfl⟩
    simp -dsimp -implicitDefEqProofs (disch := omega) only [go_sem, reqD_of, dec_t, dec_f, wrap_i64, wrap_u32, wrap_u64, wrap_u8]
  by_cases i5 : (48 : Int) ≤ n
  · have i6 : ¬ (n : Int) ≤ 57 := by omega
    simp -dsimp -implicitDefEqProofs (disch := omega) only [go_sem, reqD_of, dec_t, dec_f, wrap_i64, wrap_u32, wrap_u64, wrap_u8, i1, i3, i5, i6]
    refine fin ?_
    rintro e w' ⟨rfl, rfl⟩
    simp -dsimp -implicitDefEqProofs (disch := omega) only [go_sem, reqD_of, dec_t, dec_f, wrap_i64, wrap_u32, wrap_u64, wrap_u8]
  simp -dsimp -implicitDefEqProofs (disch := omega) only [go_sem, reqD_of, dec_t, dec_f, wrap_i64, wrap_u32, wrap_u64, wrap_u8, i1, i3, i5]
  refine fin ?_
  rintro e w' ⟨rfl, rfl⟩
  simp -dsimp -implicitDefEqProofs (disch := omega) only [go_sem, reqD_of, dec_t, dec_f, wrap_i64, wrap_u32, wrap_u64, wrap_u8]
end Go.Proofs.YtlnlomjdooobdaaDoor
