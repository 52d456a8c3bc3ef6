/- users: rows of accounts that are read. (pick) law06: pick, name, among, table. law06: rows of accounts. -/
import Derived.Test.YtkijkoakloacoaaGreatDoorUE
import Derived.Test.YtkijkoakloacoaaGreatDoorUA
namespace Go.Proofs.YtkijkoakloacoaaGreatDoor
open Go
set_option linter.unusedVariables false
set_option linter.unusedSimpArgs false
set_option maxRecDepth 100000

abbrev ReadsA (v : Value) (L : List AV) : HP := Reads 4 v L.length (L.flatMap accC)
abbrev cellA (b : Nat) (v : Value) : HP := Blk b (.cells #[v] 38 (0, 0))
def PrintR (w0 : World) (C1 T m : Nat) (A : HP) (L : List AV) (e : Ending) (w' : World) : Prop :=
  (e = .returned (.tuple #[]) ∧ ∃ vl : Value, printF (accs L) = .ok (textF (accs L)) ∧ St w0 (cellT C1 T * (TabQ T m vl (.map none) L * A)) w') ∨
  (∃ k : Nat, e = .panicked (trouble k) ∧ (k ≠ 0 ∧ printF (accs L) = .error k) ∧ St w0 A w')

theorem accs_take (L : List AV) (i : Nat) : accs (L.take i) = (accs L).take i := by simp
/-- What row i of accounts holds. -/
theorem row_acc {w0 w : World} {B : HP} (h : St w0 B w) {av : Option Addr} {cv : Nat} {L : List AV} (hv : Ent B (ReadsA (.slice av L.length cv) L)) {i : Nat} (hi : i < L.length) :
    ∃ b o, av = some ⟨b, o, none⟩ ∧ rowV w ⟨b, o + i * 4, none⟩ 4 = some (.agg (accL L[i].1 L[i].2).toArray) := by
  obtain ⟨_, a', c', hv', _, hrow⟩ := St.rowsAt accC_len (by decide) (h.ent hv)
  simp only [Value.slice.injEq, true_and] at hv'
  obtain ⟨rfl, rfl⟩ := hv'
  obtain ⟨b, o, rfl, hr, _⟩ := hrow i hi
  exact ⟨b, o, rfl, hr⟩
/-- .. and its members. -/
theorem ms_slice {w0 w : World} {B : HP} (h : St w0 B w) {a : Acc} {v : Value} (hv : Ent B (ReadsT v a.members)) : ∃ x c, v = .slice x a.members.length c := by
  obtain ⟨x, c, e, _⟩ := h.texts hv
  exact ⟨x, c, e⟩
end Go.Proofs.YtkijkoakloacoaaGreatDoor

namespace Go.Proofs.YtkijkoakloacoaaGreatDoor
open Go
set_option linter.unusedVariables false
set_option linter.unusedSimpArgs false
set_option maxRecDepth 100000

def InI (c : Int) : Prop := -9223372036854775808 ≤ c ∧ c < 9223372036854775808
section
attribute [local go_sem] F18.t3_eq
theorem pick_any {w0 w : World} {F : HP} {c n : Int} (h : St w0 F w) (hc : InI c) (hn : 0 < n) (hn2 : n < 1000000000000) : Calls Tryz.prog 18 #[.int .i64 c, .int .i64 n] w fun e w' => St w0 F w' ∧ e = .returned (.int .i64 (pickI c n)) := by
  obtain ⟨hc1, hc2⟩ := hc
  refine F18.calls (by simp) ?_
  unfold F18.code
  have hn0 : ¬ n = 0 := by omega
  by_cases hneg : c < 0
  · have e : pickI c n = (-(c + 1)).tmod n := by unfold pickI; rw [if_pos hneg]
    rw [e]
    simp -dsimp -implicitDefEqProofs (disch := omega) only [go_sem, reqD_of, dec_t, dec_f, wrap_i64, wrap_u32, wrap_u64, wrap_u8, hneg, hn0]
    exact ⟨h, by rw [Int.zero_sub]⟩
  · have e : pickI c n = c.tmod n := by unfold pickI; rw [if_neg hneg]
    rw [e]
    simp -dsimp -implicitDefEqProofs (disch := omega) only [go_sem, reqD_of, dec_t, dec_f, wrap_i64, wrap_u32, wrap_u64, wrap_u8, hneg, hn0]
    exact h
theorem pick_nat {c : Int} {n : Nat} (hn : 0 < n) : ∃ k : Nat, k < n ∧ pickI c n = (k : Int) := by
  obtain ⟨h1, h2⟩ := pickI_range (c := c) (n := n) (by omega)
  exact ⟨(pickI c n).toNat, by omega, by omega⟩
end
end Go.Proofs.YtkijkoakloacoaaGreatDoor

namespace Go.Proofs.YtkijkoakloacoaaGreatDoor
open Go
set_option linter.unusedVariables false
set_option linter.unusedSimpArgs false
set_option maxRecDepth 100000

abbrev rowA (v : Value) (L : List AV) : HP := RowO 72 4 v L.length (L.flatMap accC)
abbrev bkA (P : Nat) (a : Acc) (v : Value) : HP := Blk P (.cells (accL a v).toArray 72 (0, 0))
end Go.Proofs.YtkijkoakloacoaaGreatDoor
