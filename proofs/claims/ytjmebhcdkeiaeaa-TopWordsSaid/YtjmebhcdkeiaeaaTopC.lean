/- The walk of TopWords. -/
import Derived.Test.YtjmebhcdkeiaeaaTopB
namespace Go.Proofs.Ytjmebhcdkeiaeaa
open Go
set_option linter.unusedSimpArgs false
set_option linter.unusedVariables false
set_option maxRecDepth 100000

/-- The number that a word is of. -/
def ofWord (l : List Nat) (s : ByteArray) : Option Nat := l.find? fun (n : Nat) => (wError (n : Int)).data == s.data

theorem words_same : ∀ n : Fin 300, (wError ((n : Nat) : Int)).data = (rWord ((n : Nat) : Int)).data := by decide +kernel
theorem words_some : ∀ n : Fin 300, (wError ((n : Nat) : Int)).data ≠ #[] := by decide +kernel
def wErr : ByteArray := ⟨#[101, 114, 114, 111, 114]⟩
theorem words_none : (wError (-1)).data = wErr.data := by decide +kernel

/-- Those that have a word of their own. -/
def named : List Nat := (List.range 300).filter fun n => (wError (n : Int)).data != wErr.data
theorem named_first : (named.all fun n => (named.find? fun (k : Nat) => (wError (k : Int)).data == (wError (n : Int)).data) == some n) = true := by decide +kernel

theorem data_ne {a b : ByteArray} (h : a.data ≠ b.data) : (a.toList == b.toList) = false := by
  rw [ByteArray.toList_eq, ByteArray.toList_eq]
  simp only [beq_eq_false_iff_ne, ne_eq]
  intro e
  exact h (Array.ext' e)

theorem data_eq {a b : ByteArray} (h : a.data = b.data) : a = b := by
  cases a; cases b; simp only at h; rw [h]

theorem words_apart {k n : Nat} (hkn : k < n) (hn : n < 300) (hw : (wError (n : Int)).data ≠ wErr.data) : (wError (k : Int)).data ≠ (wError (n : Int)).data := by
  intro he
  have hnn : n ∈ named := by simp only [named, List.mem_filter, List.mem_range, bne_iff_ne]; exact ⟨hn, hw⟩
  have hkk : k ∈ named := by simp only [named, List.mem_filter, List.mem_range, bne_iff_ne]; exact ⟨by omega, by rw [he]; exact hw⟩
  have h1 := List.all_eq_true.1 named_first n hnn
  have h2 := List.all_eq_true.1 named_first k hkk
  simp only [beq_iff_eq] at h1 h2
  simp only [he] at h2
  have : (some n : Option Nat) = some k := h1.symm.trans h2
  simp only [Option.some.injEq] at this
  omega


theorem words_any {w0 w : World} {F : HP} (h : St w0 F w) : Calls Try.prog 4 #[] w fun e w' => St w0 F w' ∧ e = .returned (.bool true) := by
  refine F4.calls (by simp) ?_
  unfold F4.code
  simp -dsimp -implicitDefEqProofs (disch := omega) only [go_sem, ↓reduceIte, Nat.reduceEqDiff, reduceCtorEq, Nat.reduceAdd, Int.reduceMul, Int.reduceAdd, Int.reduceSub, Int.reduceLT, Int.reduceLE, Int.reduceEq, Int.reduceToNat, Int.reduceNeg, Nat.reduceLT, Nat.reduceDiv, Nat.reduceMod, Nat.reduceMul, Nat.reduceSub, Nat.reduceLeDiff, Nat.reduceBEq, Nat.reduceLeDiff, Nat.reducePow, Int.reducePow, reqD_of, dec_t, dec_f, wrap_i64, wrap_u32, wrap_u64, wrap_u8, F4.t9_eq, F4.t10_eq, F4.t7_eq, F4.t3_eq, F4.t4_eq, F4.t12_eq]
  refine loop_intro (fun e w' => St w0 F w' ∧ e.ds = [] ∧ ∃ n : Nat, n ≤ 300 ∧ e.ρ 1 = .int .i64 n)
    (fun e _ => match e.ρ 1 with | .int _ n => (300 - n).toNat | _ => 0) ?_ ?_
  · exact ⟨h, rfl, 0, by omega, rfl⟩
  rintro e w1 ⟨h1, hd, n, hn, e1⟩
  by_cases hlt : (n : Int) < 300
  case neg =>
    simp -dsimp -implicitDefEqProofs (disch := omega) only [go_sem, ↓reduceIte, Nat.reduceEqDiff, reduceCtorEq, Nat.reduceAdd, Int.reduceMul, Int.reduceAdd, Int.reduceSub, Int.reduceLT, Int.reduceLE, Int.reduceEq, Int.reduceToNat, Int.reduceNeg, Nat.reduceLT, Nat.reduceDiv, Nat.reduceMod, Nat.reduceMul, Nat.reduceSub, Nat.reduceLeDiff, Nat.reduceBEq, Nat.reduceLeDiff, Nat.reducePow, Int.reducePow, reqD_of, dec_t, dec_f, wrap_i64, wrap_u32, wrap_u64, wrap_u8, F4.t9_eq, F4.t10_eq, F4.t7_eq, F4.t3_eq, F4.t4_eq, F4.t12_eq, hlt, e1, hd]
    refine (wError_any _ (-1)).mono ?_
    rintro e' w' ⟨rfl, rfl⟩
    rw [data_eq words_none]
    simp -dsimp -implicitDefEqProofs (disch := omega) only [go_sem, ↓reduceIte, Nat.reduceEqDiff, reduceCtorEq, Nat.reduceAdd, Int.reduceMul, Int.reduceAdd, Int.reduceSub, Int.reduceLT, Int.reduceLE, Int.reduceEq, Int.reduceToNat, Int.reduceNeg, Nat.reduceLT, Nat.reduceDiv, Nat.reduceMod, Nat.reduceMul, Nat.reduceSub, Nat.reduceLeDiff, Nat.reduceBEq, Nat.reduceLeDiff, Nat.reducePow, Int.reducePow, reqD_of, dec_t, dec_f, wrap_i64, wrap_u32, wrap_u64, wrap_u8, F4.t9_eq, F4.t10_eq, F4.t7_eq, F4.t3_eq, F4.t4_eq, F4.t12_eq, hd, wErr, beq_self_eq_true]
    exact h1
  simp -dsimp -implicitDefEqProofs (disch := omega) only [go_sem, ↓reduceIte, Nat.reduceEqDiff, reduceCtorEq, Nat.reduceAdd, Int.reduceMul, Int.reduceAdd, Int.reduceSub, Int.reduceLT, Int.reduceLE, Int.reduceEq, Int.reduceToNat, Int.reduceNeg, Nat.reduceLT, Nat.reduceDiv, Nat.reduceMod, Nat.reduceMul, Nat.reduceSub, Nat.reduceLeDiff, Nat.reduceBEq, Nat.reduceLeDiff, Nat.reducePow, Int.reducePow, reqD_of, dec_t, dec_f, wrap_i64, wrap_u32, wrap_u64, wrap_u8, F4.t9_eq, F4.t10_eq, F4.t7_eq, F4.t3_eq, F4.t4_eq, F4.t12_eq, hlt, e1, hd]
  refine (wError_any _ n).mono ?_
  rintro e' w' ⟨rfl, rfl⟩
  simp -dsimp -implicitDefEqProofs (disch := omega) only [go_sem, ↓reduceIte, Nat.reduceEqDiff, reduceCtorEq, Nat.reduceAdd, Int.reduceMul, Int.reduceAdd, Int.reduceSub, Int.reduceLT, Int.reduceLE, Int.reduceEq, Int.reduceToNat, Int.reduceNeg, Nat.reduceLT, Nat.reduceDiv, Nat.reduceMod, Nat.reduceMul, Nat.reduceSub, Nat.reduceLeDiff, Nat.reduceBEq, Nat.reduceLeDiff, Nat.reducePow, Int.reducePow, reqD_of, dec_t, dec_f, wrap_i64, wrap_u32, wrap_u64, wrap_u8, F4.t9_eq, F4.t10_eq, F4.t7_eq, F4.t3_eq, F4.t4_eq, F4.t12_eq, hlt, e1, hd]
  refine (rWord_any _ n).mono ?_
  rintro e' w' ⟨rfl, rfl⟩
  have hn3 : n < 300 := by omega
  rw [← data_eq (words_same ⟨n, hn3⟩)]
  have hs := data_ne (b := ⟨#[]⟩) (words_some ⟨n, hn3⟩)
  simp only at hs
  simp -dsimp -implicitDefEqProofs (disch := omega) only [go_sem, ↓reduceIte, Nat.reduceEqDiff, reduceCtorEq, Nat.reduceAdd, Int.reduceMul, Int.reduceAdd, Int.reduceSub, Int.reduceLT, Int.reduceLE, Int.reduceEq, Int.reduceToNat, Int.reduceNeg, Nat.reduceLT, Nat.reduceDiv, Nat.reduceMod, Nat.reduceMul, Nat.reduceSub, Nat.reduceLeDiff, Nat.reduceBEq, Nat.reduceLeDiff, Nat.reducePow, Int.reducePow, reqD_of, dec_t, dec_f, wrap_i64, wrap_u32, wrap_u64, wrap_u8, F4.t9_eq, F4.t10_eq, F4.t7_eq, F4.t3_eq, F4.t4_eq, F4.t12_eq, hlt, e1, hd, beq_self_eq_true, hs]
  refine loop_intro (fun e w' => St w0 F w' ∧ e.ds = [] ∧ e.ρ 1 = .int .i64 n ∧ e.ρ 2 = .string (wError n) ∧ ∃ k : Nat, k ≤ n ∧ e.ρ 3 = .int .i64 k)
    (fun e _ => match e.ρ 3 with | .int _ k => (n - k).toNat | _ => 0) ?_ ?_
  · exact ⟨h1, by simp -dsimp -implicitDefEqProofs only [go_sem, ↓reduceIte, Nat.reduceEqDiff, reduceCtorEq, Nat.reduceAdd, Int.reduceMul, Int.reduceAdd, Int.reduceSub, Int.reduceLT, Int.reduceLE, Int.reduceEq, Int.reduceToNat, Int.reduceNeg, Nat.reduceLT, Nat.reduceDiv, Nat.reduceMod, Nat.reduceMul, Nat.reduceSub, Nat.reduceLeDiff, Nat.reduceBEq, Nat.reduceLeDiff, Nat.reducePow, Int.reducePow, F4.t9_eq, F4.t10_eq, F4.t7_eq, F4.t3_eq, F4.t4_eq, F4.t12_eq, hd], by simp -dsimp -implicitDefEqProofs only [go_sem, ↓reduceIte, Nat.reduceEqDiff, reduceCtorEq, Nat.reduceAdd, Int.reduceMul, Int.reduceAdd, Int.reduceSub, Int.reduceLT, Int.reduceLE, Int.reduceEq, Int.reduceToNat, Int.reduceNeg, Nat.reduceLT, Nat.reduceDiv, Nat.reduceMod, Nat.reduceMul, Nat.reduceSub, Nat.reduceLeDiff, Nat.reduceBEq, Nat.reduceLeDiff, Nat.reducePow, Int.reducePow, F4.t9_eq, F4.t10_eq, F4.t7_eq, F4.t3_eq, F4.t4_eq, F4.t12_eq, e1], by simp -dsimp -implicitDefEqProofs only [go_sem, ↓reduceIte, Nat.reduceEqDiff, reduceCtorEq, Nat.reduceAdd, Int.reduceMul, Int.reduceAdd, Int.reduceSub, Int.reduceLT, Int.reduceLE, Int.reduceEq, Int.reduceToNat, Int.reduceNeg, Nat.reduceLT, Nat.reduceDiv, Nat.reduceMod, Nat.reduceMul, Nat.reduceSub, Nat.reduceLeDiff, Nat.reduceBEq, Nat.reduceLeDiff, Nat.reducePow, Int.reducePow, F4.t9_eq, F4.t10_eq, F4.t7_eq, F4.t3_eq, F4.t4_eq, F4.t12_eq], 0, by omega, rfl⟩
  rintro e' w' ⟨h2, hd', e1', e2', k, hk, e3'⟩
  by_cases hkn : (k : Int) < n
  case neg =>
    simp -dsimp -implicitDefEqProofs (disch := omega) only [go_sem, ↓reduceIte, Nat.reduceEqDiff, reduceCtorEq, Nat.reduceAdd, Int.reduceMul, Int.reduceAdd, Int.reduceSub, Int.reduceLT, Int.reduceLE, Int.reduceEq, Int.reduceToNat, Int.reduceNeg, Nat.reduceLT, Nat.reduceDiv, Nat.reduceMod, Nat.reduceMul, Nat.reduceSub, Nat.reduceLeDiff, Nat.reduceBEq, Nat.reduceLeDiff, Nat.reducePow, Int.reducePow, reqD_of, dec_t, dec_f, wrap_i64, wrap_u32, wrap_u64, wrap_u8, F4.t9_eq, F4.t10_eq, F4.t7_eq, F4.t3_eq, F4.t4_eq, F4.t12_eq, hkn, e1, e1', e2', e3', hd']
    exact ⟨⟨h2, n + 1, by omega, by omega⟩, by omega⟩
  by_cases hw : (wError (n : Int)).data = wErr.data
  · have hx : wError (n : Int) = ⟨#[101, 114, 114, 111, 114]⟩ := data_eq hw
    simp -dsimp -implicitDefEqProofs (disch := omega) only [go_sem, ↓reduceIte, Nat.reduceEqDiff, reduceCtorEq, Nat.reduceAdd, Int.reduceMul, Int.reduceAdd, Int.reduceSub, Int.reduceLT, Int.reduceLE, Int.reduceEq, Int.reduceToNat, Int.reduceNeg, Nat.reduceLT, Nat.reduceDiv, Nat.reduceMod, Nat.reduceMul, Nat.reduceSub, Nat.reduceLeDiff, Nat.reduceBEq, Nat.reduceLeDiff, Nat.reducePow, Int.reducePow, reqD_of, dec_t, dec_f, wrap_i64, wrap_u32, wrap_u64, wrap_u8, F4.t9_eq, F4.t10_eq, F4.t7_eq, F4.t3_eq, F4.t4_eq, F4.t12_eq, hkn, e1', e2', e3', hd', hx, beq_self_eq_true]
    exact ⟨⟨h2, k + 1, by omega, by omega⟩, by omega⟩
  · have hx := data_ne (b := ⟨#[101, 114, 114, 111, 114]⟩) hw
    simp -dsimp -implicitDefEqProofs (disch := omega) only [go_sem, ↓reduceIte, Nat.reduceEqDiff, reduceCtorEq, Nat.reduceAdd, Int.reduceMul, Int.reduceAdd, Int.reduceSub, Int.reduceLT, Int.reduceLE, Int.reduceEq, Int.reduceToNat, Int.reduceNeg, Nat.reduceLT, Nat.reduceDiv, Nat.reduceMod, Nat.reduceMul, Nat.reduceSub, Nat.reduceLeDiff, Nat.reduceBEq, Nat.reduceLeDiff, Nat.reducePow, Int.reducePow, reqD_of, dec_t, dec_f, wrap_i64, wrap_u32, wrap_u64, wrap_u8, F4.t9_eq, F4.t10_eq, F4.t7_eq, F4.t3_eq, F4.t4_eq, F4.t12_eq, hkn, e1', e2', e3', hd', hx]
    refine (wError_any _ k).mono ?_
    rintro e' w' ⟨rfl, rfl⟩
    have hy := data_ne (words_apart (k := k) (n := n) (by omega) hn3 hw)
    simp -dsimp -implicitDefEqProofs (disch := omega) only [go_sem, ↓reduceIte, Nat.reduceEqDiff, reduceCtorEq, Nat.reduceAdd, Int.reduceMul, Int.reduceAdd, Int.reduceSub, Int.reduceLT, Int.reduceLE, Int.reduceEq, Int.reduceToNat, Int.reduceNeg, Nat.reduceLT, Nat.reduceDiv, Nat.reduceMod, Nat.reduceMul, Nat.reduceSub, Nat.reduceLeDiff, Nat.reduceBEq, Nat.reduceLeDiff, Nat.reducePow, Int.reducePow, reqD_of, dec_t, dec_f, wrap_i64, wrap_u32, wrap_u64, wrap_u8, F4.t9_eq, F4.t10_eq, F4.t7_eq, F4.t3_eq, F4.t4_eq, F4.t12_eq, hkn, e1', e2', e3', hd', hx, hy]
    exact ⟨⟨h2, k + 1, by omega, by omega⟩, by omega⟩

end Go.Proofs.Ytjmebhcdkeiaeaa
