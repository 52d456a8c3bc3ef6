/- The document's example of locks. -/
import Derived.Test.YtacmnfpgimgigaaLkF
namespace Go.Proofs.Ytacmnfpgimgigaa
open Go
set_option linter.unusedSimpArgs false
set_option linter.unusedVariables false
set_option maxRecDepth 100000


theorem one_any {w0 w : World} {F : HP} (h : St w0 F w) : Calls Try.prog 14 #[.int .i64 5] w fun e w' => St w0 F w' ∧ e = .returned (namV (3, 0, 5)) := by
  refine F14.calls (by simp) ?_
  unfold F14.code
  simp -dsimp -implicitDefEqProofs (disch := omega) only [go_sem, ↓reduceIte, Nat.reduceEqDiff, reduceCtorEq, Nat.reduceAdd, Int.reduceMul, Int.reduceAdd, Int.reduceSub, Int.reduceLT, Int.reduceLE, Int.reduceEq, Int.reduceToNat, Int.reduceNeg, Nat.reduceLT, Nat.reduceDiv, Nat.reduceMod, Nat.reduceMul, Nat.reduceSub, Nat.reduceLeDiff, Nat.reduceBEq, Nat.reduceLeDiff, Nat.reducePow, Int.reducePow, reqD_of, dec_t, dec_f, wrap_i64, wrap_u32, wrap_u64, wrap_u8]
  refine h.new fun B w1 h1 => ?_
  simp -dsimp -implicitDefEqProofs (disch := omega) only [go_sem, ↓reduceIte, Nat.reduceEqDiff, reduceCtorEq, Nat.reduceAdd, Int.reduceMul, Int.reduceAdd, Int.reduceSub, Int.reduceLT, Int.reduceLE, Int.reduceEq, Int.reduceToNat, Int.reduceNeg, Nat.reduceLT, Nat.reduceDiv, Nat.reduceMod, Nat.reduceMul, Nat.reduceSub, Nat.reduceLeDiff, Nat.reduceBEq, Nat.reduceLeDiff, Nat.reducePow, Int.reducePow, reqD_of, dec_t, dec_f, wrap_i64, wrap_u32, wrap_u64, wrap_u8]
  refine onV_of (v := namV (3, 0, 5)) rfl ?_
  simp -dsimp -implicitDefEqProofs (disch := omega) only [go_sem, ↓reduceIte, Nat.reduceEqDiff, reduceCtorEq, Nat.reduceAdd, Int.reduceMul, Int.reduceAdd, Int.reduceSub, Int.reduceLT, Int.reduceLE, Int.reduceEq, Int.reduceToNat, Int.reduceNeg, Nat.reduceLT, Nat.reduceDiv, Nat.reduceMod, Nat.reduceMul, Nat.reduceSub, Nat.reduceLeDiff, Nat.reduceBEq, Nat.reduceLeDiff, Nat.reducePow, Int.reducePow, reqD_of, dec_t, dec_f, wrap_i64, wrap_u32, wrap_u64, wrap_u8]
  refine h1.storeAll (cs := namC (3, 0, 5)) rfl rfl (namC_cells _) fun w2 h2 => ?_
  have hrow := h2.row (n := 3) rfl
  simp -dsimp -implicitDefEqProofs (disch := omega) only [go_sem, ↓reduceIte, Nat.reduceEqDiff, reduceCtorEq, Nat.reduceAdd, Int.reduceMul, Int.reduceAdd, Int.reduceSub, Int.reduceLT, Int.reduceLE, Int.reduceEq, Int.reduceToNat, Int.reduceNeg, Nat.reduceLT, Nat.reduceDiv, Nat.reduceMod, Nat.reduceMul, Nat.reduceSub, Nat.reduceLeDiff, Nat.reduceBEq, Nat.reduceLeDiff, Nat.reducePow, Int.reducePow, reqD_of, dec_t, dec_f, wrap_i64, wrap_u32, wrap_u64, wrap_u8]
  refine resC_1 (a := ⟨B, 0, none⟩) (v := namV (3, 0, 5)) (by simp -dsimp -implicitDefEqProofs only [go_sem, ↓reduceIte, Nat.reduceEqDiff, reduceCtorEq, Nat.reduceAdd, Int.reduceMul, Int.reduceAdd, Int.reduceSub, Int.reduceLT, Int.reduceLE, Int.reduceEq, Int.reduceToNat, Int.reduceNeg, Nat.reduceLT, Nat.reduceDiv, Nat.reduceMod, Nat.reduceMul, Nat.reduceSub, Nat.reduceLeDiff, Nat.reduceBEq, Nat.reduceLeDiff, Nat.reducePow, Int.reducePow]) (run_loadVar_row fact_aggSz_26 (by rw [hrow])) ?_
  exact ⟨h2.right, rfl⟩

def exA : Nam := (3, 0, 5)
theorem ex1 : askS 1 (exA, false) [] [] = ((true, 0), [(exA, ([(1, false)], []))], []) := rfl
theorem ex2 : askS 2 (exA, false) [(exA, ([(1, false)], []))] [] = ((true, 0), [(exA, ([(1, false), (2, false)], []))], []) := rfl
theorem ex3 : askS 3 (exA, true) [(exA, ([(1, false), (2, false)], []))] [] = ((false, 0), [(exA, ([(1, false), (2, false)], [(3, true)]))], [(3, (exA, true))]) := rfl
theorem ex4 : askS 4 (exA, false) [(exA, ([(1, false), (2, false)], [(3, true)]))] [(3, (exA, true))] = ((false, 0), [(exA, ([(1, false), (2, false)], [(3, true), (4, false)]))], [(3, (exA, true)), (4, (exA, false))]) := rfl
theorem ex5 : freeS 1 exA [(exA, ([(1, false), (2, false)], [(3, true), (4, false)]))] [(3, (exA, true)), (4, (exA, false))] = (([], 0), [(exA, ([(2, false)], [(3, true), (4, false)]))], [(3, (exA, true)), (4, (exA, false))]) := rfl
theorem ex6 : freeS 2 exA [(exA, ([(2, false)], [(3, true), (4, false)]))] [(3, (exA, true)), (4, (exA, false))] = (([(3, true)], 0), [(exA, ([(3, true)], [(4, false)]))], [(4, (exA, false))]) := rfl
theorem ex7 : freeS 3 exA [(exA, ([(3, true)], [(4, false)]))] [(4, (exA, false))] = (([(4, false)], 0), [(exA, ([(4, false)], []))], []) := rfl


theorem known_any {w0 w : World} {F : HP} (h : St w0 F w) : Calls Try.prog 9 #[] w fun e w' => St w0 F w' ∧ e = .returned (.bool true) := by
  refine F9.calls (by simp) ?_
  unfold F9.code
  simp -dsimp -implicitDefEqProofs (disch := omega) only [go_sem, ↓reduceIte, Nat.reduceEqDiff, reduceCtorEq, Nat.reduceAdd, Int.reduceMul, Int.reduceAdd, Int.reduceSub, Int.reduceLT, Int.reduceLE, Int.reduceEq, Int.reduceToNat, Int.reduceNeg, Nat.reduceLT, Nat.reduceDiv, Nat.reduceMod, Nat.reduceMul, Nat.reduceSub, Nat.reduceLeDiff, Nat.reduceBEq, Nat.reduceLeDiff, Nat.reducePow, Int.reducePow, reqD_of, dec_t, dec_f, wrap_i64, wrap_u32, wrap_u64, wrap_u8, F9.t11_eq, F9.t4_eq]
  refine (new_any h).mono ?_
  rintro e w1 ⟨B, h1, rfl⟩
  simp -dsimp -implicitDefEqProofs (disch := omega) only [go_sem, ↓reduceIte, Nat.reduceEqDiff, reduceCtorEq, Nat.reduceAdd, Int.reduceMul, Int.reduceAdd, Int.reduceSub, Int.reduceLT, Int.reduceLE, Int.reduceEq, Int.reduceToNat, Int.reduceNeg, Nat.reduceLT, Nat.reduceDiv, Nat.reduceMod, Nat.reduceMul, Nat.reduceSub, Nat.reduceLeDiff, Nat.reduceBEq, Nat.reduceLeDiff, Nat.reducePow, Int.reducePow, reqD_of, dec_t, dec_f, wrap_i64, wrap_u32, wrap_u64, wrap_u8, F9.t11_eq, F9.t4_eq]
  refine (one_any h1).mono ?_
  rintro e w2 ⟨h2, rfl⟩
  simp -dsimp -implicitDefEqProofs (disch := omega) only [go_sem, ↓reduceIte, Nat.reduceEqDiff, reduceCtorEq, Nat.reduceAdd, Int.reduceMul, Int.reduceAdd, Int.reduceSub, Int.reduceLT, Int.reduceLE, Int.reduceEq, Int.reduceToNat, Int.reduceNeg, Nat.reduceLT, Nat.reduceDiv, Nat.reduceMod, Nat.reduceMul, Nat.reduceSub, Nat.reduceLeDiff, Nat.reduceBEq, Nat.reduceLeDiff, Nat.reducePow, Int.reducePow, reqD_of, dec_t, dec_f, wrap_i64, wrap_u32, wrap_u64, wrap_u8, F9.t11_eq, F9.t4_eq]
  refine h2.new fun A w3 h3 => ?_
  simp -dsimp -implicitDefEqProofs (disch := omega) only [go_sem, ↓reduceIte, Nat.reduceEqDiff, reduceCtorEq, Nat.reduceAdd, Int.reduceMul, Int.reduceAdd, Int.reduceSub, Int.reduceLT, Int.reduceLE, Int.reduceEq, Int.reduceToNat, Int.reduceNeg, Nat.reduceLT, Nat.reduceDiv, Nat.reduceMod, Nat.reduceMul, Nat.reduceSub, Nat.reduceLeDiff, Nat.reduceBEq, Nat.reduceLeDiff, Nat.reducePow, Int.reducePow, reqD_of, dec_t, dec_f, wrap_i64, wrap_u32, wrap_u64, wrap_u8, F9.t11_eq, F9.t4_eq]
  refine h3.storeAll (cs := namC exA) rfl rfl (namC_cells _) fun w4 h4 => ?_
  have hA4 : rowV w4 ⟨A, 0, none⟩ 3 = some (namV exA) := h4.row (n := 3) rfl
  simp -dsimp -implicitDefEqProofs (disch := omega) only [go_sem, ↓reduceIte, Nat.reduceEqDiff, reduceCtorEq, Nat.reduceAdd, Int.reduceMul, Int.reduceAdd, Int.reduceSub, Int.reduceLT, Int.reduceLE, Int.reduceEq, Int.reduceToNat, Int.reduceNeg, Nat.reduceLT, Nat.reduceDiv, Nat.reduceMod, Nat.reduceMul, Nat.reduceSub, Nat.reduceLeDiff, Nat.reduceBEq, Nat.reduceLeDiff, Nat.reducePow, Int.reducePow, reqD_of, dec_t, dec_f, wrap_i64, wrap_u32, wrap_u64, wrap_u8, F9.t11_eq, F9.t4_eq, hA4]
  refine onV_of (v := needV (exA, false)) rfl ?_
  simp -dsimp -implicitDefEqProofs (disch := omega) only [go_sem, ↓reduceIte, Nat.reduceEqDiff, reduceCtorEq, Nat.reduceAdd, Int.reduceMul, Int.reduceAdd, Int.reduceSub, Int.reduceLT, Int.reduceLE, Int.reduceEq, Int.reduceToNat, Int.reduceNeg, Nat.reduceLT, Nat.reduceDiv, Nat.reduceMod, Nat.reduceMul, Nat.reduceSub, Nat.reduceLeDiff, Nat.reduceBEq, Nat.reduceLeDiff, Nat.reducePow, Int.reducePow, reqD_of, dec_t, dec_f, wrap_i64, wrap_u32, wrap_u64, wrap_u8, F9.t11_eq, F9.t4_eq]
  refine (ask_any (n := (exA, false)) h4.sw2 ex1 (by decide) (by decide)).mono ?_
  rintro e w5 ⟨h5, rfl⟩
  have hA5 : rowV w5 ⟨A, 0, none⟩ 3 = some (namV exA) := h5.sw2.row (n := 3) rfl
  simp -dsimp -implicitDefEqProofs (disch := omega) only [go_sem, ↓reduceIte, Nat.reduceEqDiff, reduceCtorEq, Nat.reduceAdd, Int.reduceMul, Int.reduceAdd, Int.reduceSub, Int.reduceLT, Int.reduceLE, Int.reduceEq, Int.reduceToNat, Int.reduceNeg, Nat.reduceLT, Nat.reduceDiv, Nat.reduceMod, Nat.reduceMul, Nat.reduceSub, Nat.reduceLeDiff, Nat.reduceBEq, Nat.reduceLeDiff, Nat.reducePow, Int.reducePow, reqD_of, dec_t, dec_f, wrap_i64, wrap_u32, wrap_u64, wrap_u8, F9.t11_eq, F9.t4_eq, hA5]
  refine onV_of (v := needV (exA, false)) rfl ?_
  simp -dsimp -implicitDefEqProofs (disch := omega) only [go_sem, ↓reduceIte, Nat.reduceEqDiff, reduceCtorEq, Nat.reduceAdd, Int.reduceMul, Int.reduceAdd, Int.reduceSub, Int.reduceLT, Int.reduceLE, Int.reduceEq, Int.reduceToNat, Int.reduceNeg, Nat.reduceLT, Nat.reduceDiv, Nat.reduceMod, Nat.reduceMul, Nat.reduceSub, Nat.reduceLeDiff, Nat.reduceBEq, Nat.reduceLeDiff, Nat.reducePow, Int.reducePow, reqD_of, dec_t, dec_f, wrap_i64, wrap_u32, wrap_u64, wrap_u8, F9.t11_eq, F9.t4_eq]
  refine (ask_any (n := (exA, false)) h5 ex2 (by decide) (by decide)).mono ?_
  rintro e w6 ⟨h6, rfl⟩
  have hA6 : rowV w6 ⟨A, 0, none⟩ 3 = some (namV exA) := h6.sw2.row (n := 3) rfl
  simp -dsimp -implicitDefEqProofs (disch := omega) only [go_sem, ↓reduceIte, Nat.reduceEqDiff, reduceCtorEq, Nat.reduceAdd, Int.reduceMul, Int.reduceAdd, Int.reduceSub, Int.reduceLT, Int.reduceLE, Int.reduceEq, Int.reduceToNat, Int.reduceNeg, Nat.reduceLT, Nat.reduceDiv, Nat.reduceMod, Nat.reduceMul, Nat.reduceSub, Nat.reduceLeDiff, Nat.reduceBEq, Nat.reduceLeDiff, Nat.reducePow, Int.reducePow, reqD_of, dec_t, dec_f, wrap_i64, wrap_u32, wrap_u64, wrap_u8, F9.t11_eq, F9.t4_eq, hA6]
  refine onV_of (v := needV (exA, true)) rfl ?_
  simp -dsimp -implicitDefEqProofs (disch := omega) only [go_sem, ↓reduceIte, Nat.reduceEqDiff, reduceCtorEq, Nat.reduceAdd, Int.reduceMul, Int.reduceAdd, Int.reduceSub, Int.reduceLT, Int.reduceLE, Int.reduceEq, Int.reduceToNat, Int.reduceNeg, Nat.reduceLT, Nat.reduceDiv, Nat.reduceMod, Nat.reduceMul, Nat.reduceSub, Nat.reduceLeDiff, Nat.reduceBEq, Nat.reduceLeDiff, Nat.reducePow, Int.reducePow, reqD_of, dec_t, dec_f, wrap_i64, wrap_u32, wrap_u64, wrap_u8, F9.t11_eq, F9.t4_eq]
  refine (ask_any (n := (exA, true)) h6 ex3 (by decide) (by decide)).mono ?_
  rintro e w7 ⟨h7, rfl⟩
  have hA7 : rowV w7 ⟨A, 0, none⟩ 3 = some (namV exA) := h7.sw2.row (n := 3) rfl
  simp -dsimp -implicitDefEqProofs (disch := omega) only [go_sem, ↓reduceIte, Nat.reduceEqDiff, reduceCtorEq, Nat.reduceAdd, Int.reduceMul, Int.reduceAdd, Int.reduceSub, Int.reduceLT, Int.reduceLE, Int.reduceEq, Int.reduceToNat, Int.reduceNeg, Nat.reduceLT, Nat.reduceDiv, Nat.reduceMod, Nat.reduceMul, Nat.reduceSub, Nat.reduceLeDiff, Nat.reduceBEq, Nat.reduceLeDiff, Nat.reducePow, Int.reducePow, reqD_of, dec_t, dec_f, wrap_i64, wrap_u32, wrap_u64, wrap_u8, F9.t11_eq, F9.t4_eq, hA7]
  refine onV_of (v := needV (exA, false)) rfl ?_
  simp -dsimp -implicitDefEqProofs (disch := omega) only [go_sem, ↓reduceIte, Nat.reduceEqDiff, reduceCtorEq, Nat.reduceAdd, Int.reduceMul, Int.reduceAdd, Int.reduceSub, Int.reduceLT, Int.reduceLE, Int.reduceEq, Int.reduceToNat, Int.reduceNeg, Nat.reduceLT, Nat.reduceDiv, Nat.reduceMod, Nat.reduceMul, Nat.reduceSub, Nat.reduceLeDiff, Nat.reduceBEq, Nat.reduceLeDiff, Nat.reducePow, Int.reducePow, reqD_of, dec_t, dec_f, wrap_i64, wrap_u32, wrap_u64, wrap_u8, F9.t11_eq, F9.t4_eq]
  refine (ask_any (n := (exA, false)) h7 ex4 (by decide) (by decide)).mono ?_
  rintro e w8 ⟨h8, rfl⟩
  have hA8 : rowV w8 ⟨A, 0, none⟩ 3 = some (namV exA) := h8.sw2.row (n := 3) rfl
  simp -dsimp -implicitDefEqProofs (disch := omega) only [go_sem, ↓reduceIte, Nat.reduceEqDiff, reduceCtorEq, Nat.reduceAdd, Int.reduceMul, Int.reduceAdd, Int.reduceSub, Int.reduceLT, Int.reduceLE, Int.reduceEq, Int.reduceToNat, Int.reduceNeg, Nat.reduceLT, Nat.reduceDiv, Nat.reduceMod, Nat.reduceMul, Nat.reduceSub, Nat.reduceLeDiff, Nat.reduceBEq, Nat.reduceLeDiff, Nat.reducePow, Int.reducePow, reqD_of, dec_t, dec_f, wrap_i64, wrap_u32, wrap_u64, wrap_u8, F9.t11_eq, F9.t4_eq, hA8]
  refine (queue_any (x := exA) (q := [(3, true), (4, false)]) h8 rfl (by decide)).mono ?_
  rintro e w9 ⟨vq, h9, rfl⟩
  have hA9 := h9.sw3.cells
  unfold namC exA at hA9
  simp -dsimp -implicitDefEqProofs (disch := omega) only [go_sem, ↓reduceIte, Nat.reduceEqDiff, reduceCtorEq, Nat.reduceAdd, Int.reduceMul, Int.reduceAdd, Int.reduceSub, Int.reduceLT, Int.reduceLE, Int.reduceEq, Int.reduceToNat, Int.reduceNeg, Nat.reduceLT, Nat.reduceDiv, Nat.reduceMod, Nat.reduceMul, Nat.reduceSub, Nat.reduceLeDiff, Nat.reduceBEq, Nat.reduceLeDiff, Nat.reducePow, Int.reducePow, reqD_of, dec_t, dec_f, wrap_i64, wrap_u32, wrap_u64, wrap_u8, F9.t11_eq, F9.t4_eq, hA9]
  refine (free_any (x := exA) h9.sw2 ex5 (by decide)).mono ?_
  rintro e w10 ⟨v1, h10, rfl⟩
  have h10' := h10.ac (show _ = Blk A (.cells (namC exA).toArray 26 (0, 0)) * (TabP B [(exA, ([(2, false)], [(3, true), (4, false)]))] [(3, (exA, true)), (4, (exA, false))] * (RowO 3 1 v1 0 [] * (RowO 3 1 vq 2 (intR [3, 4]) * F))) by simp only [List.length_nil, List.map_nil, intR, List.length_cons, List.map_cons, Nat.zero_add, Nat.reduceAdd]; ac_rfl)
  have hA10 := h10'.cells
  unfold namC exA at hA10
  simp -dsimp -implicitDefEqProofs (disch := omega) only [go_sem, ↓reduceIte, Nat.reduceEqDiff, reduceCtorEq, Nat.reduceAdd, Int.reduceMul, Int.reduceAdd, Int.reduceSub, Int.reduceLT, Int.reduceLE, Int.reduceEq, Int.reduceToNat, Int.reduceNeg, Nat.reduceLT, Nat.reduceDiv, Nat.reduceMod, Nat.reduceMul, Nat.reduceSub, Nat.reduceLeDiff, Nat.reduceBEq, Nat.reduceLeDiff, Nat.reducePow, Int.reducePow, reqD_of, dec_t, dec_f, wrap_i64, wrap_u32, wrap_u64, wrap_u8, F9.t11_eq, F9.t4_eq, hA10]
  refine (free_any (x := exA) h10'.sw2 ex6 (by decide)).mono ?_
  rintro e w11 ⟨v2, h11, rfl⟩
  have h11' := h11.ac (show _ = Blk A (.cells (namC exA).toArray 26 (0, 0)) * (TabP B [(exA, ([(3, true)], [(4, false)]))] [(4, (exA, false))] * (RowO 3 1 v2 1 (intR [3]) * (RowO 3 1 v1 0 [] * (RowO 3 1 vq 2 (intR [3, 4]) * F)))) by simp only [List.length_nil, List.map_nil, intR, List.length_cons, List.map_cons, Nat.zero_add]; ac_rfl)
  have hA11 := h11'.cells
  unfold namC exA at hA11
  simp -dsimp -implicitDefEqProofs (disch := omega) only [go_sem, ↓reduceIte, Nat.reduceEqDiff, reduceCtorEq, Nat.reduceAdd, Int.reduceMul, Int.reduceAdd, Int.reduceSub, Int.reduceLT, Int.reduceLE, Int.reduceEq, Int.reduceToNat, Int.reduceNeg, Nat.reduceLT, Nat.reduceDiv, Nat.reduceMod, Nat.reduceMul, Nat.reduceSub, Nat.reduceLeDiff, Nat.reduceBEq, Nat.reduceLeDiff, Nat.reducePow, Int.reducePow, reqD_of, dec_t, dec_f, wrap_i64, wrap_u32, wrap_u64, wrap_u8, F9.t11_eq, F9.t4_eq, hA11]
  refine (free_any (x := exA) h11'.sw2 ex7 (by decide)).mono ?_
  rintro e w12 ⟨v3, h12, rfl⟩
  have h12' := h12.ac (show _ = TabP B [(exA, ([(4, false)], []))] [] * (RowO 3 1 v3 1 (intR [4]) * (RowO 3 1 v2 1 (intR [3]) * (RowO 3 1 v1 0 [] * (RowO 3 1 vq 2 (intR [3, 4]) * (Blk A (.cells (namC exA).toArray 26 (0, 0)) * F))))) by simp only [List.length_nil, List.map_nil, intR, List.length_cons, List.map_cons, Nat.zero_add]; ac_rfl)
  obtain ⟨a1, c1, rfl, _, _, _⟩ := RowO.form h12'.sw4
  simp -dsimp -implicitDefEqProofs (disch := omega) only [go_sem, ↓reduceIte, Nat.reduceEqDiff, reduceCtorEq, Nat.reduceAdd, Int.reduceMul, Int.reduceAdd, Int.reduceSub, Int.reduceLT, Int.reduceLE, Int.reduceEq, Int.reduceToNat, Int.reduceNeg, Nat.reduceLT, Nat.reduceDiv, Nat.reduceMod, Nat.reduceMul, Nat.reduceSub, Nat.reduceLeDiff, Nat.reduceBEq, Nat.reduceLeDiff, Nat.reducePow, Int.reducePow, reqD_of, dec_t, dec_f, wrap_i64, wrap_u32, wrap_u64, wrap_u8, F9.t11_eq, F9.t4_eq]
  refine h12'.buildSlice (s := 1) fact_rowTy_34 (cells := intR [3, 4]) rfl (by decide) (by decide) fun v4 w13 h13 => ?_
  simp -dsimp -implicitDefEqProofs (disch := omega) only [go_sem, ↓reduceIte, Nat.reduceEqDiff, reduceCtorEq, Nat.reduceAdd, Int.reduceMul, Int.reduceAdd, Int.reduceSub, Int.reduceLT, Int.reduceLE, Int.reduceEq, Int.reduceToNat, Int.reduceNeg, Nat.reduceLT, Nat.reduceDiv, Nat.reduceMod, Nat.reduceMul, Nat.reduceSub, Nat.reduceLeDiff, Nat.reduceBEq, Nat.reduceLeDiff, Nat.reducePow, Int.reducePow, reqD_of, dec_t, dec_f, wrap_i64, wrap_u32, wrap_u64, wrap_u8, F9.t11_eq, F9.t4_eq]
  refine (sameInts_any (xs := [3, 4]) (ys := [3, 4]) (na := 2) (nb := 2) h13 ?_ ((Ent.left _ _).trans (Row.reads _ _ _ _ _)) (by decide)).mono ?_
  · exact (Ent.right _ _).trans ((Ent.right _ _).trans ((Ent.right _ _).trans ((Ent.right _ _).trans ((Ent.right _ _).trans ((Ent.left _ _).trans (RowO.reads _ _ _ _ _))))))
  rintro e w14 ⟨h14, rfl⟩
  simp -dsimp -implicitDefEqProofs (disch := omega) only [go_sem, ↓reduceIte, Nat.reduceEqDiff, reduceCtorEq, Nat.reduceAdd, Int.reduceMul, Int.reduceAdd, Int.reduceSub, Int.reduceLT, Int.reduceLE, Int.reduceEq, Int.reduceToNat, Int.reduceNeg, Nat.reduceLT, Nat.reduceDiv, Nat.reduceMod, Nat.reduceMul, Nat.reduceSub, Nat.reduceLeDiff, Nat.reduceBEq, Nat.reduceLeDiff, Nat.reducePow, Int.reducePow, reqD_of, dec_t, dec_f, wrap_i64, wrap_u32, wrap_u64, wrap_u8, F9.t11_eq, F9.t4_eq]
  refine (h14.right).buildSlice (s := 1) fact_rowTy_34 (cells := intR [3]) rfl (by decide) (by decide) fun v5 w15 h15 => ?_
  simp -dsimp -implicitDefEqProofs (disch := omega) only [go_sem, ↓reduceIte, Nat.reduceEqDiff, reduceCtorEq, Nat.reduceAdd, Int.reduceMul, Int.reduceAdd, Int.reduceSub, Int.reduceLT, Int.reduceLE, Int.reduceEq, Int.reduceToNat, Int.reduceNeg, Nat.reduceLT, Nat.reduceDiv, Nat.reduceMod, Nat.reduceMul, Nat.reduceSub, Nat.reduceLeDiff, Nat.reduceBEq, Nat.reduceLeDiff, Nat.reducePow, Int.reducePow, reqD_of, dec_t, dec_f, wrap_i64, wrap_u32, wrap_u64, wrap_u8, F9.t11_eq, F9.t4_eq]
  refine (sameInts_any (xs := [3]) (ys := [3]) (na := 1) (nb := 1) h15 ?_ ((Ent.left _ _).trans (Row.reads _ _ _ _ _)) (by decide)).mono ?_
  · exact (Ent.right _ _).trans ((Ent.right _ _).trans ((Ent.right _ _).trans ((Ent.left _ _).trans (RowO.reads _ _ _ _ _))))
  rintro e w16 ⟨h16, rfl⟩
  simp -dsimp -implicitDefEqProofs (disch := omega) only [go_sem, ↓reduceIte, Nat.reduceEqDiff, reduceCtorEq, Nat.reduceAdd, Int.reduceMul, Int.reduceAdd, Int.reduceSub, Int.reduceLT, Int.reduceLE, Int.reduceEq, Int.reduceToNat, Int.reduceNeg, Nat.reduceLT, Nat.reduceDiv, Nat.reduceMod, Nat.reduceMul, Nat.reduceSub, Nat.reduceLeDiff, Nat.reduceBEq, Nat.reduceLeDiff, Nat.reducePow, Int.reducePow, reqD_of, dec_t, dec_f, wrap_i64, wrap_u32, wrap_u64, wrap_u8, F9.t11_eq, F9.t4_eq]
  refine (h16.right).buildSlice (s := 1) fact_rowTy_34 (cells := intR [4]) rfl (by decide) (by decide) fun v6 w17 h17 => ?_
  simp -dsimp -implicitDefEqProofs (disch := omega) only [go_sem, ↓reduceIte, Nat.reduceEqDiff, reduceCtorEq, Nat.reduceAdd, Int.reduceMul, Int.reduceAdd, Int.reduceSub, Int.reduceLT, Int.reduceLE, Int.reduceEq, Int.reduceToNat, Int.reduceNeg, Nat.reduceLT, Nat.reduceDiv, Nat.reduceMod, Nat.reduceMul, Nat.reduceSub, Nat.reduceLeDiff, Nat.reduceBEq, Nat.reduceLeDiff, Nat.reducePow, Int.reducePow, reqD_of, dec_t, dec_f, wrap_i64, wrap_u32, wrap_u64, wrap_u8, F9.t11_eq, F9.t4_eq]
  refine (sameInts_any (xs := [4]) (ys := [4]) (na := 1) (nb := 1) h17 ?_ ((Ent.left _ _).trans (Row.reads _ _ _ _ _)) (by decide)).mono ?_
  · exact (Ent.right _ _).trans ((Ent.right _ _).trans ((Ent.left _ _).trans (RowO.reads _ _ _ _ _)))
  rintro e w18 ⟨h18, rfl⟩
  simp -dsimp -implicitDefEqProofs (disch := omega) only [go_sem, ↓reduceIte, Nat.reduceEqDiff, reduceCtorEq, Nat.reduceAdd, Int.reduceMul, Int.reduceAdd, Int.reduceSub, Int.reduceLT, Int.reduceLE, Int.reduceEq, Int.reduceToNat, Int.reduceNeg, Nat.reduceLT, Nat.reduceDiv, Nat.reduceMod, Nat.reduceMul, Nat.reduceSub, Nat.reduceLeDiff, Nat.reduceBEq, Nat.reduceLeDiff, Nat.reducePow, Int.reducePow, reqD_of, dec_t, dec_f, wrap_i64, wrap_u32, wrap_u64, wrap_u8, F9.t11_eq, F9.t4_eq]
  refine (idle_any h18.right).mono ?_
  rintro e w19 ⟨h19, rfl⟩
  simp -dsimp -implicitDefEqProofs (disch := omega) only [go_sem, ↓reduceIte, Nat.reduceEqDiff, reduceCtorEq, Nat.reduceAdd, Int.reduceMul, Int.reduceAdd, Int.reduceSub, Int.reduceLT, Int.reduceLE, Int.reduceEq, Int.reduceToNat, Int.reduceNeg, Nat.reduceLT, Nat.reduceDiv, Nat.reduceMod, Nat.reduceMul, Nat.reduceSub, Nat.reduceLeDiff, Nat.reduceBEq, Nat.reduceLeDiff, Nat.reducePow, Int.reducePow, reqD_of, dec_t, dec_f, wrap_i64, wrap_u32, wrap_u64, wrap_u8, F9.t11_eq, F9.t4_eq]
  exact h19.right.right.right.right.right.right


theorem locksNames_any {w0 w : World} {F : HP} (h : St w0 F w) : Calls Try.prog 3 #[] w fun e w' => St w0 F w' ∧ e = .returned (.bool true) := by
  refine F3.calls (by simp) ?_
  unfold F3.code
  simp -dsimp -implicitDefEqProofs (disch := omega) only [go_sem, ↓reduceIte, Nat.reduceEqDiff, reduceCtorEq, Nat.reduceAdd, Int.reduceMul, Int.reduceAdd, Int.reduceSub, Int.reduceLT, Int.reduceLE, Int.reduceEq, Int.reduceToNat, Int.reduceNeg, Nat.reduceLT, Nat.reduceDiv, Nat.reduceMod, Nat.reduceMul, Nat.reduceSub, Nat.reduceLeDiff, Nat.reduceBEq, Nat.reduceLeDiff, Nat.reducePow, Int.reducePow, reqD_of, dec_t, dec_f, wrap_i64, wrap_u32, wrap_u64, wrap_u8]
  refine (known_any h).mono ?_
  rintro e w1 ⟨h1, rfl⟩
  simp -dsimp -implicitDefEqProofs (disch := omega) only [go_sem, ↓reduceIte, Nat.reduceEqDiff, reduceCtorEq, Nat.reduceAdd, Int.reduceMul, Int.reduceAdd, Int.reduceSub, Int.reduceLT, Int.reduceLE, Int.reduceEq, Int.reduceToNat, Int.reduceNeg, Nat.reduceLT, Nat.reduceDiv, Nat.reduceMod, Nat.reduceMul, Nat.reduceSub, Nat.reduceLeDiff, Nat.reduceBEq, Nat.reduceLeDiff, Nat.reducePow, Int.reducePow, reqD_of, dec_t, dec_f, wrap_i64, wrap_u32, wrap_u64, wrap_u8]
  exact h1

theorem St.below0 {w0 w : World} (h : St w0 (Old w0) w) : RowKit.Below w0.heap.size w0 w := by
  refine ⟨h.os, h.tape, h.output, h.size, fun k hk => ?_⟩
  obtain ⟨x, l, a⟩ := h.sat
  have := l k _ (a k _ (Array.getElem?_eq_getElem hk))
  rw [Array.getElem?_eq_getElem hk]
  exact this

end Go.Proofs.Ytacmnfpgimgigaa
