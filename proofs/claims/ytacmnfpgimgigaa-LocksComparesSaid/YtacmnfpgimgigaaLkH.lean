/- Compare, the document's and the program's. -/
import Derived.Test.YtacmnfpgimgigaaLkG
namespace Go.Proofs.Ytacmnfpgimgigaa
open Go
set_option linter.unusedSimpArgs false
set_option linter.unusedVariables false
set_option maxRecDepth 100000

def cmp3 (a b : Int) : Int := if a < b then -1 else if b < a then 1 else 0


theorem nan8_any {w : World} {n : Int} : Calls Try.prog 47 #[.int .u8 n] w fun e w' => w' = w ∧ e = .returned (.bool false) := by
  refine F47.calls (by simp) ?_
  unfold F47.code
  simp -dsimp -implicitDefEqProofs (disch := omega) only [go_sem, ↓reduceIte, Nat.reduceEqDiff, reduceCtorEq, Nat.reduceAdd, Int.reduceMul, Int.reduceAdd, Int.reduceSub, Int.reduceLT, Int.reduceLE, Int.reduceEq, Int.reduceToNat, Int.reduceNeg, Nat.reduceLT, Nat.reduceDiv, Nat.reduceMod, Nat.reduceMul, Nat.reduceSub, Nat.reduceLeDiff, Nat.reduceBEq, Nat.reduceLeDiff, Nat.reducePow, Int.reducePow, reqD_of, dec_t, dec_f, wrap_i64, wrap_u32, wrap_u64, wrap_u8, decide_true]

theorem nanI_any {w : World} {n : Int} : Calls Try.prog 48 #[.int .i64 n] w fun e w' => w' = w ∧ e = .returned (.bool false) := by
  refine F48.calls (by simp) ?_
  unfold F48.code
  simp -dsimp -implicitDefEqProofs (disch := omega) only [go_sem, ↓reduceIte, Nat.reduceEqDiff, reduceCtorEq, Nat.reduceAdd, Int.reduceMul, Int.reduceAdd, Int.reduceSub, Int.reduceLT, Int.reduceLE, Int.reduceEq, Int.reduceToNat, Int.reduceNeg, Nat.reduceLT, Nat.reduceDiv, Nat.reduceMod, Nat.reduceMul, Nat.reduceSub, Nat.reduceLeDiff, Nat.reduceBEq, Nat.reduceLeDiff, Nat.reducePow, Int.reducePow, reqD_of, dec_t, dec_f, wrap_i64, wrap_u32, wrap_u64, wrap_u8, decide_true]

theorem nan64_any {w : World} {n : Int} : Calls Try.prog 49 #[.int .u64 n] w fun e w' => w' = w ∧ e = .returned (.bool false) := by
  refine F49.calls (by simp) ?_
  unfold F49.code
  simp -dsimp -implicitDefEqProofs (disch := omega) only [go_sem, ↓reduceIte, Nat.reduceEqDiff, reduceCtorEq, Nat.reduceAdd, Int.reduceMul, Int.reduceAdd, Int.reduceSub, Int.reduceLT, Int.reduceLE, Int.reduceEq, Int.reduceToNat, Int.reduceNeg, Nat.reduceLT, Nat.reduceDiv, Nat.reduceMod, Nat.reduceMul, Nat.reduceSub, Nat.reduceLeDiff, Nat.reduceBEq, Nat.reduceLeDiff, Nat.reducePow, Int.reducePow, reqD_of, dec_t, dec_f, wrap_i64, wrap_u32, wrap_u64, wrap_u8, decide_true]


theorem cmp8_any {w : World} {a b : Int} : Calls Try.prog 30 #[.int .u8 a, .int .u8 b] w fun e w' => w' = w ∧ e = .returned (.int .i64 (cmp3 a b)) := by
  refine F30.calls (by simp) ?_
  unfold F30.code
  simp -dsimp -implicitDefEqProofs (disch := omega) only [go_sem, ↓reduceIte, Nat.reduceEqDiff, reduceCtorEq, Nat.reduceAdd, Int.reduceMul, Int.reduceAdd, Int.reduceSub, Int.reduceLT, Int.reduceLE, Int.reduceEq, Int.reduceToNat, Int.reduceNeg, Nat.reduceLT, Nat.reduceDiv, Nat.reduceMod, Nat.reduceMul, Nat.reduceSub, Nat.reduceLeDiff, Nat.reduceBEq, Nat.reduceLeDiff, Nat.reducePow, Int.reducePow, reqD_of, dec_t, dec_f, wrap_i64, wrap_u32, wrap_u64, wrap_u8, F30.t6_eq, F30.t13_eq, F30.t11_eq, F30.t9_eq, F30.t7_eq]
  refine nan8_any.mono ?_
  rintro e w1 ⟨rfl, rfl⟩
  simp -dsimp -implicitDefEqProofs (disch := omega) only [go_sem, ↓reduceIte, Nat.reduceEqDiff, reduceCtorEq, Nat.reduceAdd, Int.reduceMul, Int.reduceAdd, Int.reduceSub, Int.reduceLT, Int.reduceLE, Int.reduceEq, Int.reduceToNat, Int.reduceNeg, Nat.reduceLT, Nat.reduceDiv, Nat.reduceMod, Nat.reduceMul, Nat.reduceSub, Nat.reduceLeDiff, Nat.reduceBEq, Nat.reduceLeDiff, Nat.reducePow, Int.reducePow, reqD_of, dec_t, dec_f, wrap_i64, wrap_u32, wrap_u64, wrap_u8, F30.t6_eq, F30.t13_eq, F30.t11_eq, F30.t9_eq, F30.t7_eq]
  refine nan8_any.mono ?_
  rintro e w1 ⟨rfl, rfl⟩
  by_cases h1 : a < b
  · simp -dsimp -implicitDefEqProofs (disch := omega) only [go_sem, ↓reduceIte, Nat.reduceEqDiff, reduceCtorEq, Nat.reduceAdd, Int.reduceMul, Int.reduceAdd, Int.reduceSub, Int.reduceLT, Int.reduceLE, Int.reduceEq, Int.reduceToNat, Int.reduceNeg, Nat.reduceLT, Nat.reduceDiv, Nat.reduceMod, Nat.reduceMul, Nat.reduceSub, Nat.reduceLeDiff, Nat.reduceBEq, Nat.reduceLeDiff, Nat.reducePow, Int.reducePow, reqD_of, dec_t, dec_f, wrap_i64, wrap_u32, wrap_u64, wrap_u8, F30.t6_eq, F30.t13_eq, F30.t11_eq, F30.t9_eq, F30.t7_eq, h1]
    simp [cmp3, h1]
  · by_cases h2 : b < a
    · simp -dsimp -implicitDefEqProofs (disch := omega) only [go_sem, ↓reduceIte, Nat.reduceEqDiff, reduceCtorEq, Nat.reduceAdd, Int.reduceMul, Int.reduceAdd, Int.reduceSub, Int.reduceLT, Int.reduceLE, Int.reduceEq, Int.reduceToNat, Int.reduceNeg, Nat.reduceLT, Nat.reduceDiv, Nat.reduceMod, Nat.reduceMul, Nat.reduceSub, Nat.reduceLeDiff, Nat.reduceBEq, Nat.reduceLeDiff, Nat.reducePow, Int.reducePow, reqD_of, dec_t, dec_f, wrap_i64, wrap_u32, wrap_u64, wrap_u8, F30.t6_eq, F30.t13_eq, F30.t11_eq, F30.t9_eq, F30.t7_eq, h1, h2]
      simp [cmp3, h1, h2]
    · simp -dsimp -implicitDefEqProofs (disch := omega) only [go_sem, ↓reduceIte, Nat.reduceEqDiff, reduceCtorEq, Nat.reduceAdd, Int.reduceMul, Int.reduceAdd, Int.reduceSub, Int.reduceLT, Int.reduceLE, Int.reduceEq, Int.reduceToNat, Int.reduceNeg, Nat.reduceLT, Nat.reduceDiv, Nat.reduceMod, Nat.reduceMul, Nat.reduceSub, Nat.reduceLeDiff, Nat.reduceBEq, Nat.reduceLeDiff, Nat.reducePow, Int.reducePow, reqD_of, dec_t, dec_f, wrap_i64, wrap_u32, wrap_u64, wrap_u8, F30.t6_eq, F30.t13_eq, F30.t11_eq, F30.t9_eq, F30.t7_eq, h1, h2]
      simp [cmp3, h1, h2]

theorem cmpI_any {w : World} {a b : Int} : Calls Try.prog 31 #[.int .i64 a, .int .i64 b] w fun e w' => w' = w ∧ e = .returned (.int .i64 (cmp3 a b)) := by
  refine F31.calls (by simp) ?_
  unfold F31.code
  simp -dsimp -implicitDefEqProofs (disch := omega) only [go_sem, ↓reduceIte, Nat.reduceEqDiff, reduceCtorEq, Nat.reduceAdd, Int.reduceMul, Int.reduceAdd, Int.reduceSub, Int.reduceLT, Int.reduceLE, Int.reduceEq, Int.reduceToNat, Int.reduceNeg, Nat.reduceLT, Nat.reduceDiv, Nat.reduceMod, Nat.reduceMul, Nat.reduceSub, Nat.reduceLeDiff, Nat.reduceBEq, Nat.reduceLeDiff, Nat.reducePow, Int.reducePow, reqD_of, dec_t, dec_f, wrap_i64, wrap_u32, wrap_u64, wrap_u8, F31.t6_eq, F31.t13_eq, F31.t11_eq, F31.t9_eq, F31.t7_eq]
  refine nanI_any.mono ?_
  rintro e w1 ⟨rfl, rfl⟩
  simp -dsimp -implicitDefEqProofs (disch := omega) only [go_sem, ↓reduceIte, Nat.reduceEqDiff, reduceCtorEq, Nat.reduceAdd, Int.reduceMul, Int.reduceAdd, Int.reduceSub, Int.reduceLT, Int.reduceLE, Int.reduceEq, Int.reduceToNat, Int.reduceNeg, Nat.reduceLT, Nat.reduceDiv, Nat.reduceMod, Nat.reduceMul, Nat.reduceSub, Nat.reduceLeDiff, Nat.reduceBEq, Nat.reduceLeDiff, Nat.reducePow, Int.reducePow, reqD_of, dec_t, dec_f, wrap_i64, wrap_u32, wrap_u64, wrap_u8, F31.t6_eq, F31.t13_eq, F31.t11_eq, F31.t9_eq, F31.t7_eq]
  refine nanI_any.mono ?_
  rintro e w1 ⟨rfl, rfl⟩
  by_cases h1 : a < b
  · simp -dsimp -implicitDefEqProofs (disch := omega) only [go_sem, ↓reduceIte, Nat.reduceEqDiff, reduceCtorEq, Nat.reduceAdd, Int.reduceMul, Int.reduceAdd, Int.reduceSub, Int.reduceLT, Int.reduceLE, Int.reduceEq, Int.reduceToNat, Int.reduceNeg, Nat.reduceLT, Nat.reduceDiv, Nat.reduceMod, Nat.reduceMul, Nat.reduceSub, Nat.reduceLeDiff, Nat.reduceBEq, Nat.reduceLeDiff, Nat.reducePow, Int.reducePow, reqD_of, dec_t, dec_f, wrap_i64, wrap_u32, wrap_u64, wrap_u8, F31.t6_eq, F31.t13_eq, F31.t11_eq, F31.t9_eq, F31.t7_eq, h1]
    simp [cmp3, h1]
  · by_cases h2 : b < a
    · simp -dsimp -implicitDefEqProofs (disch := omega) only [go_sem, ↓reduceIte, Nat.reduceEqDiff, reduceCtorEq, Nat.reduceAdd, Int.reduceMul, Int.reduceAdd, Int.reduceSub, Int.reduceLT, Int.reduceLE, Int.reduceEq, Int.reduceToNat, Int.reduceNeg, Nat.reduceLT, Nat.reduceDiv, Nat.reduceMod, Nat.reduceMul, Nat.reduceSub, Nat.reduceLeDiff, Nat.reduceBEq, Nat.reduceLeDiff, Nat.reducePow, Int.reducePow, reqD_of, dec_t, dec_f, wrap_i64, wrap_u32, wrap_u64, wrap_u8, F31.t6_eq, F31.t13_eq, F31.t11_eq, F31.t9_eq, F31.t7_eq, h1, h2]
      simp [cmp3, h1, h2]
    · simp -dsimp -implicitDefEqProofs (disch := omega) only [go_sem, ↓reduceIte, Nat.reduceEqDiff, reduceCtorEq, Nat.reduceAdd, Int.reduceMul, Int.reduceAdd, Int.reduceSub, Int.reduceLT, Int.reduceLE, Int.reduceEq, Int.reduceToNat, Int.reduceNeg, Nat.reduceLT, Nat.reduceDiv, Nat.reduceMod, Nat.reduceMul, Nat.reduceSub, Nat.reduceLeDiff, Nat.reduceBEq, Nat.reduceLeDiff, Nat.reducePow, Int.reducePow, reqD_of, dec_t, dec_f, wrap_i64, wrap_u32, wrap_u64, wrap_u8, F31.t6_eq, F31.t13_eq, F31.t11_eq, F31.t9_eq, F31.t7_eq, h1, h2]
      simp [cmp3, h1, h2]

theorem cmp64_any {w : World} {a b : Int} : Calls Try.prog 32 #[.int .u64 a, .int .u64 b] w fun e w' => w' = w ∧ e = .returned (.int .i64 (cmp3 a b)) := by
  refine F32.calls (by simp) ?_
  unfold F32.code
  simp -dsimp -implicitDefEqProofs (disch := omega) only [go_sem, ↓reduceIte, Nat.reduceEqDiff, reduceCtorEq, Nat.reduceAdd, Int.reduceMul, Int.reduceAdd, Int.reduceSub, Int.reduceLT, Int.reduceLE, Int.reduceEq, Int.reduceToNat, Int.reduceNeg, Nat.reduceLT, Nat.reduceDiv, Nat.reduceMod, Nat.reduceMul, Nat.reduceSub, Nat.reduceLeDiff, Nat.reduceBEq, Nat.reduceLeDiff, Nat.reducePow, Int.reducePow, reqD_of, dec_t, dec_f, wrap_i64, wrap_u32, wrap_u64, wrap_u8, F32.t6_eq, F32.t13_eq, F32.t11_eq, F32.t9_eq, F32.t7_eq]
  refine nan64_any.mono ?_
  rintro e w1 ⟨rfl, rfl⟩
  simp -dsimp -implicitDefEqProofs (disch := omega) only [go_sem, ↓reduceIte, Nat.reduceEqDiff, reduceCtorEq, Nat.reduceAdd, Int.reduceMul, Int.reduceAdd, Int.reduceSub, Int.reduceLT, Int.reduceLE, Int.reduceEq, Int.reduceToNat, Int.reduceNeg, Nat.reduceLT, Nat.reduceDiv, Nat.reduceMod, Nat.reduceMul, Nat.reduceSub, Nat.reduceLeDiff, Nat.reduceBEq, Nat.reduceLeDiff, Nat.reducePow, Int.reducePow, reqD_of, dec_t, dec_f, wrap_i64, wrap_u32, wrap_u64, wrap_u8, F32.t6_eq, F32.t13_eq, F32.t11_eq, F32.t9_eq, F32.t7_eq]
  refine nan64_any.mono ?_
  rintro e w1 ⟨rfl, rfl⟩
  by_cases h1 : a < b
  · simp -dsimp -implicitDefEqProofs (disch := omega) only [go_sem, ↓reduceIte, Nat.reduceEqDiff, reduceCtorEq, Nat.reduceAdd, Int.reduceMul, Int.reduceAdd, Int.reduceSub, Int.reduceLT, Int.reduceLE, Int.reduceEq, Int.reduceToNat, Int.reduceNeg, Nat.reduceLT, Nat.reduceDiv, Nat.reduceMod, Nat.reduceMul, Nat.reduceSub, Nat.reduceLeDiff, Nat.reduceBEq, Nat.reduceLeDiff, Nat.reducePow, Int.reducePow, reqD_of, dec_t, dec_f, wrap_i64, wrap_u32, wrap_u64, wrap_u8, F32.t6_eq, F32.t13_eq, F32.t11_eq, F32.t9_eq, F32.t7_eq, h1]
    simp [cmp3, h1]
  · by_cases h2 : b < a
    · simp -dsimp -implicitDefEqProofs (disch := omega) only [go_sem, ↓reduceIte, Nat.reduceEqDiff, reduceCtorEq, Nat.reduceAdd, Int.reduceMul, Int.reduceAdd, Int.reduceSub, Int.reduceLT, Int.reduceLE, Int.reduceEq, Int.reduceToNat, Int.reduceNeg, Nat.reduceLT, Nat.reduceDiv, Nat.reduceMod, Nat.reduceMul, Nat.reduceSub, Nat.reduceLeDiff, Nat.reduceBEq, Nat.reduceLeDiff, Nat.reducePow, Int.reducePow, reqD_of, dec_t, dec_f, wrap_i64, wrap_u32, wrap_u64, wrap_u8, F32.t6_eq, F32.t13_eq, F32.t11_eq, F32.t9_eq, F32.t7_eq, h1, h2]
      simp [cmp3, h1, h2]
    · simp -dsimp -implicitDefEqProofs (disch := omega) only [go_sem, ↓reduceIte, Nat.reduceEqDiff, reduceCtorEq, Nat.reduceAdd, Int.reduceMul, Int.reduceAdd, Int.reduceSub, Int.reduceLT, Int.reduceLE, Int.reduceEq, Int.reduceToNat, Int.reduceNeg, Nat.reduceLT, Nat.reduceDiv, Nat.reduceMod, Nat.reduceMul, Nat.reduceSub, Nat.reduceLeDiff, Nat.reduceBEq, Nat.reduceLeDiff, Nat.reducePow, Int.reducePow, reqD_of, dec_t, dec_f, wrap_i64, wrap_u32, wrap_u64, wrap_u8, F32.t6_eq, F32.t13_eq, F32.t11_eq, F32.t9_eq, F32.t7_eq, h1, h2]
      simp [cmp3, h1, h2]

/-- The first that is not 0. -/
def orL : List Int → Int
  | [] => 0
  | n :: l => if n = 0 then orL l else n


theorem or_any {w0 w : World} {F : HP} {v : Value} {n : Nat} {l : List Int} (h : St w0 F w) (hr : Ent F (Reads 1 v n (intR l))) (hl : l.length < 1099511627776) :
    Calls Try.prog 29 #[v] w fun e w' => St w0 F w' ∧ e = .returned (.int .i64 (orL l)) := by
  obtain ⟨rfl, a, c, rfl, hnc, _⟩ := intAt (h.ent hr)
  refine F29.calls (by simp) ?_
  unfold F29.code
  simp -dsimp -implicitDefEqProofs (disch := omega) only [go_sem, ↓reduceIte, Nat.reduceEqDiff, reduceCtorEq, Nat.reduceAdd, Int.reduceMul, Int.reduceAdd, Int.reduceSub, Int.reduceLT, Int.reduceLE, Int.reduceEq, Int.reduceToNat, Int.reduceNeg, Nat.reduceLT, Nat.reduceDiv, Nat.reduceMod, Nat.reduceMul, Nat.reduceSub, Nat.reduceLeDiff, Nat.reduceBEq, Nat.reduceLeDiff, Nat.reducePow, Int.reducePow, reqD_of, dec_t, dec_f, wrap_i64, wrap_u32, wrap_u64, wrap_u8, F29.t7_eq, F29.t4_eq, F29.t8_eq]
  refine loop_intro (fun e w' => St w0 F w' ∧ e.ds = [] ∧ e.ρ 3 = .int .i64 0 ∧ e.ρ 6 = .slice a l.length c ∧ e.ρ 7 = .int .i64 l.length ∧ ∃ i : Nat, i ≤ l.length ∧ e.ρ 8 = .int .i64 i ∧ orL l = orL (l.drop i))
    (fun e _ => match e.ρ 8 with | .int _ n => (l.length - n).toNat | _ => 0) ?_ ?_
  · exact ⟨h, rfl, by simp -dsimp -implicitDefEqProofs only [go_sem, ↓reduceIte, Nat.reduceEqDiff, reduceCtorEq, Nat.reduceAdd, Int.reduceMul, Int.reduceAdd, Int.reduceSub, Int.reduceLT, Int.reduceLE, Int.reduceEq, Int.reduceToNat, Int.reduceNeg, Nat.reduceLT, Nat.reduceDiv, Nat.reduceMod, Nat.reduceMul, Nat.reduceSub, Nat.reduceLeDiff, Nat.reduceBEq, Nat.reduceLeDiff, Nat.reducePow, Int.reducePow, F29.t7_eq, F29.t4_eq, F29.t8_eq], by simp -dsimp -implicitDefEqProofs only [go_sem, ↓reduceIte, Nat.reduceEqDiff, reduceCtorEq, Nat.reduceAdd, Int.reduceMul, Int.reduceAdd, Int.reduceSub, Int.reduceLT, Int.reduceLE, Int.reduceEq, Int.reduceToNat, Int.reduceNeg, Nat.reduceLT, Nat.reduceDiv, Nat.reduceMod, Nat.reduceMul, Nat.reduceSub, Nat.reduceLeDiff, Nat.reduceBEq, Nat.reduceLeDiff, Nat.reducePow, Int.reducePow, F29.t7_eq, F29.t4_eq, F29.t8_eq], by simp -dsimp -implicitDefEqProofs only [go_sem, ↓reduceIte, Nat.reduceEqDiff, reduceCtorEq, Nat.reduceAdd, Int.reduceMul, Int.reduceAdd, Int.reduceSub, Int.reduceLT, Int.reduceLE, Int.reduceEq, Int.reduceToNat, Int.reduceNeg, Nat.reduceLT, Nat.reduceDiv, Nat.reduceMod, Nat.reduceMul, Nat.reduceSub, Nat.reduceLeDiff, Nat.reduceBEq, Nat.reduceLeDiff, Nat.reducePow, Int.reducePow, F29.t7_eq, F29.t4_eq, F29.t8_eq], 0, by omega, rfl, rfl⟩
  rintro e w1 ⟨h1, hd, e3, e6, e7, i, hi, e8, hpos⟩
  by_cases hlt : (i : Int) < l.length
  case neg =>
    have : i = l.length := by omega
    subst this
    simp -dsimp -implicitDefEqProofs (disch := omega) only [go_sem, ↓reduceIte, Nat.reduceEqDiff, reduceCtorEq, Nat.reduceAdd, Int.reduceMul, Int.reduceAdd, Int.reduceSub, Int.reduceLT, Int.reduceLE, Int.reduceEq, Int.reduceToNat, Int.reduceNeg, Nat.reduceLT, Nat.reduceDiv, Nat.reduceMod, Nat.reduceMul, Nat.reduceSub, Nat.reduceLeDiff, Nat.reduceBEq, Nat.reduceLeDiff, Nat.reducePow, Int.reducePow, reqD_of, dec_t, dec_f, wrap_i64, wrap_u32, wrap_u64, wrap_u8, F29.t7_eq, F29.t4_eq, F29.t8_eq, hd, e3, e6, e7, e8, hlt]
    exact ⟨h1, by rw [hpos, List.drop_length]; rfl⟩
  have hil : i < l.length := by omega
  obtain ⟨_, a', c', hv, _, hcl⟩ := intAt (h1.ent hr)
  simp only [Value.slice.injEq, true_and] at hv
  obtain ⟨rfl, rfl⟩ := hv
  obtain ⟨b, o, rfl, hx⟩ := hcl i hil
  rw [List.drop_eq_getElem_cons hil, orL] at hpos
  by_cases hz : l[i] = 0
  · rw [if_pos hz] at hpos
    simp -dsimp -implicitDefEqProofs (disch := omega) only [go_sem, ↓reduceIte, Nat.reduceEqDiff, reduceCtorEq, Nat.reduceAdd, Int.reduceMul, Int.reduceAdd, Int.reduceSub, Int.reduceLT, Int.reduceLE, Int.reduceEq, Int.reduceToNat, Int.reduceNeg, Nat.reduceLT, Nat.reduceDiv, Nat.reduceMod, Nat.reduceMul, Nat.reduceSub, Nat.reduceLeDiff, Nat.reduceBEq, Nat.reduceLeDiff, Nat.reducePow, Int.reducePow, reqD_of, dec_t, dec_f, wrap_i64, wrap_u32, wrap_u64, wrap_u8, F29.t7_eq, F29.t4_eq, F29.t8_eq, hd, e3, e6, e7, e8, hlt, hx, hz]
    exact ⟨⟨h1, i + 1, by omega, by simp, hpos⟩, by omega⟩
  · rw [if_neg hz] at hpos
    simp -dsimp -implicitDefEqProofs (disch := omega) only [go_sem, ↓reduceIte, Nat.reduceEqDiff, reduceCtorEq, Nat.reduceAdd, Int.reduceMul, Int.reduceAdd, Int.reduceSub, Int.reduceLT, Int.reduceLE, Int.reduceEq, Int.reduceToNat, Int.reduceNeg, Nat.reduceLT, Nat.reduceDiv, Nat.reduceMod, Nat.reduceMul, Nat.reduceSub, Nat.reduceLeDiff, Nat.reduceBEq, Nat.reduceLeDiff, Nat.reducePow, Int.reducePow, reqD_of, dec_t, dec_f, wrap_i64, wrap_u32, wrap_u64, wrap_u8, F29.t7_eq, F29.t4_eq, F29.t8_eq, hd, e3, e6, e7, e8, hlt, hx, hz]
    exact ⟨h1, by rw [hpos]⟩

def cmpN (a b : Nam) : Int := orL [cmp3 a.1 b.1, cmp3 a.2.1 b.2.1, cmp3 a.2.2 b.2.2]


theorem compare_any {w0 w : World} {F : HP} {a b : Nam} (h : St w0 F w) : Calls Try.prog 10 #[namV a, namV b] w fun e w' => St w0 F w' ∧ e = .returned (.int .i64 (cmpN a b)) := by
  refine F10.calls (by simp) ?_
  unfold F10.code
  simp -dsimp -implicitDefEqProofs (disch := omega) only [go_sem, ↓reduceIte, Nat.reduceEqDiff, reduceCtorEq, Nat.reduceAdd, Int.reduceMul, Int.reduceAdd, Int.reduceSub, Int.reduceLT, Int.reduceLE, Int.reduceEq, Int.reduceToNat, Int.reduceNeg, Nat.reduceLT, Nat.reduceDiv, Nat.reduceMod, Nat.reduceMul, Nat.reduceSub, Nat.reduceLeDiff, Nat.reduceBEq, Nat.reduceLeDiff, Nat.reducePow, Int.reducePow, reqD_of, dec_t, dec_f, wrap_i64, wrap_u32, wrap_u64, wrap_u8]
  refine h.new fun X w1 h1 => ?_
  simp -dsimp -implicitDefEqProofs (disch := omega) only [go_sem, ↓reduceIte, Nat.reduceEqDiff, reduceCtorEq, Nat.reduceAdd, Int.reduceMul, Int.reduceAdd, Int.reduceSub, Int.reduceLT, Int.reduceLE, Int.reduceEq, Int.reduceToNat, Int.reduceNeg, Nat.reduceLT, Nat.reduceDiv, Nat.reduceMod, Nat.reduceMul, Nat.reduceSub, Nat.reduceLeDiff, Nat.reduceBEq, Nat.reduceLeDiff, Nat.reducePow, Int.reducePow, reqD_of, dec_t, dec_f, wrap_i64, wrap_u32, wrap_u64, wrap_u8]
  refine h1.new fun Y w2 h2 => ?_
  have hY := h2.drew.cells
  have hX := h2.drew.sw2.cells
  simp only [Value.cells, namC] at hX hY
  simp -dsimp -implicitDefEqProofs (disch := omega) only [go_sem, ↓reduceIte, Nat.reduceEqDiff, reduceCtorEq, Nat.reduceAdd, Int.reduceMul, Int.reduceAdd, Int.reduceSub, Int.reduceLT, Int.reduceLE, Int.reduceEq, Int.reduceToNat, Int.reduceNeg, Nat.reduceLT, Nat.reduceDiv, Nat.reduceMod, Nat.reduceMul, Nat.reduceSub, Nat.reduceLeDiff, Nat.reduceBEq, Nat.reduceLeDiff, Nat.reducePow, Int.reducePow, reqD_of, dec_t, dec_f, wrap_i64, wrap_u32, wrap_u64, wrap_u8, hX, hY]
  refine cmp8_any.mono ?_
  rintro e w3 ⟨rfl, rfl⟩
  simp -dsimp -implicitDefEqProofs (disch := omega) only [go_sem, ↓reduceIte, Nat.reduceEqDiff, reduceCtorEq, Nat.reduceAdd, Int.reduceMul, Int.reduceAdd, Int.reduceSub, Int.reduceLT, Int.reduceLE, Int.reduceEq, Int.reduceToNat, Int.reduceNeg, Nat.reduceLT, Nat.reduceDiv, Nat.reduceMod, Nat.reduceMul, Nat.reduceSub, Nat.reduceLeDiff, Nat.reduceBEq, Nat.reduceLeDiff, Nat.reducePow, Int.reducePow, reqD_of, dec_t, dec_f, wrap_i64, wrap_u32, wrap_u64, wrap_u8, hX, hY]
  refine cmpI_any.mono ?_
  rintro e w3 ⟨rfl, rfl⟩
  simp -dsimp -implicitDefEqProofs (disch := omega) only [go_sem, ↓reduceIte, Nat.reduceEqDiff, reduceCtorEq, Nat.reduceAdd, Int.reduceMul, Int.reduceAdd, Int.reduceSub, Int.reduceLT, Int.reduceLE, Int.reduceEq, Int.reduceToNat, Int.reduceNeg, Nat.reduceLT, Nat.reduceDiv, Nat.reduceMod, Nat.reduceMul, Nat.reduceSub, Nat.reduceLeDiff, Nat.reduceBEq, Nat.reduceLeDiff, Nat.reducePow, Int.reducePow, reqD_of, dec_t, dec_f, wrap_i64, wrap_u32, wrap_u64, wrap_u8, hX, hY]
  refine cmp64_any.mono ?_
  rintro e w3 ⟨rfl, rfl⟩
  simp -dsimp -implicitDefEqProofs (disch := omega) only [go_sem, ↓reduceIte, Nat.reduceEqDiff, reduceCtorEq, Nat.reduceAdd, Int.reduceMul, Int.reduceAdd, Int.reduceSub, Int.reduceLT, Int.reduceLE, Int.reduceEq, Int.reduceToNat, Int.reduceNeg, Nat.reduceLT, Nat.reduceDiv, Nat.reduceMod, Nat.reduceMul, Nat.reduceSub, Nat.reduceLeDiff, Nat.reduceBEq, Nat.reduceLeDiff, Nat.reducePow, Int.reducePow, reqD_of, dec_t, dec_f, wrap_i64, wrap_u32, wrap_u64, wrap_u8, hX, hY]
  refine h2.drew.buildSlice (s := 1) fact_rowTy_34 (cells := intR [cmp3 a.1 b.1, cmp3 a.2.1 b.2.1, cmp3 a.2.2 b.2.2]) rfl (by decide) (by decide) fun v3 w4 h4 => ?_
  have hY4 := h4.sw2.cells
  have hX4 := h4.sw3.cells
  simp only [Value.cells, namC] at hX4 hY4
  simp -dsimp -implicitDefEqProofs (disch := omega) only [go_sem, ↓reduceIte, Nat.reduceEqDiff, reduceCtorEq, Nat.reduceAdd, Int.reduceMul, Int.reduceAdd, Int.reduceSub, Int.reduceLT, Int.reduceLE, Int.reduceEq, Int.reduceToNat, Int.reduceNeg, Nat.reduceLT, Nat.reduceDiv, Nat.reduceMod, Nat.reduceMul, Nat.reduceSub, Nat.reduceLeDiff, Nat.reduceBEq, Nat.reduceLeDiff, Nat.reducePow, Int.reducePow, reqD_of, dec_t, dec_f, wrap_i64, wrap_u32, wrap_u64, wrap_u8, hX4, hY4]
  refine (or_any h4 ((Ent.left _ _).trans (Row.reads _ _ _ _ _)) (by simp)).mono ?_
  rintro e w5 ⟨h5, rfl⟩
  have hY5 := h5.sw2.cells
  have hX5 := h5.sw3.cells
  simp only [Value.cells, namC] at hX5 hY5
  simp -dsimp -implicitDefEqProofs (disch := omega) only [go_sem, ↓reduceIte, Nat.reduceEqDiff, reduceCtorEq, Nat.reduceAdd, Int.reduceMul, Int.reduceAdd, Int.reduceSub, Int.reduceLT, Int.reduceLE, Int.reduceEq, Int.reduceToNat, Int.reduceNeg, Nat.reduceLT, Nat.reduceDiv, Nat.reduceMod, Nat.reduceMul, Nat.reduceSub, Nat.reduceLeDiff, Nat.reduceBEq, Nat.reduceLeDiff, Nat.reducePow, Int.reducePow, reqD_of, dec_t, dec_f, wrap_i64, wrap_u32, wrap_u64, wrap_u8, hX5, hY5]
  exact ⟨h5.right.right.right, rfl⟩

theorem cmp3_lt {a b : Int} (h : a < b) : cmp3 a b = -1 := by simp [cmp3, h]
theorem cmp3_gt {a b : Int} (h : b < a) : cmp3 a b = 1 := by simp [cmp3, h, show ¬ a < b by omega]
theorem cmp3_eq (a : Int) : cmp3 a a = 0 := by simp [cmp3]


theorem refCompare_any {w0 w : World} {F : HP} {a b : Nam} (h : St w0 F w) : Calls Try.prog 11 #[namV a, namV b] w fun e w' => St w0 F w' ∧ e = .returned (.int .i64 (cmpN a b)) := by
  refine F11.calls (by simp) ?_
  unfold F11.code
  simp -dsimp -implicitDefEqProofs (disch := omega) only [go_sem, ↓reduceIte, Nat.reduceEqDiff, reduceCtorEq, Nat.reduceAdd, Int.reduceMul, Int.reduceAdd, Int.reduceSub, Int.reduceLT, Int.reduceLE, Int.reduceEq, Int.reduceToNat, Int.reduceNeg, Nat.reduceLT, Nat.reduceDiv, Nat.reduceMod, Nat.reduceMul, Nat.reduceSub, Nat.reduceLeDiff, Nat.reduceBEq, Nat.reduceLeDiff, Nat.reducePow, Int.reducePow, reqD_of, dec_t, dec_f, wrap_i64, wrap_u32, wrap_u64, wrap_u8, F11.t4_eq, F11.t8_eq, F11.t12_eq, F11.t13_eq, F11.t9_eq, F11.t5_eq]
  refine h.new fun X w1 h1 => ?_
  simp -dsimp -implicitDefEqProofs (disch := omega) only [go_sem, ↓reduceIte, Nat.reduceEqDiff, reduceCtorEq, Nat.reduceAdd, Int.reduceMul, Int.reduceAdd, Int.reduceSub, Int.reduceLT, Int.reduceLE, Int.reduceEq, Int.reduceToNat, Int.reduceNeg, Nat.reduceLT, Nat.reduceDiv, Nat.reduceMod, Nat.reduceMul, Nat.reduceSub, Nat.reduceLeDiff, Nat.reduceBEq, Nat.reduceLeDiff, Nat.reducePow, Int.reducePow, reqD_of, dec_t, dec_f, wrap_i64, wrap_u32, wrap_u64, wrap_u8, F11.t4_eq, F11.t8_eq, F11.t12_eq, F11.t13_eq, F11.t9_eq, F11.t5_eq]
  refine h1.new fun Y w2 h2 => ?_
  have hY := h2.cells
  have hX := h2.sw2.cells
  simp only [Value.cells, namC] at hX hY
  obtain ⟨a1, a2, a3⟩ := a
  obtain ⟨b1, b2, b3⟩ := b
  simp only at hX hY
  by_cases q1 : a1 = b1
  · by_cases q2 : a2 = b2
    · by_cases q3 : a3 = b3
      · subst q1 q2 q3
        simp -dsimp -implicitDefEqProofs (disch := omega) only [go_sem, ↓reduceIte, Nat.reduceEqDiff, reduceCtorEq, Nat.reduceAdd, Int.reduceMul, Int.reduceAdd, Int.reduceSub, Int.reduceLT, Int.reduceLE, Int.reduceEq, Int.reduceToNat, Int.reduceNeg, Nat.reduceLT, Nat.reduceDiv, Nat.reduceMod, Nat.reduceMul, Nat.reduceSub, Nat.reduceLeDiff, Nat.reduceBEq, Nat.reduceLeDiff, Nat.reducePow, Int.reducePow, reqD_of, dec_t, dec_f, wrap_i64, wrap_u32, wrap_u64, wrap_u8, F11.t4_eq, F11.t8_eq, F11.t12_eq, F11.t13_eq, F11.t9_eq, F11.t5_eq, hX, hY, decide_true]
        exact ⟨h2.right.right, by simp [cmpN, orL, cmp3_eq]⟩
      · subst q1 q2
        rcases Int.lt_or_gt_of_ne q3 with q | q
        · simp -dsimp -implicitDefEqProofs (disch := omega) only [go_sem, ↓reduceIte, Nat.reduceEqDiff, reduceCtorEq, Nat.reduceAdd, Int.reduceMul, Int.reduceAdd, Int.reduceSub, Int.reduceLT, Int.reduceLE, Int.reduceEq, Int.reduceToNat, Int.reduceNeg, Nat.reduceLT, Nat.reduceDiv, Nat.reduceMod, Nat.reduceMul, Nat.reduceSub, Nat.reduceLeDiff, Nat.reduceBEq, Nat.reduceLeDiff, Nat.reducePow, Int.reducePow, reqD_of, dec_t, dec_f, wrap_i64, wrap_u32, wrap_u64, wrap_u8, F11.t4_eq, F11.t8_eq, F11.t12_eq, F11.t13_eq, F11.t9_eq, F11.t5_eq, hX, hY, q, q3, decide_true]
          exact ⟨h2.right.right, by simp [cmpN, orL, cmp3_eq, cmp3_lt q]⟩
        · have q' : ¬ a3 < b3 := by omega
          simp -dsimp -implicitDefEqProofs (disch := omega) only [go_sem, ↓reduceIte, Nat.reduceEqDiff, reduceCtorEq, Nat.reduceAdd, Int.reduceMul, Int.reduceAdd, Int.reduceSub, Int.reduceLT, Int.reduceLE, Int.reduceEq, Int.reduceToNat, Int.reduceNeg, Nat.reduceLT, Nat.reduceDiv, Nat.reduceMod, Nat.reduceMul, Nat.reduceSub, Nat.reduceLeDiff, Nat.reduceBEq, Nat.reduceLeDiff, Nat.reducePow, Int.reducePow, reqD_of, dec_t, dec_f, wrap_i64, wrap_u32, wrap_u64, wrap_u8, F11.t4_eq, F11.t8_eq, F11.t12_eq, F11.t13_eq, F11.t9_eq, F11.t5_eq, hX, hY, q', q3, decide_true]
          exact ⟨h2.right.right, by simp [cmpN, orL, cmp3_eq, cmp3_gt q]⟩
    · subst q1
      rcases Int.lt_or_gt_of_ne q2 with q | q
      · simp -dsimp -implicitDefEqProofs (disch := omega) only [go_sem, ↓reduceIte, Nat.reduceEqDiff, reduceCtorEq, Nat.reduceAdd, Int.reduceMul, Int.reduceAdd, Int.reduceSub, Int.reduceLT, Int.reduceLE, Int.reduceEq, Int.reduceToNat, Int.reduceNeg, Nat.reduceLT, Nat.reduceDiv, Nat.reduceMod, Nat.reduceMul, Nat.reduceSub, Nat.reduceLeDiff, Nat.reduceBEq, Nat.reduceLeDiff, Nat.reducePow, Int.reducePow, reqD_of, dec_t, dec_f, wrap_i64, wrap_u32, wrap_u64, wrap_u8, F11.t4_eq, F11.t8_eq, F11.t12_eq, F11.t13_eq, F11.t9_eq, F11.t5_eq, hX, hY, q, q2, decide_true]
        exact ⟨h2.right.right, by simp [cmpN, orL, cmp3_eq, cmp3_lt q]⟩
      · have q' : ¬ a2 < b2 := by omega
        simp -dsimp -implicitDefEqProofs (disch := omega) only [go_sem, ↓reduceIte, Nat.reduceEqDiff, reduceCtorEq, Nat.reduceAdd, Int.reduceMul, Int.reduceAdd, Int.reduceSub, Int.reduceLT, Int.reduceLE, Int.reduceEq, Int.reduceToNat, Int.reduceNeg, Nat.reduceLT, Nat.reduceDiv, Nat.reduceMod, Nat.reduceMul, Nat.reduceSub, Nat.reduceLeDiff, Nat.reduceBEq, Nat.reduceLeDiff, Nat.reducePow, Int.reducePow, reqD_of, dec_t, dec_f, wrap_i64, wrap_u32, wrap_u64, wrap_u8, F11.t4_eq, F11.t8_eq, F11.t12_eq, F11.t13_eq, F11.t9_eq, F11.t5_eq, hX, hY, q', q2, decide_true]
        exact ⟨h2.right.right, by simp [cmpN, orL, cmp3_eq, cmp3_gt q]⟩
  · rcases Int.lt_or_gt_of_ne q1 with q | q
    · simp -dsimp -implicitDefEqProofs (disch := omega) only [go_sem, ↓reduceIte, Nat.reduceEqDiff, reduceCtorEq, Nat.reduceAdd, Int.reduceMul, Int.reduceAdd, Int.reduceSub, Int.reduceLT, Int.reduceLE, Int.reduceEq, Int.reduceToNat, Int.reduceNeg, Nat.reduceLT, Nat.reduceDiv, Nat.reduceMod, Nat.reduceMul, Nat.reduceSub, Nat.reduceLeDiff, Nat.reduceBEq, Nat.reduceLeDiff, Nat.reducePow, Int.reducePow, reqD_of, dec_t, dec_f, wrap_i64, wrap_u32, wrap_u64, wrap_u8, F11.t4_eq, F11.t8_eq, F11.t12_eq, F11.t13_eq, F11.t9_eq, F11.t5_eq, hX, hY, q, q1]
      exact ⟨h2.right.right, by simp [cmpN, orL, cmp3_lt q]⟩
    · have q' : ¬ a1 < b1 := by omega
      simp -dsimp -implicitDefEqProofs (disch := omega) only [go_sem, ↓reduceIte, Nat.reduceEqDiff, reduceCtorEq, Nat.reduceAdd, Int.reduceMul, Int.reduceAdd, Int.reduceSub, Int.reduceLT, Int.reduceLE, Int.reduceEq, Int.reduceToNat, Int.reduceNeg, Nat.reduceLT, Nat.reduceDiv, Nat.reduceMod, Nat.reduceMul, Nat.reduceSub, Nat.reduceLeDiff, Nat.reduceBEq, Nat.reduceLeDiff, Nat.reducePow, Int.reducePow, reqD_of, dec_t, dec_f, wrap_i64, wrap_u32, wrap_u64, wrap_u8, F11.t4_eq, F11.t8_eq, F11.t12_eq, F11.t13_eq, F11.t9_eq, F11.t5_eq, hX, hY, q', q1]
      exact ⟨h2.right.right, by simp [cmpN, orL, cmp3_gt q]⟩

/-! ### The plain law: an order -/

theorem cmp3_cases (a b : Int) : (a < b ∧ cmp3 a b = -1) ∨ (a = b ∧ cmp3 a b = 0) ∨ (b < a ∧ cmp3 a b = 1) := by
  rcases Int.lt_trichotomy a b with h | h | h
  · exact .inl ⟨h, cmp3_lt h⟩
  · exact .inr (.inl ⟨h, by rw [h, cmp3_eq]⟩)
  · exact .inr (.inr ⟨h, cmp3_gt h⟩)
theorem cmpN_cases (a b : Nam) : (cmpN a b = -1 ∧ (a.1 < b.1 ∨ a.1 = b.1 ∧ (a.2.1 < b.2.1 ∨ a.2.1 = b.2.1 ∧ a.2.2 < b.2.2))) ∨ (cmpN a b = 0 ∧ a.1 = b.1 ∧ a.2.1 = b.2.1 ∧ a.2.2 = b.2.2) ∨
    (cmpN a b = 1 ∧ (b.1 < a.1 ∨ a.1 = b.1 ∧ (b.2.1 < a.2.1 ∨ a.2.1 = b.2.1 ∧ b.2.2 < a.2.2))) := by
  unfold cmpN
  rcases cmp3_cases a.1 b.1 with ⟨h1, e1⟩ | ⟨h1, e1⟩ | ⟨h1, e1⟩ <;> rcases cmp3_cases a.2.1 b.2.1 with ⟨h2, e2⟩ | ⟨h2, e2⟩ | ⟨h2, e2⟩ <;> rcases cmp3_cases a.2.2 b.2.2 with ⟨h3, e3⟩ | ⟨h3, e3⟩ | ⟨h3, e3⟩ <;>
    simp [orL, e1, e2, e3] <;> omega

end Go.Proofs.Ytacmnfpgimgigaa
