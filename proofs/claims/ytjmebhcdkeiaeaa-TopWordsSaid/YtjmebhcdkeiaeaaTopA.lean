/- Errors' words: the program's and the document's, each a table. -/
import Derived.Test.YtjmebhcdkeiaeaaIr
namespace Go.Proofs.Ytjmebhcdkeiaeaa
open Go
set_option linter.unusedSimpArgs false
set_option linter.unusedVariables false
set_option maxRecDepth 100000

def wLast (n : Int) : ByteArray :=
  if n = 114 then ⟨#[117, 110, 107, 110, 111, 119, 110, 32, 117, 115, 101, 114]⟩ else
  if n = 115 then ⟨#[117, 110, 107, 110, 111, 119, 110, 32, 116, 114, 101, 101]⟩ else
  if n = 116 then ⟨#[97, 117, 116, 104, 101, 110, 116, 105, 99, 97, 116, 105, 111, 110, 32, 105, 115, 32, 119, 114, 111, 110, 103, 32, 104, 101, 114, 101]⟩ else
  if n = 117 then ⟨#[102, 105, 100, 32, 105, 115, 32, 110, 111, 116, 32, 111, 112, 101, 110, 32, 102, 111, 114, 32, 116, 104, 105, 115]⟩ else
  if n = 118 then ⟨#[98, 97, 100, 32, 111, 102, 102, 115, 101, 116, 32, 105, 110, 32, 97, 32, 100, 105, 114, 101, 99, 116, 111, 114, 121]⟩ else
  if n = 119 then ⟨#[99, 111, 117, 110, 116, 32, 105, 115, 32, 116, 111, 111, 32, 115, 109, 97, 108, 108]⟩ else
  if n = 120 then ⟨#[98, 97, 100, 32, 116, 97, 103]⟩ else
  if n = 121 then ⟨#[110, 111, 32, 118, 101, 114, 115, 105, 111, 110, 32, 119, 97, 115, 32, 97, 103, 114, 101, 101, 100, 32, 111, 110]⟩ else
  if n = 122 then ⟨#[109, 101, 115, 115, 97, 103, 101, 32, 115, 105, 122, 101, 32, 105, 115, 32, 116, 111, 111, 32, 115, 109, 97, 108, 108]⟩ else
  if n = 123 then ⟨#[99, 111, 110, 110, 101, 99, 116, 105, 111, 110, 32, 105, 115, 32, 99, 108, 111, 115, 101, 100]⟩ else
  if n = 140 then ⟨#[116, 97, 103, 32, 105, 115, 32, 105, 110, 32, 117, 115, 101]⟩ else
  if n = 141 then ⟨#[116, 111, 111, 32, 109, 97, 110, 121, 32, 114, 101, 113, 117, 101, 115, 116, 115]⟩ else
  if n = 180 then ⟨#[115, 101, 114, 118, 101, 114, 32, 100, 111, 101, 115, 32, 110, 111, 116, 32, 97, 110, 115, 119, 101, 114]⟩ else
  if n = 181 then ⟨#[117, 110, 101, 120, 112, 101, 99, 116, 101, 100, 32, 114, 101, 112, 108, 121]⟩ else
  ⟨#[101, 114, 114, 111, 114]⟩


theorem wLast_any (w : World) (n : Int) : Calls Try.prog 19 #[.int .i64 n] w fun e w' => w' = w ∧ e = .returned (.string (wLast n)) := by
  refine F19.calls (by simp) ?_
  unfold F19.code
  by_cases h0 : n = 114
  · subst h0
    simp -dsimp -implicitDefEqProofs only [go_sem, ↓reduceIte, Nat.reduceEqDiff, reduceCtorEq, Nat.reduceAdd, Int.reduceMul, Int.reduceAdd, Int.reduceSub, Int.reduceLT, Int.reduceLE, Int.reduceEq, Int.reduceToNat, Int.reduceNeg, Nat.reduceLT, Nat.reduceDiv, Nat.reduceMod, Nat.reduceMul, Nat.reduceSub, Nat.reduceLeDiff, Nat.reduceBEq, Nat.reduceLeDiff, Nat.reducePow, Int.reducePow, F19.t30_eq]
    first | done | rfl | exact ⟨rfl, rfl⟩
  by_cases h1 : n = 115
  · subst h1
    simp -dsimp -implicitDefEqProofs only [go_sem, ↓reduceIte, Nat.reduceEqDiff, reduceCtorEq, Nat.reduceAdd, Int.reduceMul, Int.reduceAdd, Int.reduceSub, Int.reduceLT, Int.reduceLE, Int.reduceEq, Int.reduceToNat, Int.reduceNeg, Nat.reduceLT, Nat.reduceDiv, Nat.reduceMod, Nat.reduceMul, Nat.reduceSub, Nat.reduceLeDiff, Nat.reduceBEq, Nat.reduceLeDiff, Nat.reducePow, Int.reducePow, F19.t30_eq]
    first | done | rfl | exact ⟨rfl, rfl⟩
  by_cases h2 : n = 116
  · subst h2
    simp -dsimp -implicitDefEqProofs only [go_sem, ↓reduceIte, Nat.reduceEqDiff, reduceCtorEq, Nat.reduceAdd, Int.reduceMul, Int.reduceAdd, Int.reduceSub, Int.reduceLT, Int.reduceLE, Int.reduceEq, Int.reduceToNat, Int.reduceNeg, Nat.reduceLT, Nat.reduceDiv, Nat.reduceMod, Nat.reduceMul, Nat.reduceSub, Nat.reduceLeDiff, Nat.reduceBEq, Nat.reduceLeDiff, Nat.reducePow, Int.reducePow, F19.t30_eq]
    first | done | rfl | exact ⟨rfl, rfl⟩
  by_cases h3 : n = 117
  · subst h3
    simp -dsimp -implicitDefEqProofs only [go_sem, ↓reduceIte, Nat.reduceEqDiff, reduceCtorEq, Nat.reduceAdd, Int.reduceMul, Int.reduceAdd, Int.reduceSub, Int.reduceLT, Int.reduceLE, Int.reduceEq, Int.reduceToNat, Int.reduceNeg, Nat.reduceLT, Nat.reduceDiv, Nat.reduceMod, Nat.reduceMul, Nat.reduceSub, Nat.reduceLeDiff, Nat.reduceBEq, Nat.reduceLeDiff, Nat.reducePow, Int.reducePow, F19.t30_eq]
    first | done | rfl | exact ⟨rfl, rfl⟩
  by_cases h4 : n = 118
  · subst h4
    simp -dsimp -implicitDefEqProofs only [go_sem, ↓reduceIte, Nat.reduceEqDiff, reduceCtorEq, Nat.reduceAdd, Int.reduceMul, Int.reduceAdd, Int.reduceSub, Int.reduceLT, Int.reduceLE, Int.reduceEq, Int.reduceToNat, Int.reduceNeg, Nat.reduceLT, Nat.reduceDiv, Nat.reduceMod, Nat.reduceMul, Nat.reduceSub, Nat.reduceLeDiff, Nat.reduceBEq, Nat.reduceLeDiff, Nat.reducePow, Int.reducePow, F19.t30_eq]
    first | done | rfl | exact ⟨rfl, rfl⟩
  by_cases h5 : n = 119
  · subst h5
    simp -dsimp -implicitDefEqProofs only [go_sem, ↓reduceIte, Nat.reduceEqDiff, reduceCtorEq, Nat.reduceAdd, Int.reduceMul, Int.reduceAdd, Int.reduceSub, Int.reduceLT, Int.reduceLE, Int.reduceEq, Int.reduceToNat, Int.reduceNeg, Nat.reduceLT, Nat.reduceDiv, Nat.reduceMod, Nat.reduceMul, Nat.reduceSub, Nat.reduceLeDiff, Nat.reduceBEq, Nat.reduceLeDiff, Nat.reducePow, Int.reducePow, F19.t30_eq]
    first | done | rfl | exact ⟨rfl, rfl⟩
  by_cases h6 : n = 120
  · subst h6
    simp -dsimp -implicitDefEqProofs only [go_sem, ↓reduceIte, Nat.reduceEqDiff, reduceCtorEq, Nat.reduceAdd, Int.reduceMul, Int.reduceAdd, Int.reduceSub, Int.reduceLT, Int.reduceLE, Int.reduceEq, Int.reduceToNat, Int.reduceNeg, Nat.reduceLT, Nat.reduceDiv, Nat.reduceMod, Nat.reduceMul, Nat.reduceSub, Nat.reduceLeDiff, Nat.reduceBEq, Nat.reduceLeDiff, Nat.reducePow, Int.reducePow, F19.t30_eq]
    first | done | rfl | exact ⟨rfl, rfl⟩
  by_cases h7 : n = 121
  · subst h7
    simp -dsimp -implicitDefEqProofs only [go_sem, ↓reduceIte, Nat.reduceEqDiff, reduceCtorEq, Nat.reduceAdd, Int.reduceMul, Int.reduceAdd, Int.reduceSub, Int.reduceLT, Int.reduceLE, Int.reduceEq, Int.reduceToNat, Int.reduceNeg, Nat.reduceLT, Nat.reduceDiv, Nat.reduceMod, Nat.reduceMul, Nat.reduceSub, Nat.reduceLeDiff, Nat.reduceBEq, Nat.reduceLeDiff, Nat.reducePow, Int.reducePow, F19.t30_eq]
    first | done | rfl | exact ⟨rfl, rfl⟩
  by_cases h8 : n = 122
  · subst h8
    simp -dsimp -implicitDefEqProofs only [go_sem, ↓reduceIte, Nat.reduceEqDiff, reduceCtorEq, Nat.reduceAdd, Int.reduceMul, Int.reduceAdd, Int.reduceSub, Int.reduceLT, Int.reduceLE, Int.reduceEq, Int.reduceToNat, Int.reduceNeg, Nat.reduceLT, Nat.reduceDiv, Nat.reduceMod, Nat.reduceMul, Nat.reduceSub, Nat.reduceLeDiff, Nat.reduceBEq, Nat.reduceLeDiff, Nat.reducePow, Int.reducePow, F19.t30_eq]
    first | done | rfl | exact ⟨rfl, rfl⟩
  by_cases h9 : n = 123
  · subst h9
    simp -dsimp -implicitDefEqProofs only [go_sem, ↓reduceIte, Nat.reduceEqDiff, reduceCtorEq, Nat.reduceAdd, Int.reduceMul, Int.reduceAdd, Int.reduceSub, Int.reduceLT, Int.reduceLE, Int.reduceEq, Int.reduceToNat, Int.reduceNeg, Nat.reduceLT, Nat.reduceDiv, Nat.reduceMod, Nat.reduceMul, Nat.reduceSub, Nat.reduceLeDiff, Nat.reduceBEq, Nat.reduceLeDiff, Nat.reducePow, Int.reducePow, F19.t30_eq]
    first | done | rfl | exact ⟨rfl, rfl⟩
  by_cases h10 : n = 140
  · subst h10
    simp -dsimp -implicitDefEqProofs only [go_sem, ↓reduceIte, Nat.reduceEqDiff, reduceCtorEq, Nat.reduceAdd, Int.reduceMul, Int.reduceAdd, Int.reduceSub, Int.reduceLT, Int.reduceLE, Int.reduceEq, Int.reduceToNat, Int.reduceNeg, Nat.reduceLT, Nat.reduceDiv, Nat.reduceMod, Nat.reduceMul, Nat.reduceSub, Nat.reduceLeDiff, Nat.reduceBEq, Nat.reduceLeDiff, Nat.reducePow, Int.reducePow, F19.t30_eq]
    first | done | rfl | exact ⟨rfl, rfl⟩
  by_cases h11 : n = 141
  · subst h11
    simp -dsimp -implicitDefEqProofs only [go_sem, ↓reduceIte, Nat.reduceEqDiff, reduceCtorEq, Nat.reduceAdd, Int.reduceMul, Int.reduceAdd, Int.reduceSub, Int.reduceLT, Int.reduceLE, Int.reduceEq, Int.reduceToNat, Int.reduceNeg, Nat.reduceLT, Nat.reduceDiv, Nat.reduceMod, Nat.reduceMul, Nat.reduceSub, Nat.reduceLeDiff, Nat.reduceBEq, Nat.reduceLeDiff, Nat.reducePow, Int.reducePow, F19.t30_eq]
    first | done | rfl | exact ⟨rfl, rfl⟩
  by_cases h12 : n = 180
  · subst h12
    simp -dsimp -implicitDefEqProofs only [go_sem, ↓reduceIte, Nat.reduceEqDiff, reduceCtorEq, Nat.reduceAdd, Int.reduceMul, Int.reduceAdd, Int.reduceSub, Int.reduceLT, Int.reduceLE, Int.reduceEq, Int.reduceToNat, Int.reduceNeg, Nat.reduceLT, Nat.reduceDiv, Nat.reduceMod, Nat.reduceMul, Nat.reduceSub, Nat.reduceLeDiff, Nat.reduceBEq, Nat.reduceLeDiff, Nat.reducePow, Int.reducePow, F19.t30_eq]
    first | done | rfl | exact ⟨rfl, rfl⟩
  by_cases h13 : n = 181
  · subst h13
    simp -dsimp -implicitDefEqProofs only [go_sem, ↓reduceIte, Nat.reduceEqDiff, reduceCtorEq, Nat.reduceAdd, Int.reduceMul, Int.reduceAdd, Int.reduceSub, Int.reduceLT, Int.reduceLE, Int.reduceEq, Int.reduceToNat, Int.reduceNeg, Nat.reduceLT, Nat.reduceDiv, Nat.reduceMod, Nat.reduceMul, Nat.reduceSub, Nat.reduceLeDiff, Nat.reduceBEq, Nat.reduceLeDiff, Nat.reducePow, Int.reducePow, F19.t30_eq]
    first | done | rfl | exact ⟨rfl, rfl⟩
  simp -dsimp -implicitDefEqProofs only [go_sem, ↓reduceIte, Nat.reduceEqDiff, reduceCtorEq, Nat.reduceAdd, Int.reduceMul, Int.reduceAdd, Int.reduceSub, Int.reduceLT, Int.reduceLE, Int.reduceEq, Int.reduceToNat, Int.reduceNeg, Nat.reduceLT, Nat.reduceDiv, Nat.reduceMod, Nat.reduceMul, Nat.reduceSub, Nat.reduceLeDiff, Nat.reduceBEq, Nat.reduceLeDiff, Nat.reducePow, Int.reducePow, F19.t30_eq, h0, h1, h2, h3, h4, h5, h6, h7, h8, h9, h10, h11, h12, h13]
  simp only [wLast, h0, h1, h2, h3, h4, h5, h6, h7, h8, h9, h10, h11, h12, h13, if_false]

def wLate (n : Int) : ByteArray :=
  if n = 70 then ⟨#[98, 97, 100, 32, 97, 117, 116, 104, 101, 110, 116, 105, 99, 97, 116, 105, 111, 110, 32, 116, 101, 120, 116]⟩ else
  if n = 71 then ⟨#[97, 117, 116, 104, 101, 110, 116, 105, 99, 97, 116, 105, 111, 110, 32, 105, 115, 32, 111, 118, 101, 114]⟩ else
  if n = 72 then ⟨#[97, 117, 116, 104, 101, 110, 116, 105, 99, 97, 116, 105, 111, 110, 32, 102, 97, 105, 108, 101, 100]⟩ else
  if n = 80 then ⟨#[110, 111, 32, 115, 117, 99, 104, 32, 110, 111, 100, 101]⟩ else
  if n = 81 then ⟨#[119, 114, 111, 110, 103, 32, 107, 105, 110, 100, 32, 111, 102, 32, 110, 111, 100, 101]⟩ else
  if n = 82 then ⟨#[110, 97, 109, 101, 32, 105, 115, 32, 116, 97, 107, 101, 110]⟩ else
  if n = 83 then ⟨#[102, 105, 108, 101, 32, 115, 121, 115, 116, 101, 109, 32, 105, 115, 32, 102, 117, 108, 108]⟩ else
  if n = 84 then ⟨#[98, 121, 116, 101, 115, 32, 98, 101, 121, 111, 110, 100, 32, 97, 32, 98, 108, 111, 99, 107]⟩ else
  if n = 85 then ⟨#[110, 111, 100, 101, 32, 104, 97, 115, 32, 99, 104, 105, 108, 100, 114, 101, 110]⟩ else
  if n = 86 then ⟨#[98, 121, 116, 101, 115, 32, 98, 101, 121, 111, 110, 100, 32, 116, 104, 101, 32, 103, 114, 101, 97, 116, 101, 115, 116, 32, 102, 105, 108, 101]⟩ else
  if n = 87 then ⟨#[102, 101, 119, 101, 114, 32, 116, 104, 97, 110, 32, 110, 111, 110, 101]⟩ else
  if n = 90 then ⟨#[112, 101, 114, 109, 105, 115, 115, 105, 111, 110, 32, 100, 101, 110, 105, 101, 100]⟩ else
  if n = 91 then ⟨#[98, 97, 100, 32, 111, 112, 101, 110, 32, 109, 111, 100, 101]⟩ else
  if n = 92 then ⟨#[102, 105, 108, 101, 32, 105, 115, 32, 97, 32, 100, 105, 114, 101, 99, 116, 111, 114, 121]⟩ else
  if n = 93 then ⟨#[110, 111, 116, 32, 97, 32, 100, 105, 114, 101, 99, 116, 111, 114, 121]⟩ else
  if n = 94 then ⟨#[102, 105, 108, 101, 32, 105, 115, 32, 105, 110, 32, 101, 120, 99, 108, 117, 115, 105, 118, 101, 32, 117, 115, 101]⟩ else
  if n = 95 then ⟨#[102, 105, 108, 101, 32, 101, 120, 105, 115, 116, 115]⟩ else
  if n = 96 then ⟨#[100, 105, 114, 101, 99, 116, 111, 114, 121, 32, 105, 115, 32, 110, 111, 116, 32, 101, 109, 112, 116, 121]⟩ else
  if n = 97 then ⟨#[98, 97, 100, 32, 99, 104, 97, 110, 103, 101, 32, 111, 102, 32, 97, 32, 114, 101, 99, 111, 114, 100]⟩ else
  if n = 98 then ⟨#[102, 105, 108, 101, 32, 105, 115, 32, 116, 111, 111, 32, 98, 105, 103]⟩ else
  if n = 99 then ⟨#[117, 110, 107, 110, 111, 119, 110, 32, 103, 114, 111, 117, 112]⟩ else
  if n = 100 then ⟨#[117, 110, 107, 110, 111, 119, 110, 32, 102, 105, 100]⟩ else
  if n = 101 then ⟨#[102, 105, 100, 32, 105, 115, 32, 105, 110, 32, 117, 115, 101]⟩ else
  if n = 102 then ⟨#[116, 111, 111, 32, 109, 97, 110, 121, 32, 102, 105, 100, 115]⟩ else
  if n = 103 then ⟨#[98, 97, 100, 32, 102, 105, 100]⟩ else
  if n = 110 then ⟨#[98, 97, 100, 32, 99, 111, 110, 102, 105, 103, 117, 114, 97, 116, 105, 111, 110]⟩ else
  if n = 111 then ⟨#[102, 105, 108, 101, 32, 104, 97, 115, 32, 98, 101, 101, 110, 32, 114, 101, 109, 111, 118, 101, 100]⟩ else
  if n = 112 then ⟨#[102, 105, 100, 32, 105, 115, 32, 111, 112, 101, 110]⟩ else
  if n = 113 then ⟨#[102, 105, 108, 101, 32, 100, 111, 101, 115, 32, 110, 111, 116, 32, 101, 120, 105, 115, 116]⟩ else
  wLast n


theorem wLate_any (w : World) (n : Int) : Calls Try.prog 15 #[.int .i64 n] w fun e w' => w' = w ∧ e = .returned (.string (wLate n)) := by
  refine F15.calls (by simp) ?_
  unfold F15.code
  by_cases h0 : n = 70
  · subst h0
    simp -dsimp -implicitDefEqProofs only [go_sem, ↓reduceIte, Nat.reduceEqDiff, reduceCtorEq, Nat.reduceAdd, Int.reduceMul, Int.reduceAdd, Int.reduceSub, Int.reduceLT, Int.reduceLE, Int.reduceEq, Int.reduceToNat, Int.reduceNeg, Nat.reduceLT, Nat.reduceDiv, Nat.reduceMod, Nat.reduceMul, Nat.reduceSub, Nat.reduceLeDiff, Nat.reduceBEq, Nat.reduceLeDiff, Nat.reducePow, Int.reducePow, F15.t60_eq]
    first | done | rfl | exact ⟨rfl, rfl⟩
  by_cases h1 : n = 71
  · subst h1
    simp -dsimp -implicitDefEqProofs only [go_sem, ↓reduceIte, Nat.reduceEqDiff, reduceCtorEq, Nat.reduceAdd, Int.reduceMul, Int.reduceAdd, Int.reduceSub, Int.reduceLT, Int.reduceLE, Int.reduceEq, Int.reduceToNat, Int.reduceNeg, Nat.reduceLT, Nat.reduceDiv, Nat.reduceMod, Nat.reduceMul, Nat.reduceSub, Nat.reduceLeDiff, Nat.reduceBEq, Nat.reduceLeDiff, Nat.reducePow, Int.reducePow, F15.t60_eq]
    first | done | rfl | exact ⟨rfl, rfl⟩
  by_cases h2 : n = 72
  · subst h2
    simp -dsimp -implicitDefEqProofs only [go_sem, ↓reduceIte, Nat.reduceEqDiff, reduceCtorEq, Nat.reduceAdd, Int.reduceMul, Int.reduceAdd, Int.reduceSub, Int.reduceLT, Int.reduceLE, Int.reduceEq, Int.reduceToNat, Int.reduceNeg, Nat.reduceLT, Nat.reduceDiv, Nat.reduceMod, Nat.reduceMul, Nat.reduceSub, Nat.reduceLeDiff, Nat.reduceBEq, Nat.reduceLeDiff, Nat.reducePow, Int.reducePow, F15.t60_eq]
    first | done | rfl | exact ⟨rfl, rfl⟩
  by_cases h3 : n = 80
  · subst h3
    simp -dsimp -implicitDefEqProofs only [go_sem, ↓reduceIte, Nat.reduceEqDiff, reduceCtorEq, Nat.reduceAdd, Int.reduceMul, Int.reduceAdd, Int.reduceSub, Int.reduceLT, Int.reduceLE, Int.reduceEq, Int.reduceToNat, Int.reduceNeg, Nat.reduceLT, Nat.reduceDiv, Nat.reduceMod, Nat.reduceMul, Nat.reduceSub, Nat.reduceLeDiff, Nat.reduceBEq, Nat.reduceLeDiff, Nat.reducePow, Int.reducePow, F15.t60_eq]
    first | done | rfl | exact ⟨rfl, rfl⟩
  by_cases h4 : n = 81
  · subst h4
    simp -dsimp -implicitDefEqProofs only [go_sem, ↓reduceIte, Nat.reduceEqDiff, reduceCtorEq, Nat.reduceAdd, Int.reduceMul, Int.reduceAdd, Int.reduceSub, Int.reduceLT, Int.reduceLE, Int.reduceEq, Int.reduceToNat, Int.reduceNeg, Nat.reduceLT, Nat.reduceDiv, Nat.reduceMod, Nat.reduceMul, Nat.reduceSub, Nat.reduceLeDiff, Nat.reduceBEq, Nat.reduceLeDiff, Nat.reducePow, Int.reducePow, F15.t60_eq]
    first | done | rfl | exact ⟨rfl, rfl⟩
  by_cases h5 : n = 82
  · subst h5
    simp -dsimp -implicitDefEqProofs only [go_sem, ↓reduceIte, Nat.reduceEqDiff, reduceCtorEq, Nat.reduceAdd, Int.reduceMul, Int.reduceAdd, Int.reduceSub, Int.reduceLT, Int.reduceLE, Int.reduceEq, Int.reduceToNat, Int.reduceNeg, Nat.reduceLT, Nat.reduceDiv, Nat.reduceMod, Nat.reduceMul, Nat.reduceSub, Nat.reduceLeDiff, Nat.reduceBEq, Nat.reduceLeDiff, Nat.reducePow, Int.reducePow, F15.t60_eq]
    first | done | rfl | exact ⟨rfl, rfl⟩
  by_cases h6 : n = 83
  · subst h6
    simp -dsimp -implicitDefEqProofs only [go_sem, ↓reduceIte, Nat.reduceEqDiff, reduceCtorEq, Nat.reduceAdd, Int.reduceMul, Int.reduceAdd, Int.reduceSub, Int.reduceLT, Int.reduceLE, Int.reduceEq, Int.reduceToNat, Int.reduceNeg, Nat.reduceLT, Nat.reduceDiv, Nat.reduceMod, Nat.reduceMul, Nat.reduceSub, Nat.reduceLeDiff, Nat.reduceBEq, Nat.reduceLeDiff, Nat.reducePow, Int.reducePow, F15.t60_eq]
    first | done | rfl | exact ⟨rfl, rfl⟩
  by_cases h7 : n = 84
  · subst h7
    simp -dsimp -implicitDefEqProofs only [go_sem, ↓reduceIte, Nat.reduceEqDiff, reduceCtorEq, Nat.reduceAdd, Int.reduceMul, Int.reduceAdd, Int.reduceSub, Int.reduceLT, Int.reduceLE, Int.reduceEq, Int.reduceToNat, Int.reduceNeg, Nat.reduceLT, Nat.reduceDiv, Nat.reduceMod, Nat.reduceMul, Nat.reduceSub, Nat.reduceLeDiff, Nat.reduceBEq, Nat.reduceLeDiff, Nat.reducePow, Int.reducePow, F15.t60_eq]
    first | done | rfl | exact ⟨rfl, rfl⟩
  by_cases h8 : n = 85
  · subst h8
    simp -dsimp -implicitDefEqProofs only [go_sem, ↓reduceIte, Nat.reduceEqDiff, reduceCtorEq, Nat.reduceAdd, Int.reduceMul, Int.reduceAdd, Int.reduceSub, Int.reduceLT, Int.reduceLE, Int.reduceEq, Int.reduceToNat, Int.reduceNeg, Nat.reduceLT, Nat.reduceDiv, Nat.reduceMod, Nat.reduceMul, Nat.reduceSub, Nat.reduceLeDiff, Nat.reduceBEq, Nat.reduceLeDiff, Nat.reducePow, Int.reducePow, F15.t60_eq]
    first | done | rfl | exact ⟨rfl, rfl⟩
  by_cases h9 : n = 86
  · subst h9
    simp -dsimp -implicitDefEqProofs only [go_sem, ↓reduceIte, Nat.reduceEqDiff, reduceCtorEq, Nat.reduceAdd, Int.reduceMul, Int.reduceAdd, Int.reduceSub, Int.reduceLT, Int.reduceLE, Int.reduceEq, Int.reduceToNat, Int.reduceNeg, Nat.reduceLT, Nat.reduceDiv, Nat.reduceMod, Nat.reduceMul, Nat.reduceSub, Nat.reduceLeDiff, Nat.reduceBEq, Nat.reduceLeDiff, Nat.reducePow, Int.reducePow, F15.t60_eq]
    first | done | rfl | exact ⟨rfl, rfl⟩
  by_cases h10 : n = 87
  · subst h10
    simp -dsimp -implicitDefEqProofs only [go_sem, ↓reduceIte, Nat.reduceEqDiff, reduceCtorEq, Nat.reduceAdd, Int.reduceMul, Int.reduceAdd, Int.reduceSub, Int.reduceLT, Int.reduceLE, Int.reduceEq, Int.reduceToNat, Int.reduceNeg, Nat.reduceLT, Nat.reduceDiv, Nat.reduceMod, Nat.reduceMul, Nat.reduceSub, Nat.reduceLeDiff, Nat.reduceBEq, Nat.reduceLeDiff, Nat.reducePow, Int.reducePow, F15.t60_eq]
    first | done | rfl | exact ⟨rfl, rfl⟩
  by_cases h11 : n = 90
  · subst h11
    simp -dsimp -implicitDefEqProofs only [go_sem, ↓reduceIte, Nat.reduceEqDiff, reduceCtorEq, Nat.reduceAdd, Int.reduceMul, Int.reduceAdd, Int.reduceSub, Int.reduceLT, Int.reduceLE, Int.reduceEq, Int.reduceToNat, Int.reduceNeg, Nat.reduceLT, Nat.reduceDiv, Nat.reduceMod, Nat.reduceMul, Nat.reduceSub, Nat.reduceLeDiff, Nat.reduceBEq, Nat.reduceLeDiff, Nat.reducePow, Int.reducePow, F15.t60_eq]
    first | done | rfl | exact ⟨rfl, rfl⟩
  by_cases h12 : n = 91
  · subst h12
    simp -dsimp -implicitDefEqProofs only [go_sem, ↓reduceIte, Nat.reduceEqDiff, reduceCtorEq, Nat.reduceAdd, Int.reduceMul, Int.reduceAdd, Int.reduceSub, Int.reduceLT, Int.reduceLE, Int.reduceEq, Int.reduceToNat, Int.reduceNeg, Nat.reduceLT, Nat.reduceDiv, Nat.reduceMod, Nat.reduceMul, Nat.reduceSub, Nat.reduceLeDiff, Nat.reduceBEq, Nat.reduceLeDiff, Nat.reducePow, Int.reducePow, F15.t60_eq]
    first | done | rfl | exact ⟨rfl, rfl⟩
  by_cases h13 : n = 92
  · subst h13
    simp -dsimp -implicitDefEqProofs only [go_sem, ↓reduceIte, Nat.reduceEqDiff, reduceCtorEq, Nat.reduceAdd, Int.reduceMul, Int.reduceAdd, Int.reduceSub, Int.reduceLT, Int.reduceLE, Int.reduceEq, Int.reduceToNat, Int.reduceNeg, Nat.reduceLT, Nat.reduceDiv, Nat.reduceMod, Nat.reduceMul, Nat.reduceSub, Nat.reduceLeDiff, Nat.reduceBEq, Nat.reduceLeDiff, Nat.reducePow, Int.reducePow, F15.t60_eq]
    first | done | rfl | exact ⟨rfl, rfl⟩
  by_cases h14 : n = 93
  · subst h14
    simp -dsimp -implicitDefEqProofs only [go_sem, ↓reduceIte, Nat.reduceEqDiff, reduceCtorEq, Nat.reduceAdd, Int.reduceMul, Int.reduceAdd, Int.reduceSub, Int.reduceLT, Int.reduceLE, Int.reduceEq, Int.reduceToNat, Int.reduceNeg, Nat.reduceLT, Nat.reduceDiv, Nat.reduceMod, Nat.reduceMul, Nat.reduceSub, Nat.reduceLeDiff, Nat.reduceBEq, Nat.reduceLeDiff, Nat.reducePow, Int.reducePow, F15.t60_eq]
    first | done | rfl | exact ⟨rfl, rfl⟩
  by_cases h15 : n = 94
  · subst h15
    simp -dsimp -implicitDefEqProofs only [go_sem, ↓reduceIte, Nat.reduceEqDiff, reduceCtorEq, Nat.reduceAdd, Int.reduceMul, Int.reduceAdd, Int.reduceSub, Int.reduceLT, Int.reduceLE, Int.reduceEq, Int.reduceToNat, Int.reduceNeg, Nat.reduceLT, Nat.reduceDiv, Nat.reduceMod, Nat.reduceMul, Nat.reduceSub, Nat.reduceLeDiff, Nat.reduceBEq, Nat.reduceLeDiff, Nat.reducePow, Int.reducePow, F15.t60_eq]
    first | done | rfl | exact ⟨rfl, rfl⟩
  by_cases h16 : n = 95
  · subst h16
    simp -dsimp -implicitDefEqProofs only [go_sem, ↓reduceIte, Nat.reduceEqDiff, reduceCtorEq, Nat.reduceAdd, Int.reduceMul, Int.reduceAdd, Int.reduceSub, Int.reduceLT, Int.reduceLE, Int.reduceEq, Int.reduceToNat, Int.reduceNeg, Nat.reduceLT, Nat.reduceDiv, Nat.reduceMod, Nat.reduceMul, Nat.reduceSub, Nat.reduceLeDiff, Nat.reduceBEq, Nat.reduceLeDiff, Nat.reducePow, Int.reducePow, F15.t60_eq]
    first | done | rfl | exact ⟨rfl, rfl⟩
  by_cases h17 : n = 96
  · subst h17
    simp -dsimp -implicitDefEqProofs only [go_sem, ↓reduceIte, Nat.reduceEqDiff, reduceCtorEq, Nat.reduceAdd, Int.reduceMul, Int.reduceAdd, Int.reduceSub, Int.reduceLT, Int.reduceLE, Int.reduceEq, Int.reduceToNat, Int.reduceNeg, Nat.reduceLT, Nat.reduceDiv, Nat.reduceMod, Nat.reduceMul, Nat.reduceSub, Nat.reduceLeDiff, Nat.reduceBEq, Nat.reduceLeDiff, Nat.reducePow, Int.reducePow, F15.t60_eq]
    first | done | rfl | exact ⟨rfl, rfl⟩
  by_cases h18 : n = 97
  · subst h18
    simp -dsimp -implicitDefEqProofs only [go_sem, ↓reduceIte, Nat.reduceEqDiff, reduceCtorEq, Nat.reduceAdd, Int.reduceMul, Int.reduceAdd, Int.reduceSub, Int.reduceLT, Int.reduceLE, Int.reduceEq, Int.reduceToNat, Int.reduceNeg, Nat.reduceLT, Nat.reduceDiv, Nat.reduceMod, Nat.reduceMul, Nat.reduceSub, Nat.reduceLeDiff, Nat.reduceBEq, Nat.reduceLeDiff, Nat.reducePow, Int.reducePow, F15.t60_eq]
    first | done | rfl | exact ⟨rfl, rfl⟩
  by_cases h19 : n = 98
  · subst h19
    simp -dsimp -implicitDefEqProofs only [go_sem, ↓reduceIte, Nat.reduceEqDiff, reduceCtorEq, Nat.reduceAdd, Int.reduceMul, Int.reduceAdd, Int.reduceSub, Int.reduceLT, Int.reduceLE, Int.reduceEq, Int.reduceToNat, Int.reduceNeg, Nat.reduceLT, Nat.reduceDiv, Nat.reduceMod, Nat.reduceMul, Nat.reduceSub, Nat.reduceLeDiff, Nat.reduceBEq, Nat.reduceLeDiff, Nat.reducePow, Int.reducePow, F15.t60_eq]
    first | done | rfl | exact ⟨rfl, rfl⟩
  by_cases h20 : n = 99
  · subst h20
    simp -dsimp -implicitDefEqProofs only [go_sem, ↓reduceIte, Nat.reduceEqDiff, reduceCtorEq, Nat.reduceAdd, Int.reduceMul, Int.reduceAdd, Int.reduceSub, Int.reduceLT, Int.reduceLE, Int.reduceEq, Int.reduceToNat, Int.reduceNeg, Nat.reduceLT, Nat.reduceDiv, Nat.reduceMod, Nat.reduceMul, Nat.reduceSub, Nat.reduceLeDiff, Nat.reduceBEq, Nat.reduceLeDiff, Nat.reducePow, Int.reducePow, F15.t60_eq]
    first | done | rfl | exact ⟨rfl, rfl⟩
  by_cases h21 : n = 100
  · subst h21
    simp -dsimp -implicitDefEqProofs only [go_sem, ↓reduceIte, Nat.reduceEqDiff, reduceCtorEq, Nat.reduceAdd, Int.reduceMul, Int.reduceAdd, Int.reduceSub, Int.reduceLT, Int.reduceLE, Int.reduceEq, Int.reduceToNat, Int.reduceNeg, Nat.reduceLT, Nat.reduceDiv, Nat.reduceMod, Nat.reduceMul, Nat.reduceSub, Nat.reduceLeDiff, Nat.reduceBEq, Nat.reduceLeDiff, Nat.reducePow, Int.reducePow, F15.t60_eq]
    first | done | rfl | exact ⟨rfl, rfl⟩
  by_cases h22 : n = 101
  · subst h22
    simp -dsimp -implicitDefEqProofs only [go_sem, ↓reduceIte, Nat.reduceEqDiff, reduceCtorEq, Nat.reduceAdd, Int.reduceMul, Int.reduceAdd, Int.reduceSub, Int.reduceLT, Int.reduceLE, Int.reduceEq, Int.reduceToNat, Int.reduceNeg, Nat.reduceLT, Nat.reduceDiv, Nat.reduceMod, Nat.reduceMul, Nat.reduceSub, Nat.reduceLeDiff, Nat.reduceBEq, Nat.reduceLeDiff, Nat.reducePow, Int.reducePow, F15.t60_eq]
    first | done | rfl | exact ⟨rfl, rfl⟩
  by_cases h23 : n = 102
  · subst h23
    simp -dsimp -implicitDefEqProofs only [go_sem, ↓reduceIte, Nat.reduceEqDiff, reduceCtorEq, Nat.reduceAdd, Int.reduceMul, Int.reduceAdd, Int.reduceSub, Int.reduceLT, Int.reduceLE, Int.reduceEq, Int.reduceToNat, Int.reduceNeg, Nat.reduceLT, Nat.reduceDiv, Nat.reduceMod, Nat.reduceMul, Nat.reduceSub, Nat.reduceLeDiff, Nat.reduceBEq, Nat.reduceLeDiff, Nat.reducePow, Int.reducePow, F15.t60_eq]
    first | done | rfl | exact ⟨rfl, rfl⟩
  by_cases h24 : n = 103
  · subst h24
    simp -dsimp -implicitDefEqProofs only [go_sem, ↓reduceIte, Nat.reduceEqDiff, reduceCtorEq, Nat.reduceAdd, Int.reduceMul, Int.reduceAdd, Int.reduceSub, Int.reduceLT, Int.reduceLE, Int.reduceEq, Int.reduceToNat, Int.reduceNeg, Nat.reduceLT, Nat.reduceDiv, Nat.reduceMod, Nat.reduceMul, Nat.reduceSub, Nat.reduceLeDiff, Nat.reduceBEq, Nat.reduceLeDiff, Nat.reducePow, Int.reducePow, F15.t60_eq]
    first | done | rfl | exact ⟨rfl, rfl⟩
  by_cases h25 : n = 110
  · subst h25
    simp -dsimp -implicitDefEqProofs only [go_sem, ↓reduceIte, Nat.reduceEqDiff, reduceCtorEq, Nat.reduceAdd, Int.reduceMul, Int.reduceAdd, Int.reduceSub, Int.reduceLT, Int.reduceLE, Int.reduceEq, Int.reduceToNat, Int.reduceNeg, Nat.reduceLT, Nat.reduceDiv, Nat.reduceMod, Nat.reduceMul, Nat.reduceSub, Nat.reduceLeDiff, Nat.reduceBEq, Nat.reduceLeDiff, Nat.reducePow, Int.reducePow, F15.t60_eq]
    first | done | rfl | exact ⟨rfl, rfl⟩
  by_cases h26 : n = 111
  · subst h26
    simp -dsimp -implicitDefEqProofs only [go_sem, ↓reduceIte, Nat.reduceEqDiff, reduceCtorEq, Nat.reduceAdd, Int.reduceMul, Int.reduceAdd, Int.reduceSub, Int.reduceLT, Int.reduceLE, Int.reduceEq, Int.reduceToNat, Int.reduceNeg, Nat.reduceLT, Nat.reduceDiv, Nat.reduceMod, Nat.reduceMul, Nat.reduceSub, Nat.reduceLeDiff, Nat.reduceBEq, Nat.reduceLeDiff, Nat.reducePow, Int.reducePow, F15.t60_eq]
    first | done | rfl | exact ⟨rfl, rfl⟩
  by_cases h27 : n = 112
  · subst h27
    simp -dsimp -implicitDefEqProofs only [go_sem, ↓reduceIte, Nat.reduceEqDiff, reduceCtorEq, Nat.reduceAdd, Int.reduceMul, Int.reduceAdd, Int.reduceSub, Int.reduceLT, Int.reduceLE, Int.reduceEq, Int.reduceToNat, Int.reduceNeg, Nat.reduceLT, Nat.reduceDiv, Nat.reduceMod, Nat.reduceMul, Nat.reduceSub, Nat.reduceLeDiff, Nat.reduceBEq, Nat.reduceLeDiff, Nat.reducePow, Int.reducePow, F15.t60_eq]
    first | done | rfl | exact ⟨rfl, rfl⟩
  by_cases h28 : n = 113
  · subst h28
    simp -dsimp -implicitDefEqProofs only [go_sem, ↓reduceIte, Nat.reduceEqDiff, reduceCtorEq, Nat.reduceAdd, Int.reduceMul, Int.reduceAdd, Int.reduceSub, Int.reduceLT, Int.reduceLE, Int.reduceEq, Int.reduceToNat, Int.reduceNeg, Nat.reduceLT, Nat.reduceDiv, Nat.reduceMod, Nat.reduceMul, Nat.reduceSub, Nat.reduceLeDiff, Nat.reduceBEq, Nat.reduceLeDiff, Nat.reducePow, Int.reducePow, F15.t60_eq]
    first | done | rfl | exact ⟨rfl, rfl⟩
  simp -dsimp -implicitDefEqProofs only [go_sem, ↓reduceIte, Nat.reduceEqDiff, reduceCtorEq, Nat.reduceAdd, Int.reduceMul, Int.reduceAdd, Int.reduceSub, Int.reduceLT, Int.reduceLE, Int.reduceEq, Int.reduceToNat, Int.reduceNeg, Nat.reduceLT, Nat.reduceDiv, Nat.reduceMod, Nat.reduceMul, Nat.reduceSub, Nat.reduceLeDiff, Nat.reduceBEq, Nat.reduceLeDiff, Nat.reducePow, Int.reducePow, F15.t60_eq, h0, h1, h2, h3, h4, h5, h6, h7, h8, h9, h10, h11, h12, h13, h14, h15, h16, h17, h18, h19, h20, h21, h22, h23, h24, h25, h26, h27, h28]
  refine (wLast_any w n).mono ?_
  rintro e w1 ⟨rfl, rfl⟩
  simp -dsimp -implicitDefEqProofs only [go_sem, ↓reduceIte, Nat.reduceEqDiff, reduceCtorEq, Nat.reduceAdd, Int.reduceMul, Int.reduceAdd, Int.reduceSub, Int.reduceLT, Int.reduceLE, Int.reduceEq, Int.reduceToNat, Int.reduceNeg, Nat.reduceLT, Nat.reduceDiv, Nat.reduceMod, Nat.reduceMul, Nat.reduceSub, Nat.reduceLeDiff, Nat.reduceBEq, Nat.reduceLeDiff, Nat.reducePow, Int.reducePow, F15.t60_eq, h0, h1, h2, h3, h4, h5, h6, h7, h8, h9, h10, h11, h12, h13, h14, h15, h16, h17, h18, h19, h20, h21, h22, h23, h24, h25, h26, h27, h28]
  simp only [wLate, h0, h1, h2, h3, h4, h5, h6, h7, h8, h9, h10, h11, h12, h13, h14, h15, h16, h17, h18, h19, h20, h21, h22, h23, h24, h25, h26, h27, h28, if_false]

def wError (n : Int) : ByteArray :=
  if n = 0 then ⟨#[110, 111, 32, 101, 114, 114, 111, 114]⟩ else
  if n = 1 then ⟨#[98, 97, 100, 32, 97, 114, 103, 117, 109, 101, 110, 116]⟩ else
  if n = 10 then ⟨#[116, 111, 111, 32, 102, 101, 119, 32, 98, 121, 116, 101, 115]⟩ else
  if n = 11 then ⟨#[110, 111, 32, 114, 111, 111, 109, 32, 105, 115, 32, 108, 101, 102, 116]⟩ else
  if n = 12 then ⟨#[110, 111, 32, 118, 97, 108, 105, 100, 32, 116, 101, 120, 116]⟩ else
  if n = 13 then ⟨#[116, 111, 111, 32, 108, 111, 110, 103, 32, 116, 111, 32, 98, 101, 32, 99, 111, 117, 110, 116, 101, 100]⟩ else
  if n = 14 then ⟨#[98, 121, 116, 101, 115, 32, 97, 114, 101, 32, 108, 101, 102, 116]⟩ else
  if n = 20 then ⟨#[98, 97, 100, 32, 114, 101, 99, 111, 114, 100]⟩ else
  if n = 21 then ⟨#[98, 97, 100, 32, 109, 111, 100, 101]⟩ else
  if n = 30 then ⟨#[109, 101, 115, 115, 97, 103, 101, 32, 99, 97, 110, 39, 116, 32, 98, 101, 32, 119, 114, 105, 116, 116, 101, 110]⟩ else
  if n = 31 then ⟨#[98, 97, 100, 32, 109, 101, 115, 115, 97, 103, 101, 32, 115, 105, 122, 101]⟩ else
  if n = 32 then ⟨#[117, 110, 107, 110, 111, 119, 110, 32, 109, 101, 115, 115, 97, 103, 101]⟩ else
  if n = 33 then ⟨#[98, 97, 100, 32, 109, 101, 115, 115, 97, 103, 101]⟩ else
  if n = 34 then ⟨#[98, 97, 100, 32, 109, 101, 115, 115, 97, 103, 101, 32, 116, 101, 120, 116]⟩ else
  if n = 40 then ⟨#[98, 97, 100, 32, 102, 114, 97, 109, 101]⟩ else
  if n = 50 then ⟨#[98, 97, 100, 32, 102, 105, 108, 101, 32, 110, 97, 109, 101]⟩ else
  if n = 51 then ⟨#[98, 97, 100, 32, 112, 97, 116, 104, 32, 110, 97, 109, 101]⟩ else
  if n = 52 then ⟨#[98, 97, 100, 32, 112, 97, 116, 116, 101, 114, 110]⟩ else
  if n = 53 then ⟨#[98, 97, 100, 32, 113, 117, 111, 116, 101, 115]⟩ else
  if n = 60 then ⟨#[98, 97, 100, 32, 117, 115, 101, 114, 115, 32, 108, 105, 110, 101]⟩ else
  if n = 61 then ⟨#[117, 115, 101, 114, 32, 115, 116, 97, 110, 100, 115, 32, 116, 119, 105, 99, 101]⟩ else
  if n = 62 then ⟨#[117, 115, 101, 114, 32, 119, 105, 116, 104, 111, 117, 116, 32, 97, 32, 108, 105, 110, 101]⟩ else
  wLate n


theorem wError_any (w : World) (n : Int) : Calls Try.prog 12 #[.int .i64 n] w fun e w' => w' = w ∧ e = .returned (.string (wError n)) := by
  refine F12.calls (by simp) ?_
  unfold F12.code
  by_cases h0 : n = 0
  · subst h0
    simp -dsimp -implicitDefEqProofs only [go_sem, ↓reduceIte, Nat.reduceEqDiff, reduceCtorEq, Nat.reduceAdd, Int.reduceMul, Int.reduceAdd, Int.reduceSub, Int.reduceLT, Int.reduceLE, Int.reduceEq, Int.reduceToNat, Int.reduceNeg, Nat.reduceLT, Nat.reduceDiv, Nat.reduceMod, Nat.reduceMul, Nat.reduceSub, Nat.reduceLeDiff, Nat.reduceBEq, Nat.reduceLeDiff, Nat.reducePow, Int.reducePow, F12.t46_eq]
    first | done | rfl | exact ⟨rfl, rfl⟩
  by_cases h1 : n = 1
  · subst h1
    simp -dsimp -implicitDefEqProofs only [go_sem, ↓reduceIte, Nat.reduceEqDiff, reduceCtorEq, Nat.reduceAdd, Int.reduceMul, Int.reduceAdd, Int.reduceSub, Int.reduceLT, Int.reduceLE, Int.reduceEq, Int.reduceToNat, Int.reduceNeg, Nat.reduceLT, Nat.reduceDiv, Nat.reduceMod, Nat.reduceMul, Nat.reduceSub, Nat.reduceLeDiff, Nat.reduceBEq, Nat.reduceLeDiff, Nat.reducePow, Int.reducePow, F12.t46_eq]
    first | done | rfl | exact ⟨rfl, rfl⟩
  by_cases h2 : n = 10
  · subst h2
    simp -dsimp -implicitDefEqProofs only [go_sem, ↓reduceIte, Nat.reduceEqDiff, reduceCtorEq, Nat.reduceAdd, Int.reduceMul, Int.reduceAdd, Int.reduceSub, Int.reduceLT, Int.reduceLE, Int.reduceEq, Int.reduceToNat, Int.reduceNeg, Nat.reduceLT, Nat.reduceDiv, Nat.reduceMod, Nat.reduceMul, Nat.reduceSub, Nat.reduceLeDiff, Nat.reduceBEq, Nat.reduceLeDiff, Nat.reducePow, Int.reducePow, F12.t46_eq]
    first | done | rfl | exact ⟨rfl, rfl⟩
  by_cases h3 : n = 11
  · subst h3
    simp -dsimp -implicitDefEqProofs only [go_sem, ↓reduceIte, Nat.reduceEqDiff, reduceCtorEq, Nat.reduceAdd, Int.reduceMul, Int.reduceAdd, Int.reduceSub, Int.reduceLT, Int.reduceLE, Int.reduceEq, Int.reduceToNat, Int.reduceNeg, Nat.reduceLT, Nat.reduceDiv, Nat.reduceMod, Nat.reduceMul, Nat.reduceSub, Nat.reduceLeDiff, Nat.reduceBEq, Nat.reduceLeDiff, Nat.reducePow, Int.reducePow, F12.t46_eq]
    first | done | rfl | exact ⟨rfl, rfl⟩
  by_cases h4 : n = 12
  · subst h4
    simp -dsimp -implicitDefEqProofs only [go_sem, ↓reduceIte, Nat.reduceEqDiff, reduceCtorEq, Nat.reduceAdd, Int.reduceMul, Int.reduceAdd, Int.reduceSub, Int.reduceLT, Int.reduceLE, Int.reduceEq, Int.reduceToNat, Int.reduceNeg, Nat.reduceLT, Nat.reduceDiv, Nat.reduceMod, Nat.reduceMul, Nat.reduceSub, Nat.reduceLeDiff, Nat.reduceBEq, Nat.reduceLeDiff, Nat.reducePow, Int.reducePow, F12.t46_eq]
    first | done | rfl | exact ⟨rfl, rfl⟩
  by_cases h5 : n = 13
  · subst h5
    simp -dsimp -implicitDefEqProofs only [go_sem, ↓reduceIte, Nat.reduceEqDiff, reduceCtorEq, Nat.reduceAdd, Int.reduceMul, Int.reduceAdd, Int.reduceSub, Int.reduceLT, Int.reduceLE, Int.reduceEq, Int.reduceToNat, Int.reduceNeg, Nat.reduceLT, Nat.reduceDiv, Nat.reduceMod, Nat.reduceMul, Nat.reduceSub, Nat.reduceLeDiff, Nat.reduceBEq, Nat.reduceLeDiff, Nat.reducePow, Int.reducePow, F12.t46_eq]
    first | done | rfl | exact ⟨rfl, rfl⟩
  by_cases h6 : n = 14
  · subst h6
    simp -dsimp -implicitDefEqProofs only [go_sem, ↓reduceIte, Nat.reduceEqDiff, reduceCtorEq, Nat.reduceAdd, Int.reduceMul, Int.reduceAdd, Int.reduceSub, Int.reduceLT, Int.reduceLE, Int.reduceEq, Int.reduceToNat, Int.reduceNeg, Nat.reduceLT, Nat.reduceDiv, Nat.reduceMod, Nat.reduceMul, Nat.reduceSub, Nat.reduceLeDiff, Nat.reduceBEq, Nat.reduceLeDiff, Nat.reducePow, Int.reducePow, F12.t46_eq]
    first | done | rfl | exact ⟨rfl, rfl⟩
  by_cases h7 : n = 20
  · subst h7
    simp -dsimp -implicitDefEqProofs only [go_sem, ↓reduceIte, Nat.reduceEqDiff, reduceCtorEq, Nat.reduceAdd, Int.reduceMul, Int.reduceAdd, Int.reduceSub, Int.reduceLT, Int.reduceLE, Int.reduceEq, Int.reduceToNat, Int.reduceNeg, Nat.reduceLT, Nat.reduceDiv, Nat.reduceMod, Nat.reduceMul, Nat.reduceSub, Nat.reduceLeDiff, Nat.reduceBEq, Nat.reduceLeDiff, Nat.reducePow, Int.reducePow, F12.t46_eq]
    first | done | rfl | exact ⟨rfl, rfl⟩
  by_cases h8 : n = 21
  · subst h8
    simp -dsimp -implicitDefEqProofs only [go_sem, ↓reduceIte, Nat.reduceEqDiff, reduceCtorEq, Nat.reduceAdd, Int.reduceMul, Int.reduceAdd, Int.reduceSub, Int.reduceLT, Int.reduceLE, Int.reduceEq, Int.reduceToNat, Int.reduceNeg, Nat.reduceLT, Nat.reduceDiv, Nat.reduceMod, Nat.reduceMul, Nat.reduceSub, Nat.reduceLeDiff, Nat.reduceBEq, Nat.reduceLeDiff, Nat.reducePow, Int.reducePow, F12.t46_eq]
    first | done | rfl | exact ⟨rfl, rfl⟩
  by_cases h9 : n = 30
  · subst h9
    simp -dsimp -implicitDefEqProofs only [go_sem, ↓reduceIte, Nat.reduceEqDiff, reduceCtorEq, Nat.reduceAdd, Int.reduceMul, Int.reduceAdd, Int.reduceSub, Int.reduceLT, Int.reduceLE, Int.reduceEq, Int.reduceToNat, Int.reduceNeg, Nat.reduceLT, Nat.reduceDiv, Nat.reduceMod, Nat.reduceMul, Nat.reduceSub, Nat.reduceLeDiff, Nat.reduceBEq, Nat.reduceLeDiff, Nat.reducePow, Int.reducePow, F12.t46_eq]
    first | done | rfl | exact ⟨rfl, rfl⟩
  by_cases h10 : n = 31
  · subst h10
    simp -dsimp -implicitDefEqProofs only [go_sem, ↓reduceIte, Nat.reduceEqDiff, reduceCtorEq, Nat.reduceAdd, Int.reduceMul, Int.reduceAdd, Int.reduceSub, Int.reduceLT, Int.reduceLE, Int.reduceEq, Int.reduceToNat, Int.reduceNeg, Nat.reduceLT, Nat.reduceDiv, Nat.reduceMod, Nat.reduceMul, Nat.reduceSub, Nat.reduceLeDiff, Nat.reduceBEq, Nat.reduceLeDiff, Nat.reducePow, Int.reducePow, F12.t46_eq]
    first | done | rfl | exact ⟨rfl, rfl⟩
  by_cases h11 : n = 32
  · subst h11
    simp -dsimp -implicitDefEqProofs only [go_sem, ↓reduceIte, Nat.reduceEqDiff, reduceCtorEq, Nat.reduceAdd, Int.reduceMul, Int.reduceAdd, Int.reduceSub, Int.reduceLT, Int.reduceLE, Int.reduceEq, Int.reduceToNat, Int.reduceNeg, Nat.reduceLT, Nat.reduceDiv, Nat.reduceMod, Nat.reduceMul, Nat.reduceSub, Nat.reduceLeDiff, Nat.reduceBEq, Nat.reduceLeDiff, Nat.reducePow, Int.reducePow, F12.t46_eq]
    first | done | rfl | exact ⟨rfl, rfl⟩
  by_cases h12 : n = 33
  · subst h12
    simp -dsimp -implicitDefEqProofs only [go_sem, ↓reduceIte, Nat.reduceEqDiff, reduceCtorEq, Nat.reduceAdd, Int.reduceMul, Int.reduceAdd, Int.reduceSub, Int.reduceLT, Int.reduceLE, Int.reduceEq, Int.reduceToNat, Int.reduceNeg, Nat.reduceLT, Nat.reduceDiv, Nat.reduceMod, Nat.reduceMul, Nat.reduceSub, Nat.reduceLeDiff, Nat.reduceBEq, Nat.reduceLeDiff, Nat.reducePow, Int.reducePow, F12.t46_eq]
    first | done | rfl | exact ⟨rfl, rfl⟩
  by_cases h13 : n = 34
  · subst h13
    simp -dsimp -implicitDefEqProofs only [go_sem, ↓reduceIte, Nat.reduceEqDiff, reduceCtorEq, Nat.reduceAdd, Int.reduceMul, Int.reduceAdd, Int.reduceSub, Int.reduceLT, Int.reduceLE, Int.reduceEq, Int.reduceToNat, Int.reduceNeg, Nat.reduceLT, Nat.reduceDiv, Nat.reduceMod, Nat.reduceMul, Nat.reduceSub, Nat.reduceLeDiff, Nat.reduceBEq, Nat.reduceLeDiff, Nat.reducePow, Int.reducePow, F12.t46_eq]
    first | done | rfl | exact ⟨rfl, rfl⟩
  by_cases h14 : n = 40
  · subst h14
    simp -dsimp -implicitDefEqProofs only [go_sem, ↓reduceIte, Nat.reduceEqDiff, reduceCtorEq, Nat.reduceAdd, Int.reduceMul, Int.reduceAdd, Int.reduceSub, Int.reduceLT, Int.reduceLE, Int.reduceEq, Int.reduceToNat, Int.reduceNeg, Nat.reduceLT, Nat.reduceDiv, Nat.reduceMod, Nat.reduceMul, Nat.reduceSub, Nat.reduceLeDiff, Nat.reduceBEq, Nat.reduceLeDiff, Nat.reducePow, Int.reducePow, F12.t46_eq]
    first | done | rfl | exact ⟨rfl, rfl⟩
  by_cases h15 : n = 50
  · subst h15
    simp -dsimp -implicitDefEqProofs only [go_sem, ↓reduceIte, Nat.reduceEqDiff, reduceCtorEq, Nat.reduceAdd, Int.reduceMul, Int.reduceAdd, Int.reduceSub, Int.reduceLT, Int.reduceLE, Int.reduceEq, Int.reduceToNat, Int.reduceNeg, Nat.reduceLT, Nat.reduceDiv, Nat.reduceMod, Nat.reduceMul, Nat.reduceSub, Nat.reduceLeDiff, Nat.reduceBEq, Nat.reduceLeDiff, Nat.reducePow, Int.reducePow, F12.t46_eq]
    first | done | rfl | exact ⟨rfl, rfl⟩
  by_cases h16 : n = 51
  · subst h16
    simp -dsimp -implicitDefEqProofs only [go_sem, ↓reduceIte, Nat.reduceEqDiff, reduceCtorEq, Nat.reduceAdd, Int.reduceMul, Int.reduceAdd, Int.reduceSub, Int.reduceLT, Int.reduceLE, Int.reduceEq, Int.reduceToNat, Int.reduceNeg, Nat.reduceLT, Nat.reduceDiv, Nat.reduceMod, Nat.reduceMul, Nat.reduceSub, Nat.reduceLeDiff, Nat.reduceBEq, Nat.reduceLeDiff, Nat.reducePow, Int.reducePow, F12.t46_eq]
    first | done | rfl | exact ⟨rfl, rfl⟩
  by_cases h17 : n = 52
  · subst h17
    simp -dsimp -implicitDefEqProofs only [go_sem, ↓reduceIte, Nat.reduceEqDiff, reduceCtorEq, Nat.reduceAdd, Int.reduceMul, Int.reduceAdd, Int.reduceSub, Int.reduceLT, Int.reduceLE, Int.reduceEq, Int.reduceToNat, Int.reduceNeg, Nat.reduceLT, Nat.reduceDiv, Nat.reduceMod, Nat.reduceMul, Nat.reduceSub, Nat.reduceLeDiff, Nat.reduceBEq, Nat.reduceLeDiff, Nat.reducePow, Int.reducePow, F12.t46_eq]
    first | done | rfl | exact ⟨rfl, rfl⟩
  by_cases h18 : n = 53
  · subst h18
    simp -dsimp -implicitDefEqProofs only [go_sem, ↓reduceIte, Nat.reduceEqDiff, reduceCtorEq, Nat.reduceAdd, Int.reduceMul, Int.reduceAdd, Int.reduceSub, Int.reduceLT, Int.reduceLE, Int.reduceEq, Int.reduceToNat, Int.reduceNeg, Nat.reduceLT, Nat.reduceDiv, Nat.reduceMod, Nat.reduceMul, Nat.reduceSub, Nat.reduceLeDiff, Nat.reduceBEq, Nat.reduceLeDiff, Nat.reducePow, Int.reducePow, F12.t46_eq]
    first | done | rfl | exact ⟨rfl, rfl⟩
  by_cases h19 : n = 60
  · subst h19
    simp -dsimp -implicitDefEqProofs only [go_sem, ↓reduceIte, Nat.reduceEqDiff, reduceCtorEq, Nat.reduceAdd, Int.reduceMul, Int.reduceAdd, Int.reduceSub, Int.reduceLT, Int.reduceLE, Int.reduceEq, Int.reduceToNat, Int.reduceNeg, Nat.reduceLT, Nat.reduceDiv, Nat.reduceMod, Nat.reduceMul, Nat.reduceSub, Nat.reduceLeDiff, Nat.reduceBEq, Nat.reduceLeDiff, Nat.reducePow, Int.reducePow, F12.t46_eq]
    first | done | rfl | exact ⟨rfl, rfl⟩
  by_cases h20 : n = 61
  · subst h20
    simp -dsimp -implicitDefEqProofs only [go_sem, ↓reduceIte, Nat.reduceEqDiff, reduceCtorEq, Nat.reduceAdd, Int.reduceMul, Int.reduceAdd, Int.reduceSub, Int.reduceLT, Int.reduceLE, Int.reduceEq, Int.reduceToNat, Int.reduceNeg, Nat.reduceLT, Nat.reduceDiv, Nat.reduceMod, Nat.reduceMul, Nat.reduceSub, Nat.reduceLeDiff, Nat.reduceBEq, Nat.reduceLeDiff, Nat.reducePow, Int.reducePow, F12.t46_eq]
    first | done | rfl | exact ⟨rfl, rfl⟩
  by_cases h21 : n = 62
  · subst h21
    simp -dsimp -implicitDefEqProofs only [go_sem, ↓reduceIte, Nat.reduceEqDiff, reduceCtorEq, Nat.reduceAdd, Int.reduceMul, Int.reduceAdd, Int.reduceSub, Int.reduceLT, Int.reduceLE, Int.reduceEq, Int.reduceToNat, Int.reduceNeg, Nat.reduceLT, Nat.reduceDiv, Nat.reduceMod, Nat.reduceMul, Nat.reduceSub, Nat.reduceLeDiff, Nat.reduceBEq, Nat.reduceLeDiff, Nat.reducePow, Int.reducePow, F12.t46_eq]
    first | done | rfl | exact ⟨rfl, rfl⟩
  simp -dsimp -implicitDefEqProofs only [go_sem, ↓reduceIte, Nat.reduceEqDiff, reduceCtorEq, Nat.reduceAdd, Int.reduceMul, Int.reduceAdd, Int.reduceSub, Int.reduceLT, Int.reduceLE, Int.reduceEq, Int.reduceToNat, Int.reduceNeg, Nat.reduceLT, Nat.reduceDiv, Nat.reduceMod, Nat.reduceMul, Nat.reduceSub, Nat.reduceLeDiff, Nat.reduceBEq, Nat.reduceLeDiff, Nat.reducePow, Int.reducePow, F12.t46_eq, h0, h1, h2, h3, h4, h5, h6, h7, h8, h9, h10, h11, h12, h13, h14, h15, h16, h17, h18, h19, h20, h21]
  refine (wLate_any w n).mono ?_
  rintro e w1 ⟨rfl, rfl⟩
  simp -dsimp -implicitDefEqProofs only [go_sem, ↓reduceIte, Nat.reduceEqDiff, reduceCtorEq, Nat.reduceAdd, Int.reduceMul, Int.reduceAdd, Int.reduceSub, Int.reduceLT, Int.reduceLE, Int.reduceEq, Int.reduceToNat, Int.reduceNeg, Nat.reduceLT, Nat.reduceDiv, Nat.reduceMod, Nat.reduceMul, Nat.reduceSub, Nat.reduceLeDiff, Nat.reduceBEq, Nat.reduceLeDiff, Nat.reducePow, Int.reducePow, F12.t46_eq, h0, h1, h2, h3, h4, h5, h6, h7, h8, h9, h10, h11, h12, h13, h14, h15, h16, h17, h18, h19, h20, h21]
  simp only [wError, h0, h1, h2, h3, h4, h5, h6, h7, h8, h9, h10, h11, h12, h13, h14, h15, h16, h17, h18, h19, h20, h21, if_false]

def rEarly (n : Int) : ByteArray :=
  if n = 0 then ⟨#[110, 111, 32, 101, 114, 114, 111, 114]⟩ else
  if n = 1 then ⟨#[98, 97, 100, 32, 97, 114, 103, 117, 109, 101, 110, 116]⟩ else
  if n = 10 then ⟨#[116, 111, 111, 32, 102, 101, 119, 32, 98, 121, 116, 101, 115]⟩ else
  if n = 11 then ⟨#[110, 111, 32, 114, 111, 111, 109, 32, 105, 115, 32, 108, 101, 102, 116]⟩ else
  if n = 12 then ⟨#[110, 111, 32, 118, 97, 108, 105, 100, 32, 116, 101, 120, 116]⟩ else
  if n = 13 then ⟨#[116, 111, 111, 32, 108, 111, 110, 103, 32, 116, 111, 32, 98, 101, 32, 99, 111, 117, 110, 116, 101, 100]⟩ else
  if n = 14 then ⟨#[98, 121, 116, 101, 115, 32, 97, 114, 101, 32, 108, 101, 102, 116]⟩ else
  if n = 20 then ⟨#[98, 97, 100, 32, 114, 101, 99, 111, 114, 100]⟩ else
  if n = 21 then ⟨#[98, 97, 100, 32, 109, 111, 100, 101]⟩ else
  if n = 30 then ⟨#[109, 101, 115, 115, 97, 103, 101, 32, 99, 97, 110, 39, 116, 32, 98, 101, 32, 119, 114, 105, 116, 116, 101, 110]⟩ else
  if n = 31 then ⟨#[98, 97, 100, 32, 109, 101, 115, 115, 97, 103, 101, 32, 115, 105, 122, 101]⟩ else
  if n = 32 then ⟨#[117, 110, 107, 110, 111, 119, 110, 32, 109, 101, 115, 115, 97, 103, 101]⟩ else
  if n = 33 then ⟨#[98, 97, 100, 32, 109, 101, 115, 115, 97, 103, 101]⟩ else
  if n = 34 then ⟨#[98, 97, 100, 32, 109, 101, 115, 115, 97, 103, 101, 32, 116, 101, 120, 116]⟩ else
  if n = 40 then ⟨#[98, 97, 100, 32, 102, 114, 97, 109, 101]⟩ else
  if n = 50 then ⟨#[98, 97, 100, 32, 102, 105, 108, 101, 32, 110, 97, 109, 101]⟩ else
  if n = 51 then ⟨#[98, 97, 100, 32, 112, 97, 116, 104, 32, 110, 97, 109, 101]⟩ else
  if n = 52 then ⟨#[98, 97, 100, 32, 112, 97, 116, 116, 101, 114, 110]⟩ else
  if n = 53 then ⟨#[98, 97, 100, 32, 113, 117, 111, 116, 101, 115]⟩ else
  ⟨#[101, 114, 114, 111, 114]⟩


theorem rEarly_any (w : World) (n : Int) : Calls Try.prog 16 #[.int .i64 n] w fun e w' => w' = w ∧ e = .returned (.string (rEarly n)) := by
  refine F16.calls (by simp) ?_
  unfold F16.code
  by_cases h0 : n = 0
  · subst h0
    simp -dsimp -implicitDefEqProofs only [go_sem, ↓reduceIte, Nat.reduceEqDiff, reduceCtorEq, Nat.reduceAdd, Int.reduceMul, Int.reduceAdd, Int.reduceSub, Int.reduceLT, Int.reduceLE, Int.reduceEq, Int.reduceToNat, Int.reduceNeg, Nat.reduceLT, Nat.reduceDiv, Nat.reduceMod, Nat.reduceMul, Nat.reduceSub, Nat.reduceLeDiff, Nat.reduceBEq, Nat.reduceLeDiff, Nat.reducePow, Int.reducePow, F16.t40_eq]
    first | done | rfl | exact ⟨rfl, rfl⟩
  by_cases h1 : n = 1
  · subst h1
    simp -dsimp -implicitDefEqProofs only [go_sem, ↓reduceIte, Nat.reduceEqDiff, reduceCtorEq, Nat.reduceAdd, Int.reduceMul, Int.reduceAdd, Int.reduceSub, Int.reduceLT, Int.reduceLE, Int.reduceEq, Int.reduceToNat, Int.reduceNeg, Nat.reduceLT, Nat.reduceDiv, Nat.reduceMod, Nat.reduceMul, Nat.reduceSub, Nat.reduceLeDiff, Nat.reduceBEq, Nat.reduceLeDiff, Nat.reducePow, Int.reducePow, F16.t40_eq]
    first | done | rfl | exact ⟨rfl, rfl⟩
  by_cases h2 : n = 10
  · subst h2
    simp -dsimp -implicitDefEqProofs only [go_sem, ↓reduceIte, Nat.reduceEqDiff, reduceCtorEq, Nat.reduceAdd, Int.reduceMul, Int.reduceAdd, Int.reduceSub, Int.reduceLT, Int.reduceLE, Int.reduceEq, Int.reduceToNat, Int.reduceNeg, Nat.reduceLT, Nat.reduceDiv, Nat.reduceMod, Nat.reduceMul, Nat.reduceSub, Nat.reduceLeDiff, Nat.reduceBEq, Nat.reduceLeDiff, Nat.reducePow, Int.reducePow, F16.t40_eq]
    first | done | rfl | exact ⟨rfl, rfl⟩
  by_cases h3 : n = 11
  · subst h3
    simp -dsimp -implicitDefEqProofs only [go_sem, ↓reduceIte, Nat.reduceEqDiff, reduceCtorEq, Nat.reduceAdd, Int.reduceMul, Int.reduceAdd, Int.reduceSub, Int.reduceLT, Int.reduceLE, Int.reduceEq, Int.reduceToNat, Int.reduceNeg, Nat.reduceLT, Nat.reduceDiv, Nat.reduceMod, Nat.reduceMul, Nat.reduceSub, Nat.reduceLeDiff, Nat.reduceBEq, Nat.reduceLeDiff, Nat.reducePow, Int.reducePow, F16.t40_eq]
    first | done | rfl | exact ⟨rfl, rfl⟩
  by_cases h4 : n = 12
  · subst h4
    simp -dsimp -implicitDefEqProofs only [go_sem, ↓reduceIte, Nat.reduceEqDiff, reduceCtorEq, Nat.reduceAdd, Int.reduceMul, Int.reduceAdd, Int.reduceSub, Int.reduceLT, Int.reduceLE, Int.reduceEq, Int.reduceToNat, Int.reduceNeg, Nat.reduceLT, Nat.reduceDiv, Nat.reduceMod, Nat.reduceMul, Nat.reduceSub, Nat.reduceLeDiff, Nat.reduceBEq, Nat.reduceLeDiff, Nat.reducePow, Int.reducePow, F16.t40_eq]
    first | done | rfl | exact ⟨rfl, rfl⟩
  by_cases h5 : n = 13
  · subst h5
    simp -dsimp -implicitDefEqProofs only [go_sem, ↓reduceIte, Nat.reduceEqDiff, reduceCtorEq, Nat.reduceAdd, Int.reduceMul, Int.reduceAdd, Int.reduceSub, Int.reduceLT, Int.reduceLE, Int.reduceEq, Int.reduceToNat, Int.reduceNeg, Nat.reduceLT, Nat.reduceDiv, Nat.reduceMod, Nat.reduceMul, Nat.reduceSub, Nat.reduceLeDiff, Nat.reduceBEq, Nat.reduceLeDiff, Nat.reducePow, Int.reducePow, F16.t40_eq]
    first | done | rfl | exact ⟨rfl, rfl⟩
  by_cases h6 : n = 14
  · subst h6
    simp -dsimp -implicitDefEqProofs only [go_sem, ↓reduceIte, Nat.reduceEqDiff, reduceCtorEq, Nat.reduceAdd, Int.reduceMul, Int.reduceAdd, Int.reduceSub, Int.reduceLT, Int.reduceLE, Int.reduceEq, Int.reduceToNat, Int.reduceNeg, Nat.reduceLT, Nat.reduceDiv, Nat.reduceMod, Nat.reduceMul, Nat.reduceSub, Nat.reduceLeDiff, Nat.reduceBEq, Nat.reduceLeDiff, Nat.reducePow, Int.reducePow, F16.t40_eq]
    first | done | rfl | exact ⟨rfl, rfl⟩
  by_cases h7 : n = 20
  · subst h7
    simp -dsimp -implicitDefEqProofs only [go_sem, ↓reduceIte, Nat.reduceEqDiff, reduceCtorEq, Nat.reduceAdd, Int.reduceMul, Int.reduceAdd, Int.reduceSub, Int.reduceLT, Int.reduceLE, Int.reduceEq, Int.reduceToNat, Int.reduceNeg, Nat.reduceLT, Nat.reduceDiv, Nat.reduceMod, Nat.reduceMul, Nat.reduceSub, Nat.reduceLeDiff, Nat.reduceBEq, Nat.reduceLeDiff, Nat.reducePow, Int.reducePow, F16.t40_eq]
    first | done | rfl | exact ⟨rfl, rfl⟩
  by_cases h8 : n = 21
  · subst h8
    simp -dsimp -implicitDefEqProofs only [go_sem, ↓reduceIte, Nat.reduceEqDiff, reduceCtorEq, Nat.reduceAdd, Int.reduceMul, Int.reduceAdd, Int.reduceSub, Int.reduceLT, Int.reduceLE, Int.reduceEq, Int.reduceToNat, Int.reduceNeg, Nat.reduceLT, Nat.reduceDiv, Nat.reduceMod, Nat.reduceMul, Nat.reduceSub, Nat.reduceLeDiff, Nat.reduceBEq, Nat.reduceLeDiff, Nat.reducePow, Int.reducePow, F16.t40_eq]
    first | done | rfl | exact ⟨rfl, rfl⟩
  by_cases h9 : n = 30
  · subst h9
    simp -dsimp -implicitDefEqProofs only [go_sem, ↓reduceIte, Nat.reduceEqDiff, reduceCtorEq, Nat.reduceAdd, Int.reduceMul, Int.reduceAdd, Int.reduceSub, Int.reduceLT, Int.reduceLE, Int.reduceEq, Int.reduceToNat, Int.reduceNeg, Nat.reduceLT, Nat.reduceDiv, Nat.reduceMod, Nat.reduceMul, Nat.reduceSub, Nat.reduceLeDiff, Nat.reduceBEq, Nat.reduceLeDiff, Nat.reducePow, Int.reducePow, F16.t40_eq]
    first | done | rfl | exact ⟨rfl, rfl⟩
  by_cases h10 : n = 31
  · subst h10
    simp -dsimp -implicitDefEqProofs only [go_sem, ↓reduceIte, Nat.reduceEqDiff, reduceCtorEq, Nat.reduceAdd, Int.reduceMul, Int.reduceAdd, Int.reduceSub, Int.reduceLT, Int.reduceLE, Int.reduceEq, Int.reduceToNat, Int.reduceNeg, Nat.reduceLT, Nat.reduceDiv, Nat.reduceMod, Nat.reduceMul, Nat.reduceSub, Nat.reduceLeDiff, Nat.reduceBEq, Nat.reduceLeDiff, Nat.reducePow, Int.reducePow, F16.t40_eq]
    first | done | rfl | exact ⟨rfl, rfl⟩
  by_cases h11 : n = 32
  · subst h11
    simp -dsimp -implicitDefEqProofs only [go_sem, ↓reduceIte, Nat.reduceEqDiff, reduceCtorEq, Nat.reduceAdd, Int.reduceMul, Int.reduceAdd, Int.reduceSub, Int.reduceLT, Int.reduceLE, Int.reduceEq, Int.reduceToNat, Int.reduceNeg, Nat.reduceLT, Nat.reduceDiv, Nat.reduceMod, Nat.reduceMul, Nat.reduceSub, Nat.reduceLeDiff, Nat.reduceBEq, Nat.reduceLeDiff, Nat.reducePow, Int.reducePow, F16.t40_eq]
    first | done | rfl | exact ⟨rfl, rfl⟩
  by_cases h12 : n = 33
  · subst h12
    simp -dsimp -implicitDefEqProofs only [go_sem, ↓reduceIte, Nat.reduceEqDiff, reduceCtorEq, Nat.reduceAdd, Int.reduceMul, Int.reduceAdd, Int.reduceSub, Int.reduceLT, Int.reduceLE, Int.reduceEq, Int.reduceToNat, Int.reduceNeg, Nat.reduceLT, Nat.reduceDiv, Nat.reduceMod, Nat.reduceMul, Nat.reduceSub, Nat.reduceLeDiff, Nat.reduceBEq, Nat.reduceLeDiff, Nat.reducePow, Int.reducePow, F16.t40_eq]
    first | done | rfl | exact ⟨rfl, rfl⟩
  by_cases h13 : n = 34
  · subst h13
    simp -dsimp -implicitDefEqProofs only [go_sem, ↓reduceIte, Nat.reduceEqDiff, reduceCtorEq, Nat.reduceAdd, Int.reduceMul, Int.reduceAdd, Int.reduceSub, Int.reduceLT, Int.reduceLE, Int.reduceEq, Int.reduceToNat, Int.reduceNeg, Nat.reduceLT, Nat.reduceDiv, Nat.reduceMod, Nat.reduceMul, Nat.reduceSub, Nat.reduceLeDiff, Nat.reduceBEq, Nat.reduceLeDiff, Nat.reducePow, Int.reducePow, F16.t40_eq]
    first | done | rfl | exact ⟨rfl, rfl⟩
  by_cases h14 : n = 40
  · subst h14
    simp -dsimp -implicitDefEqProofs only [go_sem, ↓reduceIte, Nat.reduceEqDiff, reduceCtorEq, Nat.reduceAdd, Int.reduceMul, Int.reduceAdd, Int.reduceSub, Int.reduceLT, Int.reduceLE, Int.reduceEq, Int.reduceToNat, Int.reduceNeg, Nat.reduceLT, Nat.reduceDiv, Nat.reduceMod, Nat.reduceMul, Nat.reduceSub, Nat.reduceLeDiff, Nat.reduceBEq, Nat.reduceLeDiff, Nat.reducePow, Int.reducePow, F16.t40_eq]
    first | done | rfl | exact ⟨rfl, rfl⟩
  by_cases h15 : n = 50
  · subst h15
    simp -dsimp -implicitDefEqProofs only [go_sem, ↓reduceIte, Nat.reduceEqDiff, reduceCtorEq, Nat.reduceAdd, Int.reduceMul, Int.reduceAdd, Int.reduceSub, Int.reduceLT, Int.reduceLE, Int.reduceEq, Int.reduceToNat, Int.reduceNeg, Nat.reduceLT, Nat.reduceDiv, Nat.reduceMod, Nat.reduceMul, Nat.reduceSub, Nat.reduceLeDiff, Nat.reduceBEq, Nat.reduceLeDiff, Nat.reducePow, Int.reducePow, F16.t40_eq]
    first | done | rfl | exact ⟨rfl, rfl⟩
  by_cases h16 : n = 51
  · subst h16
    simp -dsimp -implicitDefEqProofs only [go_sem, ↓reduceIte, Nat.reduceEqDiff, reduceCtorEq, Nat.reduceAdd, Int.reduceMul, Int.reduceAdd, Int.reduceSub, Int.reduceLT, Int.reduceLE, Int.reduceEq, Int.reduceToNat, Int.reduceNeg, Nat.reduceLT, Nat.reduceDiv, Nat.reduceMod, Nat.reduceMul, Nat.reduceSub, Nat.reduceLeDiff, Nat.reduceBEq, Nat.reduceLeDiff, Nat.reducePow, Int.reducePow, F16.t40_eq]
    first | done | rfl | exact ⟨rfl, rfl⟩
  by_cases h17 : n = 52
  · subst h17
    simp -dsimp -implicitDefEqProofs only [go_sem, ↓reduceIte, Nat.reduceEqDiff, reduceCtorEq, Nat.reduceAdd, Int.reduceMul, Int.reduceAdd, Int.reduceSub, Int.reduceLT, Int.reduceLE, Int.reduceEq, Int.reduceToNat, Int.reduceNeg, Nat.reduceLT, Nat.reduceDiv, Nat.reduceMod, Nat.reduceMul, Nat.reduceSub, Nat.reduceLeDiff, Nat.reduceBEq, Nat.reduceLeDiff, Nat.reducePow, Int.reducePow, F16.t40_eq]
    first | done | rfl | exact ⟨rfl, rfl⟩
  by_cases h18 : n = 53
  · subst h18
    simp -dsimp -implicitDefEqProofs only [go_sem, ↓reduceIte, Nat.reduceEqDiff, reduceCtorEq, Nat.reduceAdd, Int.reduceMul, Int.reduceAdd, Int.reduceSub, Int.reduceLT, Int.reduceLE, Int.reduceEq, Int.reduceToNat, Int.reduceNeg, Nat.reduceLT, Nat.reduceDiv, Nat.reduceMod, Nat.reduceMul, Nat.reduceSub, Nat.reduceLeDiff, Nat.reduceBEq, Nat.reduceLeDiff, Nat.reducePow, Int.reducePow, F16.t40_eq]
    first | done | rfl | exact ⟨rfl, rfl⟩
  simp -dsimp -implicitDefEqProofs only [go_sem, ↓reduceIte, Nat.reduceEqDiff, reduceCtorEq, Nat.reduceAdd, Int.reduceMul, Int.reduceAdd, Int.reduceSub, Int.reduceLT, Int.reduceLE, Int.reduceEq, Int.reduceToNat, Int.reduceNeg, Nat.reduceLT, Nat.reduceDiv, Nat.reduceMod, Nat.reduceMul, Nat.reduceSub, Nat.reduceLeDiff, Nat.reduceBEq, Nat.reduceLeDiff, Nat.reducePow, Int.reducePow, F16.t40_eq, h0, h1, h2, h3, h4, h5, h6, h7, h8, h9, h10, h11, h12, h13, h14, h15, h16, h17, h18]
  simp only [rEarly, h0, h1, h2, h3, h4, h5, h6, h7, h8, h9, h10, h11, h12, h13, h14, h15, h16, h17, h18, if_false]

def rMiddle (n : Int) : ByteArray :=
  if n = 60 then ⟨#[98, 97, 100, 32, 117, 115, 101, 114, 115, 32, 108, 105, 110, 101]⟩ else
  if n = 61 then ⟨#[117, 115, 101, 114, 32, 115, 116, 97, 110, 100, 115, 32, 116, 119, 105, 99, 101]⟩ else
  if n = 62 then ⟨#[117, 115, 101, 114, 32, 119, 105, 116, 104, 111, 117, 116, 32, 97, 32, 108, 105, 110, 101]⟩ else
  if n = 70 then ⟨#[98, 97, 100, 32, 97, 117, 116, 104, 101, 110, 116, 105, 99, 97, 116, 105, 111, 110, 32, 116, 101, 120, 116]⟩ else
  if n = 71 then ⟨#[97, 117, 116, 104, 101, 110, 116, 105, 99, 97, 116, 105, 111, 110, 32, 105, 115, 32, 111, 118, 101, 114]⟩ else
  if n = 72 then ⟨#[97, 117, 116, 104, 101, 110, 116, 105, 99, 97, 116, 105, 111, 110, 32, 102, 97, 105, 108, 101, 100]⟩ else
  if n = 80 then ⟨#[110, 111, 32, 115, 117, 99, 104, 32, 110, 111, 100, 101]⟩ else
  if n = 81 then ⟨#[119, 114, 111, 110, 103, 32, 107, 105, 110, 100, 32, 111, 102, 32, 110, 111, 100, 101]⟩ else
  if n = 82 then ⟨#[110, 97, 109, 101, 32, 105, 115, 32, 116, 97, 107, 101, 110]⟩ else
  if n = 83 then ⟨#[102, 105, 108, 101, 32, 115, 121, 115, 116, 101, 109, 32, 105, 115, 32, 102, 117, 108, 108]⟩ else
  if n = 84 then ⟨#[98, 121, 116, 101, 115, 32, 98, 101, 121, 111, 110, 100, 32, 97, 32, 98, 108, 111, 99, 107]⟩ else
  if n = 85 then ⟨#[110, 111, 100, 101, 32, 104, 97, 115, 32, 99, 104, 105, 108, 100, 114, 101, 110]⟩ else
  if n = 86 then ⟨#[98, 121, 116, 101, 115, 32, 98, 101, 121, 111, 110, 100, 32, 116, 104, 101, 32, 103, 114, 101, 97, 116, 101, 115, 116, 32, 102, 105, 108, 101]⟩ else
  if n = 87 then ⟨#[102, 101, 119, 101, 114, 32, 116, 104, 97, 110, 32, 110, 111, 110, 101]⟩ else
  if n = 90 then ⟨#[112, 101, 114, 109, 105, 115, 115, 105, 111, 110, 32, 100, 101, 110, 105, 101, 100]⟩ else
  if n = 91 then ⟨#[98, 97, 100, 32, 111, 112, 101, 110, 32, 109, 111, 100, 101]⟩ else
  if n = 92 then ⟨#[102, 105, 108, 101, 32, 105, 115, 32, 97, 32, 100, 105, 114, 101, 99, 116, 111, 114, 121]⟩ else
  if n = 93 then ⟨#[110, 111, 116, 32, 97, 32, 100, 105, 114, 101, 99, 116, 111, 114, 121]⟩ else
  if n = 94 then ⟨#[102, 105, 108, 101, 32, 105, 115, 32, 105, 110, 32, 101, 120, 99, 108, 117, 115, 105, 118, 101, 32, 117, 115, 101]⟩ else
  if n = 95 then ⟨#[102, 105, 108, 101, 32, 101, 120, 105, 115, 116, 115]⟩ else
  if n = 96 then ⟨#[100, 105, 114, 101, 99, 116, 111, 114, 121, 32, 105, 115, 32, 110, 111, 116, 32, 101, 109, 112, 116, 121]⟩ else
  if n = 97 then ⟨#[98, 97, 100, 32, 99, 104, 97, 110, 103, 101, 32, 111, 102, 32, 97, 32, 114, 101, 99, 111, 114, 100]⟩ else
  if n = 98 then ⟨#[102, 105, 108, 101, 32, 105, 115, 32, 116, 111, 111, 32, 98, 105, 103]⟩ else
  if n = 99 then ⟨#[117, 110, 107, 110, 111, 119, 110, 32, 103, 114, 111, 117, 112]⟩ else
  ⟨#[101, 114, 114, 111, 114]⟩


theorem rMiddle_any (w : World) (n : Int) : Calls Try.prog 17 #[.int .i64 n] w fun e w' => w' = w ∧ e = .returned (.string (rMiddle n)) := by
  refine F17.calls (by simp) ?_
  unfold F17.code
  by_cases h0 : n = 60
  · subst h0
    simp -dsimp -implicitDefEqProofs only [go_sem, ↓reduceIte, Nat.reduceEqDiff, reduceCtorEq, Nat.reduceAdd, Int.reduceMul, Int.reduceAdd, Int.reduceSub, Int.reduceLT, Int.reduceLE, Int.reduceEq, Int.reduceToNat, Int.reduceNeg, Nat.reduceLT, Nat.reduceDiv, Nat.reduceMod, Nat.reduceMul, Nat.reduceSub, Nat.reduceLeDiff, Nat.reduceBEq, Nat.reduceLeDiff, Nat.reducePow, Int.reducePow, F17.t50_eq]
    first | done | rfl | exact ⟨rfl, rfl⟩
  by_cases h1 : n = 61
  · subst h1
    simp -dsimp -implicitDefEqProofs only [go_sem, ↓reduceIte, Nat.reduceEqDiff, reduceCtorEq, Nat.reduceAdd, Int.reduceMul, Int.reduceAdd, Int.reduceSub, Int.reduceLT, Int.reduceLE, Int.reduceEq, Int.reduceToNat, Int.reduceNeg, Nat.reduceLT, Nat.reduceDiv, Nat.reduceMod, Nat.reduceMul, Nat.reduceSub, Nat.reduceLeDiff, Nat.reduceBEq, Nat.reduceLeDiff, Nat.reducePow, Int.reducePow, F17.t50_eq]
    first | done | rfl | exact ⟨rfl, rfl⟩
  by_cases h2 : n = 62
  · subst h2
    simp -dsimp -implicitDefEqProofs only [go_sem, ↓reduceIte, Nat.reduceEqDiff, reduceCtorEq, Nat.reduceAdd, Int.reduceMul, Int.reduceAdd, Int.reduceSub, Int.reduceLT, Int.reduceLE, Int.reduceEq, Int.reduceToNat, Int.reduceNeg, Nat.reduceLT, Nat.reduceDiv, Nat.reduceMod, Nat.reduceMul, Nat.reduceSub, Nat.reduceLeDiff, Nat.reduceBEq, Nat.reduceLeDiff, Nat.reducePow, Int.reducePow, F17.t50_eq]
    first | done | rfl | exact ⟨rfl, rfl⟩
  by_cases h3 : n = 70
  · subst h3
    simp -dsimp -implicitDefEqProofs only [go_sem, ↓reduceIte, Nat.reduceEqDiff, reduceCtorEq, Nat.reduceAdd, Int.reduceMul, Int.reduceAdd, Int.reduceSub, Int.reduceLT, Int.reduceLE, Int.reduceEq, Int.reduceToNat, Int.reduceNeg, Nat.reduceLT, Nat.reduceDiv, Nat.reduceMod, Nat.reduceMul, Nat.reduceSub, Nat.reduceLeDiff, Nat.reduceBEq, Nat.reduceLeDiff, Nat.reducePow, Int.reducePow, F17.t50_eq]
    first | done | rfl | exact ⟨rfl, rfl⟩
  by_cases h4 : n = 71
  · subst h4
    simp -dsimp -implicitDefEqProofs only [go_sem, ↓reduceIte, Nat.reduceEqDiff, reduceCtorEq, Nat.reduceAdd, Int.reduceMul, Int.reduceAdd, Int.reduceSub, Int.reduceLT, Int.reduceLE, Int.reduceEq, Int.reduceToNat, Int.reduceNeg, Nat.reduceLT, Nat.reduceDiv, Nat.reduceMod, Nat.reduceMul, Nat.reduceSub, Nat.reduceLeDiff, Nat.reduceBEq, Nat.reduceLeDiff, Nat.reducePow, Int.reducePow, F17.t50_eq]
    first | done | rfl | exact ⟨rfl, rfl⟩
  by_cases h5 : n = 72
  · subst h5
    simp -dsimp -implicitDefEqProofs only [go_sem, ↓reduceIte, Nat.reduceEqDiff, reduceCtorEq, Nat.reduceAdd, Int.reduceMul, Int.reduceAdd, Int.reduceSub, Int.reduceLT, Int.reduceLE, Int.reduceEq, Int.reduceToNat, Int.reduceNeg, Nat.reduceLT, Nat.reduceDiv, Nat.reduceMod, Nat.reduceMul, Nat.reduceSub, Nat.reduceLeDiff, Nat.reduceBEq, Nat.reduceLeDiff, Nat.reducePow, Int.reducePow, F17.t50_eq]
    first | done | rfl | exact ⟨rfl, rfl⟩
  by_cases h6 : n = 80
  · subst h6
    simp -dsimp -implicitDefEqProofs only [go_sem, ↓reduceIte, Nat.reduceEqDiff, reduceCtorEq, Nat.reduceAdd, Int.reduceMul, Int.reduceAdd, Int.reduceSub, Int.reduceLT, Int.reduceLE, Int.reduceEq, Int.reduceToNat, Int.reduceNeg, Nat.reduceLT, Nat.reduceDiv, Nat.reduceMod, Nat.reduceMul, Nat.reduceSub, Nat.reduceLeDiff, Nat.reduceBEq, Nat.reduceLeDiff, Nat.reducePow, Int.reducePow, F17.t50_eq]
    first | done | rfl | exact ⟨rfl, rfl⟩
  by_cases h7 : n = 81
  · subst h7
    simp -dsimp -implicitDefEqProofs only [go_sem, ↓reduceIte, Nat.reduceEqDiff, reduceCtorEq, Nat.reduceAdd, Int.reduceMul, Int.reduceAdd, Int.reduceSub, Int.reduceLT, Int.reduceLE, Int.reduceEq, Int.reduceToNat, Int.reduceNeg, Nat.reduceLT, Nat.reduceDiv, Nat.reduceMod, Nat.reduceMul, Nat.reduceSub, Nat.reduceLeDiff, Nat.reduceBEq, Nat.reduceLeDiff, Nat.reducePow, Int.reducePow, F17.t50_eq]
    first | done | rfl | exact ⟨rfl, rfl⟩
  by_cases h8 : n = 82
  · subst h8
    simp -dsimp -implicitDefEqProofs only [go_sem, ↓reduceIte, Nat.reduceEqDiff, reduceCtorEq, Nat.reduceAdd, Int.reduceMul, Int.reduceAdd, Int.reduceSub, Int.reduceLT, Int.reduceLE, Int.reduceEq, Int.reduceToNat, Int.reduceNeg, Nat.reduceLT, Nat.reduceDiv, Nat.reduceMod, Nat.reduceMul, Nat.reduceSub, Nat.reduceLeDiff, Nat.reduceBEq, Nat.reduceLeDiff, Nat.reducePow, Int.reducePow, F17.t50_eq]
    first | done | rfl | exact ⟨rfl, rfl⟩
  by_cases h9 : n = 83
  · subst h9
    simp -dsimp -implicitDefEqProofs only [go_sem, ↓reduceIte, Nat.reduceEqDiff, reduceCtorEq, Nat.reduceAdd, Int.reduceMul, Int.reduceAdd, Int.reduceSub, Int.reduceLT, Int.reduceLE, Int.reduceEq, Int.reduceToNat, Int.reduceNeg, Nat.reduceLT, Nat.reduceDiv, Nat.reduceMod, Nat.reduceMul, Nat.reduceSub, Nat.reduceLeDiff, Nat.reduceBEq, Nat.reduceLeDiff, Nat.reducePow, Int.reducePow, F17.t50_eq]
    first | done | rfl | exact ⟨rfl, rfl⟩
  by_cases h10 : n = 84
  · subst h10
    simp -dsimp -implicitDefEqProofs only [go_sem, ↓reduceIte, Nat.reduceEqDiff, reduceCtorEq, Nat.reduceAdd, Int.reduceMul, Int.reduceAdd, Int.reduceSub, Int.reduceLT, Int.reduceLE, Int.reduceEq, Int.reduceToNat, Int.reduceNeg, Nat.reduceLT, Nat.reduceDiv, Nat.reduceMod, Nat.reduceMul, Nat.reduceSub, Nat.reduceLeDiff, Nat.reduceBEq, Nat.reduceLeDiff, Nat.reducePow, Int.reducePow, F17.t50_eq]
    first | done | rfl | exact ⟨rfl, rfl⟩
  by_cases h11 : n = 85
  · subst h11
    simp -dsimp -implicitDefEqProofs only [go_sem, ↓reduceIte, Nat.reduceEqDiff, reduceCtorEq, Nat.reduceAdd, Int.reduceMul, Int.reduceAdd, Int.reduceSub, Int.reduceLT, Int.reduceLE, Int.reduceEq, Int.reduceToNat, Int.reduceNeg, Nat.reduceLT, Nat.reduceDiv, Nat.reduceMod, Nat.reduceMul, Nat.reduceSub, Nat.reduceLeDiff, Nat.reduceBEq, Nat.reduceLeDiff, Nat.reducePow, Int.reducePow, F17.t50_eq]
    first | done | rfl | exact ⟨rfl, rfl⟩
  by_cases h12 : n = 86
  · subst h12
    simp -dsimp -implicitDefEqProofs only [go_sem, ↓reduceIte, Nat.reduceEqDiff, reduceCtorEq, Nat.reduceAdd, Int.reduceMul, Int.reduceAdd, Int.reduceSub, Int.reduceLT, Int.reduceLE, Int.reduceEq, Int.reduceToNat, Int.reduceNeg, Nat.reduceLT, Nat.reduceDiv, Nat.reduceMod, Nat.reduceMul, Nat.reduceSub, Nat.reduceLeDiff, Nat.reduceBEq, Nat.reduceLeDiff, Nat.reducePow, Int.reducePow, F17.t50_eq]
    first | done | rfl | exact ⟨rfl, rfl⟩
  by_cases h13 : n = 87
  · subst h13
    simp -dsimp -implicitDefEqProofs only [go_sem, ↓reduceIte, Nat.reduceEqDiff, reduceCtorEq, Nat.reduceAdd, Int.reduceMul, Int.reduceAdd, Int.reduceSub, Int.reduceLT, Int.reduceLE, Int.reduceEq, Int.reduceToNat, Int.reduceNeg, Nat.reduceLT, Nat.reduceDiv, Nat.reduceMod, Nat.reduceMul, Nat.reduceSub, Nat.reduceLeDiff, Nat.reduceBEq, Nat.reduceLeDiff, Nat.reducePow, Int.reducePow, F17.t50_eq]
    first | done | rfl | exact ⟨rfl, rfl⟩
  by_cases h14 : n = 90
  · subst h14
    simp -dsimp -implicitDefEqProofs only [go_sem, ↓reduceIte, Nat.reduceEqDiff, reduceCtorEq, Nat.reduceAdd, Int.reduceMul, Int.reduceAdd, Int.reduceSub, Int.reduceLT, Int.reduceLE, Int.reduceEq, Int.reduceToNat, Int.reduceNeg, Nat.reduceLT, Nat.reduceDiv, Nat.reduceMod, Nat.reduceMul, Nat.reduceSub, Nat.reduceLeDiff, Nat.reduceBEq, Nat.reduceLeDiff, Nat.reducePow, Int.reducePow, F17.t50_eq]
    first | done | rfl | exact ⟨rfl, rfl⟩
  by_cases h15 : n = 91
  · subst h15
    simp -dsimp -implicitDefEqProofs only [go_sem, ↓reduceIte, Nat.reduceEqDiff, reduceCtorEq, Nat.reduceAdd, Int.reduceMul, Int.reduceAdd, Int.reduceSub, Int.reduceLT, Int.reduceLE, Int.reduceEq, Int.reduceToNat, Int.reduceNeg, Nat.reduceLT, Nat.reduceDiv, Nat.reduceMod, Nat.reduceMul, Nat.reduceSub, Nat.reduceLeDiff, Nat.reduceBEq, Nat.reduceLeDiff, Nat.reducePow, Int.reducePow, F17.t50_eq]
    first | done | rfl | exact ⟨rfl, rfl⟩
  by_cases h16 : n = 92
  · subst h16
    simp -dsimp -implicitDefEqProofs only [go_sem, ↓reduceIte, Nat.reduceEqDiff, reduceCtorEq, Nat.reduceAdd, Int.reduceMul, Int.reduceAdd, Int.reduceSub, Int.reduceLT, Int.reduceLE, Int.reduceEq, Int.reduceToNat, Int.reduceNeg, Nat.reduceLT, Nat.reduceDiv, Nat.reduceMod, Nat.reduceMul, Nat.reduceSub, Nat.reduceLeDiff, Nat.reduceBEq, Nat.reduceLeDiff, Nat.reducePow, Int.reducePow, F17.t50_eq]
    first | done | rfl | exact ⟨rfl, rfl⟩
  by_cases h17 : n = 93
  · subst h17
    simp -dsimp -implicitDefEqProofs only [go_sem, ↓reduceIte, Nat.reduceEqDiff, reduceCtorEq, Nat.reduceAdd, Int.reduceMul, Int.reduceAdd, Int.reduceSub, Int.reduceLT, Int.reduceLE, Int.reduceEq, Int.reduceToNat, Int.reduceNeg, Nat.reduceLT, Nat.reduceDiv, Nat.reduceMod, Nat.reduceMul, Nat.reduceSub, Nat.reduceLeDiff, Nat.reduceBEq, Nat.reduceLeDiff, Nat.reducePow, Int.reducePow, F17.t50_eq]
    first | done | rfl | exact ⟨rfl, rfl⟩
  by_cases h18 : n = 94
  · subst h18
    simp -dsimp -implicitDefEqProofs only [go_sem, ↓reduceIte, Nat.reduceEqDiff, reduceCtorEq, Nat.reduceAdd, Int.reduceMul, Int.reduceAdd, Int.reduceSub, Int.reduceLT, Int.reduceLE, Int.reduceEq, Int.reduceToNat, Int.reduceNeg, Nat.reduceLT, Nat.reduceDiv, Nat.reduceMod, Nat.reduceMul, Nat.reduceSub, Nat.reduceLeDiff, Nat.reduceBEq, Nat.reduceLeDiff, Nat.reducePow, Int.reducePow, F17.t50_eq]
    first | done | rfl | exact ⟨rfl, rfl⟩
  by_cases h19 : n = 95
  · subst h19
    simp -dsimp -implicitDefEqProofs only [go_sem, ↓reduceIte, Nat.reduceEqDiff, reduceCtorEq, Nat.reduceAdd, Int.reduceMul, Int.reduceAdd, Int.reduceSub, Int.reduceLT, Int.reduceLE, Int.reduceEq, Int.reduceToNat, Int.reduceNeg, Nat.reduceLT, Nat.reduceDiv, Nat.reduceMod, Nat.reduceMul, Nat.reduceSub, Nat.reduceLeDiff, Nat.reduceBEq, Nat.reduceLeDiff, Nat.reducePow, Int.reducePow, F17.t50_eq]
    first | done | rfl | exact ⟨rfl, rfl⟩
  by_cases h20 : n = 96
  · subst h20
    simp -dsimp -implicitDefEqProofs only [go_sem, ↓reduceIte, Nat.reduceEqDiff, reduceCtorEq, Nat.reduceAdd, Int.reduceMul, Int.reduceAdd, Int.reduceSub, Int.reduceLT, Int.reduceLE, Int.reduceEq, Int.reduceToNat, Int.reduceNeg, Nat.reduceLT, Nat.reduceDiv, Nat.reduceMod, Nat.reduceMul, Nat.reduceSub, Nat.reduceLeDiff, Nat.reduceBEq, Nat.reduceLeDiff, Nat.reducePow, Int.reducePow, F17.t50_eq]
    first | done | rfl | exact ⟨rfl, rfl⟩
  by_cases h21 : n = 97
  · subst h21
    simp -dsimp -implicitDefEqProofs only [go_sem, ↓reduceIte, Nat.reduceEqDiff, reduceCtorEq, Nat.reduceAdd, Int.reduceMul, Int.reduceAdd, Int.reduceSub, Int.reduceLT, Int.reduceLE, Int.reduceEq, Int.reduceToNat, Int.reduceNeg, Nat.reduceLT, Nat.reduceDiv, Nat.reduceMod, Nat.reduceMul, Nat.reduceSub, Nat.reduceLeDiff, Nat.reduceBEq, Nat.reduceLeDiff, Nat.reducePow, Int.reducePow, F17.t50_eq]
    first | done | rfl | exact ⟨rfl, rfl⟩
  by_cases h22 : n = 98
  · subst h22
    simp -dsimp -implicitDefEqProofs only [go_sem, ↓reduceIte, Nat.reduceEqDiff, reduceCtorEq, Nat.reduceAdd, Int.reduceMul, Int.reduceAdd, Int.reduceSub, Int.reduceLT, Int.reduceLE, Int.reduceEq, Int.reduceToNat, Int.reduceNeg, Nat.reduceLT, Nat.reduceDiv, Nat.reduceMod, Nat.reduceMul, Nat.reduceSub, Nat.reduceLeDiff, Nat.reduceBEq, Nat.reduceLeDiff, Nat.reducePow, Int.reducePow, F17.t50_eq]
    first | done | rfl | exact ⟨rfl, rfl⟩
  by_cases h23 : n = 99
  · subst h23
    simp -dsimp -implicitDefEqProofs only [go_sem, ↓reduceIte, Nat.reduceEqDiff, reduceCtorEq, Nat.reduceAdd, Int.reduceMul, Int.reduceAdd, Int.reduceSub, Int.reduceLT, Int.reduceLE, Int.reduceEq, Int.reduceToNat, Int.reduceNeg, Nat.reduceLT, Nat.reduceDiv, Nat.reduceMod, Nat.reduceMul, Nat.reduceSub, Nat.reduceLeDiff, Nat.reduceBEq, Nat.reduceLeDiff, Nat.reducePow, Int.reducePow, F17.t50_eq]
    first | done | rfl | exact ⟨rfl, rfl⟩
  simp -dsimp -implicitDefEqProofs only [go_sem, ↓reduceIte, Nat.reduceEqDiff, reduceCtorEq, Nat.reduceAdd, Int.reduceMul, Int.reduceAdd, Int.reduceSub, Int.reduceLT, Int.reduceLE, Int.reduceEq, Int.reduceToNat, Int.reduceNeg, Nat.reduceLT, Nat.reduceDiv, Nat.reduceMod, Nat.reduceMul, Nat.reduceSub, Nat.reduceLeDiff, Nat.reduceBEq, Nat.reduceLeDiff, Nat.reducePow, Int.reducePow, F17.t50_eq, h0, h1, h2, h3, h4, h5, h6, h7, h8, h9, h10, h11, h12, h13, h14, h15, h16, h17, h18, h19, h20, h21, h22, h23]
  simp only [rMiddle, h0, h1, h2, h3, h4, h5, h6, h7, h8, h9, h10, h11, h12, h13, h14, h15, h16, h17, h18, h19, h20, h21, h22, h23, if_false]

def rLate (n : Int) : ByteArray :=
  if n = 100 then ⟨#[117, 110, 107, 110, 111, 119, 110, 32, 102, 105, 100]⟩ else
  if n = 101 then ⟨#[102, 105, 100, 32, 105, 115, 32, 105, 110, 32, 117, 115, 101]⟩ else
  if n = 102 then ⟨#[116, 111, 111, 32, 109, 97, 110, 121, 32, 102, 105, 100, 115]⟩ else
  if n = 103 then ⟨#[98, 97, 100, 32, 102, 105, 100]⟩ else
  if n = 110 then ⟨#[98, 97, 100, 32, 99, 111, 110, 102, 105, 103, 117, 114, 97, 116, 105, 111, 110]⟩ else
  if n = 111 then ⟨#[102, 105, 108, 101, 32, 104, 97, 115, 32, 98, 101, 101, 110, 32, 114, 101, 109, 111, 118, 101, 100]⟩ else
  if n = 112 then ⟨#[102, 105, 100, 32, 105, 115, 32, 111, 112, 101, 110]⟩ else
  if n = 113 then ⟨#[102, 105, 108, 101, 32, 100, 111, 101, 115, 32, 110, 111, 116, 32, 101, 120, 105, 115, 116]⟩ else
  if n = 114 then ⟨#[117, 110, 107, 110, 111, 119, 110, 32, 117, 115, 101, 114]⟩ else
  if n = 115 then ⟨#[117, 110, 107, 110, 111, 119, 110, 32, 116, 114, 101, 101]⟩ else
  if n = 116 then ⟨#[97, 117, 116, 104, 101, 110, 116, 105, 99, 97, 116, 105, 111, 110, 32, 105, 115, 32, 119, 114, 111, 110, 103, 32, 104, 101, 114, 101]⟩ else
  if n = 117 then ⟨#[102, 105, 100, 32, 105, 115, 32, 110, 111, 116, 32, 111, 112, 101, 110, 32, 102, 111, 114, 32, 116, 104, 105, 115]⟩ else
  if n = 118 then ⟨#[98, 97, 100, 32, 111, 102, 102, 115, 101, 116, 32, 105, 110, 32, 97, 32, 100, 105, 114, 101, 99, 116, 111, 114, 121]⟩ else
  if n = 119 then ⟨#[99, 111, 117, 110, 116, 32, 105, 115, 32, 116, 111, 111, 32, 115, 109, 97, 108, 108]⟩ else
  if n = 120 then ⟨#[98, 97, 100, 32, 116, 97, 103]⟩ else
  if n = 121 then ⟨#[110, 111, 32, 118, 101, 114, 115, 105, 111, 110, 32, 119, 97, 115, 32, 97, 103, 114, 101, 101, 100, 32, 111, 110]⟩ else
  if n = 122 then ⟨#[109, 101, 115, 115, 97, 103, 101, 32, 115, 105, 122, 101, 32, 105, 115, 32, 116, 111, 111, 32, 115, 109, 97, 108, 108]⟩ else
  if n = 123 then ⟨#[99, 111, 110, 110, 101, 99, 116, 105, 111, 110, 32, 105, 115, 32, 99, 108, 111, 115, 101, 100]⟩ else
  if n = 140 then ⟨#[116, 97, 103, 32, 105, 115, 32, 105, 110, 32, 117, 115, 101]⟩ else
  if n = 141 then ⟨#[116, 111, 111, 32, 109, 97, 110, 121, 32, 114, 101, 113, 117, 101, 115, 116, 115]⟩ else
  if n = 180 then ⟨#[115, 101, 114, 118, 101, 114, 32, 100, 111, 101, 115, 32, 110, 111, 116, 32, 97, 110, 115, 119, 101, 114]⟩ else
  if n = 181 then ⟨#[117, 110, 101, 120, 112, 101, 99, 116, 101, 100, 32, 114, 101, 112, 108, 121]⟩ else
  ⟨#[101, 114, 114, 111, 114]⟩


theorem rLate_any (w : World) (n : Int) : Calls Try.prog 18 #[.int .i64 n] w fun e w' => w' = w ∧ e = .returned (.string (rLate n)) := by
  refine F18.calls (by simp) ?_
  unfold F18.code
  by_cases h0 : n = 100
  · subst h0
    simp -dsimp -implicitDefEqProofs only [go_sem, ↓reduceIte, Nat.reduceEqDiff, reduceCtorEq, Nat.reduceAdd, Int.reduceMul, Int.reduceAdd, Int.reduceSub, Int.reduceLT, Int.reduceLE, Int.reduceEq, Int.reduceToNat, Int.reduceNeg, Nat.reduceLT, Nat.reduceDiv, Nat.reduceMod, Nat.reduceMul, Nat.reduceSub, Nat.reduceLeDiff, Nat.reduceBEq, Nat.reduceLeDiff, Nat.reducePow, Int.reducePow, F18.t46_eq]
    first | done | rfl | exact ⟨rfl, rfl⟩
  by_cases h1 : n = 101
  · subst h1
    simp -dsimp -implicitDefEqProofs only [go_sem, ↓reduceIte, Nat.reduceEqDiff, reduceCtorEq, Nat.reduceAdd, Int.reduceMul, Int.reduceAdd, Int.reduceSub, Int.reduceLT, Int.reduceLE, Int.reduceEq, Int.reduceToNat, Int.reduceNeg, Nat.reduceLT, Nat.reduceDiv, Nat.reduceMod, Nat.reduceMul, Nat.reduceSub, Nat.reduceLeDiff, Nat.reduceBEq, Nat.reduceLeDiff, Nat.reducePow, Int.reducePow, F18.t46_eq]
    first | done | rfl | exact ⟨rfl, rfl⟩
  by_cases h2 : n = 102
  · subst h2
    simp -dsimp -implicitDefEqProofs only [go_sem, ↓reduceIte, Nat.reduceEqDiff, reduceCtorEq, Nat.reduceAdd, Int.reduceMul, Int.reduceAdd, Int.reduceSub, Int.reduceLT, Int.reduceLE, Int.reduceEq, Int.reduceToNat, Int.reduceNeg, Nat.reduceLT, Nat.reduceDiv, Nat.reduceMod, Nat.reduceMul, Nat.reduceSub, Nat.reduceLeDiff, Nat.reduceBEq, Nat.reduceLeDiff, Nat.reducePow, Int.reducePow, F18.t46_eq]
    first | done | rfl | exact ⟨rfl, rfl⟩
  by_cases h3 : n = 103
  · subst h3
    simp -dsimp -implicitDefEqProofs only [go_sem, ↓reduceIte, Nat.reduceEqDiff, reduceCtorEq, Nat.reduceAdd, Int.reduceMul, Int.reduceAdd, Int.reduceSub, Int.reduceLT, Int.reduceLE, Int.reduceEq, Int.reduceToNat, Int.reduceNeg, Nat.reduceLT, Nat.reduceDiv, Nat.reduceMod, Nat.reduceMul, Nat.reduceSub, Nat.reduceLeDiff, Nat.reduceBEq, Nat.reduceLeDiff, Nat.reducePow, Int.reducePow, F18.t46_eq]
    first | done | rfl | exact ⟨rfl, rfl⟩
  by_cases h4 : n = 110
  · subst h4
    simp -dsimp -implicitDefEqProofs only [go_sem, ↓reduceIte, Nat.reduceEqDiff, reduceCtorEq, Nat.reduceAdd, Int.reduceMul, Int.reduceAdd, Int.reduceSub, Int.reduceLT, Int.reduceLE, Int.reduceEq, Int.reduceToNat, Int.reduceNeg, Nat.reduceLT, Nat.reduceDiv, Nat.reduceMod, Nat.reduceMul, Nat.reduceSub, Nat.reduceLeDiff, Nat.reduceBEq, Nat.reduceLeDiff, Nat.reducePow, Int.reducePow, F18.t46_eq]
    first | done | rfl | exact ⟨rfl, rfl⟩
  by_cases h5 : n = 111
  · subst h5
    simp -dsimp -implicitDefEqProofs only [go_sem, ↓reduceIte, Nat.reduceEqDiff, reduceCtorEq, Nat.reduceAdd, Int.reduceMul, Int.reduceAdd, Int.reduceSub, Int.reduceLT, Int.reduceLE, Int.reduceEq, Int.reduceToNat, Int.reduceNeg, Nat.reduceLT, Nat.reduceDiv, Nat.reduceMod, Nat.reduceMul, Nat.reduceSub, Nat.reduceLeDiff, Nat.reduceBEq, Nat.reduceLeDiff, Nat.reducePow, Int.reducePow, F18.t46_eq]
    first | done | rfl | exact ⟨rfl, rfl⟩
  by_cases h6 : n = 112
  · subst h6
    simp -dsimp -implicitDefEqProofs only [go_sem, ↓reduceIte, Nat.reduceEqDiff, reduceCtorEq, Nat.reduceAdd, Int.reduceMul, Int.reduceAdd, Int.reduceSub, Int.reduceLT, Int.reduceLE, Int.reduceEq, Int.reduceToNat, Int.reduceNeg, Nat.reduceLT, Nat.reduceDiv, Nat.reduceMod, Nat.reduceMul, Nat.reduceSub, Nat.reduceLeDiff, Nat.reduceBEq, Nat.reduceLeDiff, Nat.reducePow, Int.reducePow, F18.t46_eq]
    first | done | rfl | exact ⟨rfl, rfl⟩
  by_cases h7 : n = 113
  · subst h7
    simp -dsimp -implicitDefEqProofs only [go_sem, ↓reduceIte, Nat.reduceEqDiff, reduceCtorEq, Nat.reduceAdd, Int.reduceMul, Int.reduceAdd, Int.reduceSub, Int.reduceLT, Int.reduceLE, Int.reduceEq, Int.reduceToNat, Int.reduceNeg, Nat.reduceLT, Nat.reduceDiv, Nat.reduceMod, Nat.reduceMul, Nat.reduceSub, Nat.reduceLeDiff, Nat.reduceBEq, Nat.reduceLeDiff, Nat.reducePow, Int.reducePow, F18.t46_eq]
    first | done | rfl | exact ⟨rfl, rfl⟩
  by_cases h8 : n = 114
  · subst h8
    simp -dsimp -implicitDefEqProofs only [go_sem, ↓reduceIte, Nat.reduceEqDiff, reduceCtorEq, Nat.reduceAdd, Int.reduceMul, Int.reduceAdd, Int.reduceSub, Int.reduceLT, Int.reduceLE, Int.reduceEq, Int.reduceToNat, Int.reduceNeg, Nat.reduceLT, Nat.reduceDiv, Nat.reduceMod, Nat.reduceMul, Nat.reduceSub, Nat.reduceLeDiff, Nat.reduceBEq, Nat.reduceLeDiff, Nat.reducePow, Int.reducePow, F18.t46_eq]
    first | done | rfl | exact ⟨rfl, rfl⟩
  by_cases h9 : n = 115
  · subst h9
    simp -dsimp -implicitDefEqProofs only [go_sem, ↓reduceIte, Nat.reduceEqDiff, reduceCtorEq, Nat.reduceAdd, Int.reduceMul, Int.reduceAdd, Int.reduceSub, Int.reduceLT, Int.reduceLE, Int.reduceEq, Int.reduceToNat, Int.reduceNeg, Nat.reduceLT, Nat.reduceDiv, Nat.reduceMod, Nat.reduceMul, Nat.reduceSub, Nat.reduceLeDiff, Nat.reduceBEq, Nat.reduceLeDiff, Nat.reducePow, Int.reducePow, F18.t46_eq]
    first | done | rfl | exact ⟨rfl, rfl⟩
  by_cases h10 : n = 116
  · subst h10
    simp -dsimp -implicitDefEqProofs only [go_sem, ↓reduceIte, Nat.reduceEqDiff, reduceCtorEq, Nat.reduceAdd, Int.reduceMul, Int.reduceAdd, Int.reduceSub, Int.reduceLT, Int.reduceLE, Int.reduceEq, Int.reduceToNat, Int.reduceNeg, Nat.reduceLT, Nat.reduceDiv, Nat.reduceMod, Nat.reduceMul, Nat.reduceSub, Nat.reduceLeDiff, Nat.reduceBEq, Nat.reduceLeDiff, Nat.reducePow, Int.reducePow, F18.t46_eq]
    first | done | rfl | exact ⟨rfl, rfl⟩
  by_cases h11 : n = 117
  · subst h11
    simp -dsimp -implicitDefEqProofs only [go_sem, ↓reduceIte, Nat.reduceEqDiff, reduceCtorEq, Nat.reduceAdd, Int.reduceMul, Int.reduceAdd, Int.reduceSub, Int.reduceLT, Int.reduceLE, Int.reduceEq, Int.reduceToNat, Int.reduceNeg, Nat.reduceLT, Nat.reduceDiv, Nat.reduceMod, Nat.reduceMul, Nat.reduceSub, Nat.reduceLeDiff, Nat.reduceBEq, Nat.reduceLeDiff, Nat.reducePow, Int.reducePow, F18.t46_eq]
    first | done | rfl | exact ⟨rfl, rfl⟩
  by_cases h12 : n = 118
  · subst h12
    simp -dsimp -implicitDefEqProofs only [go_sem, ↓reduceIte, Nat.reduceEqDiff, reduceCtorEq, Nat.reduceAdd, Int.reduceMul, Int.reduceAdd, Int.reduceSub, Int.reduceLT, Int.reduceLE, Int.reduceEq, Int.reduceToNat, Int.reduceNeg, Nat.reduceLT, Nat.reduceDiv, Nat.reduceMod, Nat.reduceMul, Nat.reduceSub, Nat.reduceLeDiff, Nat.reduceBEq, Nat.reduceLeDiff, Nat.reducePow, Int.reducePow, F18.t46_eq]
    first | done | rfl | exact ⟨rfl, rfl⟩
  by_cases h13 : n = 119
  · subst h13
    simp -dsimp -implicitDefEqProofs only [go_sem, ↓reduceIte, Nat.reduceEqDiff, reduceCtorEq, Nat.reduceAdd, Int.reduceMul, Int.reduceAdd, Int.reduceSub, Int.reduceLT, Int.reduceLE, Int.reduceEq, Int.reduceToNat, Int.reduceNeg, Nat.reduceLT, Nat.reduceDiv, Nat.reduceMod, Nat.reduceMul, Nat.reduceSub, Nat.reduceLeDiff, Nat.reduceBEq, Nat.reduceLeDiff, Nat.reducePow, Int.reducePow, F18.t46_eq]
    first | done | rfl | exact ⟨rfl, rfl⟩
  by_cases h14 : n = 120
  · subst h14
    simp -dsimp -implicitDefEqProofs only [go_sem, ↓reduceIte, Nat.reduceEqDiff, reduceCtorEq, Nat.reduceAdd, Int.reduceMul, Int.reduceAdd, Int.reduceSub, Int.reduceLT, Int.reduceLE, Int.reduceEq, Int.reduceToNat, Int.reduceNeg, Nat.reduceLT, Nat.reduceDiv, Nat.reduceMod, Nat.reduceMul, Nat.reduceSub, Nat.reduceLeDiff, Nat.reduceBEq, Nat.reduceLeDiff, Nat.reducePow, Int.reducePow, F18.t46_eq]
    first | done | rfl | exact ⟨rfl, rfl⟩
  by_cases h15 : n = 121
  · subst h15
    simp -dsimp -implicitDefEqProofs only [go_sem, ↓reduceIte, Nat.reduceEqDiff, reduceCtorEq, Nat.reduceAdd, Int.reduceMul, Int.reduceAdd, Int.reduceSub, Int.reduceLT, Int.reduceLE, Int.reduceEq, Int.reduceToNat, Int.reduceNeg, Nat.reduceLT, Nat.reduceDiv, Nat.reduceMod, Nat.reduceMul, Nat.reduceSub, Nat.reduceLeDiff, Nat.reduceBEq, Nat.reduceLeDiff, Nat.reducePow, Int.reducePow, F18.t46_eq]
    first | done | rfl | exact ⟨rfl, rfl⟩
  by_cases h16 : n = 122
  · subst h16
    simp -dsimp -implicitDefEqProofs only [go_sem, ↓reduceIte, Nat.reduceEqDiff, reduceCtorEq, Nat.reduceAdd, Int.reduceMul, Int.reduceAdd, Int.reduceSub, Int.reduceLT, Int.reduceLE, Int.reduceEq, Int.reduceToNat, Int.reduceNeg, Nat.reduceLT, Nat.reduceDiv, Nat.reduceMod, Nat.reduceMul, Nat.reduceSub, Nat.reduceLeDiff, Nat.reduceBEq, Nat.reduceLeDiff, Nat.reducePow, Int.reducePow, F18.t46_eq]
    first | done | rfl | exact ⟨rfl, rfl⟩
  by_cases h17 : n = 123
  · subst h17
    simp -dsimp -implicitDefEqProofs only [go_sem, ↓reduceIte, Nat.reduceEqDiff, reduceCtorEq, Nat.reduceAdd, Int.reduceMul, Int.reduceAdd, Int.reduceSub, Int.reduceLT, Int.reduceLE, Int.reduceEq, Int.reduceToNat, Int.reduceNeg, Nat.reduceLT, Nat.reduceDiv, Nat.reduceMod, Nat.reduceMul, Nat.reduceSub, Nat.reduceLeDiff, Nat.reduceBEq, Nat.reduceLeDiff, Nat.reducePow, Int.reducePow, F18.t46_eq]
    first | done | rfl | exact ⟨rfl, rfl⟩
  by_cases h18 : n = 140
  · subst h18
    simp -dsimp -implicitDefEqProofs only [go_sem, ↓reduceIte, Nat.reduceEqDiff, reduceCtorEq, Nat.reduceAdd, Int.reduceMul, Int.reduceAdd, Int.reduceSub, Int.reduceLT, Int.reduceLE, Int.reduceEq, Int.reduceToNat, Int.reduceNeg, Nat.reduceLT, Nat.reduceDiv, Nat.reduceMod, Nat.reduceMul, Nat.reduceSub, Nat.reduceLeDiff, Nat.reduceBEq, Nat.reduceLeDiff, Nat.reducePow, Int.reducePow, F18.t46_eq]
    first | done | rfl | exact ⟨rfl, rfl⟩
  by_cases h19 : n = 141
  · subst h19
    simp -dsimp -implicitDefEqProofs only [go_sem, ↓reduceIte, Nat.reduceEqDiff, reduceCtorEq, Nat.reduceAdd, Int.reduceMul, Int.reduceAdd, Int.reduceSub, Int.reduceLT, Int.reduceLE, Int.reduceEq, Int.reduceToNat, Int.reduceNeg, Nat.reduceLT, Nat.reduceDiv, Nat.reduceMod, Nat.reduceMul, Nat.reduceSub, Nat.reduceLeDiff, Nat.reduceBEq, Nat.reduceLeDiff, Nat.reducePow, Int.reducePow, F18.t46_eq]
    first | done | rfl | exact ⟨rfl, rfl⟩
  by_cases h20 : n = 180
  · subst h20
    simp -dsimp -implicitDefEqProofs only [go_sem, ↓reduceIte, Nat.reduceEqDiff, reduceCtorEq, Nat.reduceAdd, Int.reduceMul, Int.reduceAdd, Int.reduceSub, Int.reduceLT, Int.reduceLE, Int.reduceEq, Int.reduceToNat, Int.reduceNeg, Nat.reduceLT, Nat.reduceDiv, Nat.reduceMod, Nat.reduceMul, Nat.reduceSub, Nat.reduceLeDiff, Nat.reduceBEq, Nat.reduceLeDiff, Nat.reducePow, Int.reducePow, F18.t46_eq]
    first | done | rfl | exact ⟨rfl, rfl⟩
  by_cases h21 : n = 181
  · subst h21
    simp -dsimp -implicitDefEqProofs only [go_sem, ↓reduceIte, Nat.reduceEqDiff, reduceCtorEq, Nat.reduceAdd, Int.reduceMul, Int.reduceAdd, Int.reduceSub, Int.reduceLT, Int.reduceLE, Int.reduceEq, Int.reduceToNat, Int.reduceNeg, Nat.reduceLT, Nat.reduceDiv, Nat.reduceMod, Nat.reduceMul, Nat.reduceSub, Nat.reduceLeDiff, Nat.reduceBEq, Nat.reduceLeDiff, Nat.reducePow, Int.reducePow, F18.t46_eq]
    first | done | rfl | exact ⟨rfl, rfl⟩
  simp -dsimp -implicitDefEqProofs only [go_sem, ↓reduceIte, Nat.reduceEqDiff, reduceCtorEq, Nat.reduceAdd, Int.reduceMul, Int.reduceAdd, Int.reduceSub, Int.reduceLT, Int.reduceLE, Int.reduceEq, Int.reduceToNat, Int.reduceNeg, Nat.reduceLT, Nat.reduceDiv, Nat.reduceMod, Nat.reduceMul, Nat.reduceSub, Nat.reduceLeDiff, Nat.reduceBEq, Nat.reduceLeDiff, Nat.reducePow, Int.reducePow, F18.t46_eq, h0, h1, h2, h3, h4, h5, h6, h7, h8, h9, h10, h11, h12, h13, h14, h15, h16, h17, h18, h19, h20, h21]
  simp only [rLate, h0, h1, h2, h3, h4, h5, h6, h7, h8, h9, h10, h11, h12, h13, h14, h15, h16, h17, h18, h19, h20, h21, if_false]

end Go.Proofs.Ytjmebhcdkeiaeaa
