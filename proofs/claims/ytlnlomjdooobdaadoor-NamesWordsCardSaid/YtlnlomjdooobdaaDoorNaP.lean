/- The program is awake. -/
import Derived.Test.YtlnlomjdooobdaaDoorNaO
namespace Go.Proofs.YtlnlomjdooobdaaDoor
open Go
set_option linter.unusedVariables false
set_option linter.unusedSimpArgs false
set_option maxRecDepth 100000

theorem aw1 : cleanF [47, 97, 47, 46, 47, 98, 47, 46, 46, 47, 99] = some [47, 97, 47, 99] := by decide +kernel
theorem aw2 : matF [42, 46, 91, 99, 104, 93] [109, 97, 105, 110, 46, 99] = some true := by decide +kernel
theorem aw3 : wordsF [97, 32, 39, 98, 32, 99, 39] = some [[97], [98, 32, 99]] := by decide +kernel


theorem awake_any {w0 w : World} {A : HP} (h : St w0 A w) [Gives A Tabs] :
    Calls Tryd.prog 10 #[] w fun e w' => St w0 A w' ∧ e = .returned (.bool true) := by
  refine F10.calls (by simp) ?_
  unfold F10.code
  simp -dsimp -implicitDefEqProofs (disch := omega) only [go_sem, reqD_of, dec_t, dec_f, wrap_i64, wrap_u32, wrap_u64, wrap_u8]
  refine (clean_any h (l := [47, 97, 47, 46, 47, 98, 47, 46, 46, 47, 99]) (by decide)).mono ?_
  rintro e w1 (⟨s, hs, h1, rfl⟩ | ⟨hs, _⟩)
  case inr => rw [aw1] at hs; cases hs
  rw [aw1] at hs
  obtain rfl := Option.some.inj hs
  simp -dsimp -implicitDefEqProofs (disch := omega) only [go_sem, reqD_of, dec_t, dec_f, wrap_i64, wrap_u32, wrap_u64, wrap_u8]
  refine (match_any h1 (pat := [42, 46, 91, 99, 104, 93]) (name := [109, 97, 105, 110, 46, 99]) (by decide) (by decide)).mono ?_
  rintro e w2 ⟨h2, ⟨b, hb, rfl⟩ | ⟨hb, _⟩⟩
  case inr => rw [aw2] at hb; cases hb
  rw [aw2] at hb
  obtain rfl := Option.some.inj hb
  simp -dsimp -implicitDefEqProofs (disch := omega) only [go_sem, reqD_of, dec_t, dec_f, wrap_i64, wrap_u32, wrap_u64, wrap_u8]
  refine (words_any h2 (l := [97, 32, 39, 98, 32, 99, 39]) (by decide)).mono ?_
  rintro e w3 (⟨ws, v, hw, h3, rfl⟩ | ⟨hw, _⟩)
  case inr => rw [aw3] at hw; cases hw
  rw [aw3] at hw
  obtain rfl := Option.some.inj hw
  obtain ⟨a, c, rfl, _⟩ := h3.rowForm v
  obtain ⟨b, o, rfl, c1⟩ := h3.atS (a := a) (n := 2) (c := c) (xs := [[97], [98, 32, 99]].map sv) (k := 1) (by decide)
  have c1 : w3.cell? ⟨b, o + 1, none⟩ = some (sv [98, 32, 99]) := c1
  have l2 : ([[97], [98, 32, 99]] : List (List UInt8)).length = 2 := rfl
  have d1 : decide (([47, 97, 47, 99] : List UInt8) = [47, 97, 47, 99]) = true := by decide
  have d2 : decide (([98, 32, 99] : List UInt8) = [98, 32, 99]) = true := by decide
  simp -dsimp -implicitDefEqProofs (disch := omega) only [go_sem, reqD_of, dec_t, dec_f, wrap_i64, wrap_u32, wrap_u64, wrap_u8, c1, l2, d1, d2]
  exact h3.right

end Go.Proofs.YtlnlomjdooobdaaDoor
