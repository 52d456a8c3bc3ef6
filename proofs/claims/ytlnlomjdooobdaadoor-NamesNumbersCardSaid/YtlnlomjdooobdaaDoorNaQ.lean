/- NamesNumbers. -/
import Derived.Test.YtlnlomjdooobdaaDoorNaP
namespace Go.Proofs.YtlnlomjdooobdaaDoor
open Go
set_option linter.unusedVariables false
set_option linter.unusedSimpArgs false

theorem namesNumbers_any {w0 w : World} {A : HP} (h : St w0 A w) [Gives A Tabs] :
    Calls Tryd.prog 3 #[] w fun e w' => St w0 A w' ∧ e = .returned (.bool true) := by
  refine F3.calls (by simp) ?_
  unfold F3.code
  simp -dsimp -implicitDefEqProofs (disch := omega) only [go_sem, reqD_of, dec_t, dec_f, wrap_i64, wrap_u32, wrap_u64, wrap_u8]
  refine (awake_any h).mono fun e w1 ⟨h1, he⟩ => ?_
  subst he
  simp -dsimp -implicitDefEqProofs (disch := omega) only [go_sem, reqD_of, dec_t, dec_f, wrap_i64, wrap_u32, wrap_u64, wrap_u8]
  exact h1
end Go.Proofs.YtlnlomjdooobdaaDoor
