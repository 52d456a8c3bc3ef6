/- NamesBehind. -/
import Derived.Test.YtlnlomjdooobdaaDoorNlF
import Derived.Test.YtlnlomjdooobdaaDoorNaV
namespace Go.Proofs.YtlnlomjdooobdaaDoor
open Go
set_option linter.unusedVariables false
set_option linter.unusedSimpArgs false
set_option maxRecDepth 100000

section
attribute [local go_sem] F5.t16_eq F5.t14_eq F5.t10_eq F5.t8_eq F5.t4_eq
theorem namesBehind_any {w0 w : World} {A : HP} (h : St w0 A w) [Gives A Tabs] (p q a b : List UInt8) (hp : p.length ≤ 9223372036854775807) (hq : q.length ≤ 9223372036854775807) (ha : a.length ≤ 9223372036854775807) (hb : b.length ≤ 9223372036854775807) :
    Calls Tryd.prog 5 #[.string (strOf p), .string (strOf q), .string (strOf a), .string (strOf b)] w fun e w' => St w0 A w' ∧ e = .returned (.bool true) := by
  refine F5.calls (by simp) ?_
  unfold F5.code
  simp -dsimp -implicitDefEqProofs (disch := omega) only [go_sem, reqD_of, dec_t, dec_f, wrap_i64, wrap_u32, wrap_u64, wrap_u8]
  refine (awake_any h).mono ?_
  rintro e w1 ⟨h1, rfl⟩
  by_cases b1 : (268435456 : Int) < p.length
  · simp -dsimp -implicitDefEqProofs (disch := omega) only [go_sem, reqD_of, dec_t, dec_f, wrap_i64, wrap_u32, wrap_u64, wrap_u8, b1]; exact h1
  by_cases b2 : (268435456 : Int) < q.length
  · simp -dsimp -implicitDefEqProofs (disch := omega) only [go_sem, reqD_of, dec_t, dec_f, wrap_i64, wrap_u32, wrap_u64, wrap_u8, b1, b2]; exact h1
  by_cases b3 : (268435456 : Int) < a.length
  · simp -dsimp -implicitDefEqProofs (disch := omega) only [go_sem, reqD_of, dec_t, dec_f, wrap_i64, wrap_u32, wrap_u64, wrap_u8, b1, b2, b3]; exact h1
  by_cases b4 : (268435456 : Int) < b.length
  · simp -dsimp -implicitDefEqProofs (disch := omega) only [go_sem, reqD_of, dec_t, dec_f, wrap_i64, wrap_u32, wrap_u64, wrap_u8, b1, b2, b3, b4]; exact h1
  simp -dsimp -implicitDefEqProofs (disch := omega) only [go_sem, reqD_of, dec_t, dec_f, wrap_i64, wrap_u32, wrap_u64, wrap_u8, b1, b2, b3, b4]
  refine (match_any h1 (pat := p) (name := a) (by omega) (by omega)).mono ?_
  rintro e w2 ⟨h2, hx⟩
  have k1 : ∃ (x : Bool) (f : Int), (f = 0 ∧ matF p a = some x ∨ f = 52 ∧ x = false) ∧ e = .returned (.tuple #[.bool x, .int .i64 f]) := by
    rcases hx with ⟨x, hx, rfl⟩ | ⟨hx, rfl⟩
    · exact ⟨x, 0, .inl ⟨rfl, hx⟩, rfl⟩
    · exact ⟨false, 52, .inr ⟨rfl, rfl⟩, rfl⟩
  obtain ⟨x, f, hf, rfl⟩ := k1
  clear hx
  simp -dsimp -implicitDefEqProofs (disch := omega) only [go_sem, reqD_of, dec_t, dec_f, wrap_i64, wrap_u32, wrap_u64, wrap_u8]
  refine (match_any h2 (pat := q) (name := b) (by omega) (by omega)).mono ?_
  rintro e w3 ⟨h3, hy⟩
  have k2 : ∃ (y : Bool) (g : Int), (g = 0 ∧ matF q b = some y ∨ g = 52 ∧ y = false) ∧ e = .returned (.tuple #[.bool y, .int .i64 g]) := by
    rcases hy with ⟨y, hy, rfl⟩ | ⟨hy, rfl⟩
    · exact ⟨y, 0, .inl ⟨rfl, hy⟩, rfl⟩
    · exact ⟨false, 52, .inr ⟨rfl, rfl⟩, rfl⟩
  obtain ⟨y, g, hg, rfl⟩ := k2
  clear hy
  rcases hf with ⟨rfl, hx⟩ | ⟨rfl, rfl⟩
  case inr =>
    rcases hg with ⟨rfl, hy⟩ | ⟨rfl, rfl⟩ <;> simp -dsimp -implicitDefEqProofs (disch := omega) only [go_sem, reqD_of, dec_t, dec_f, wrap_i64, wrap_u32, wrap_u64, wrap_u8] <;> exact h3
  rcases hg with ⟨rfl, hy⟩ | ⟨rfl, rfl⟩
  case inr => simp -dsimp -implicitDefEqProofs (disch := omega) only [go_sem, reqD_of, dec_t, dec_f, wrap_i64, wrap_u32, wrap_u64, wrap_u8]; exact h3
  simp -dsimp -implicitDefEqProofs (disch := omega) only [go_sem, reqD_of, dec_t, dec_f, wrap_i64, wrap_u32, wrap_u64, wrap_u8]
  refine (match_any h3 (pat := [42]) (name := a) (by simp) (by omega)).mono ?_
  rintro e w4 ⟨h4, hs⟩
  rw [mat_star] at hs
  rcases hs with ⟨s, hs, rfl⟩ | ⟨hs, _⟩
  case inr => cases hs
  obtain rfl := Option.some.inj hs
  simp -dsimp -implicitDefEqProofs (disch := omega) only [go_sem, reqD_of, dec_t, dec_f, wrap_i64, wrap_u32, wrap_u64, wrap_u8]
  refine (refGood_any h4 a (by omega)).mono ?_
  rintro e w5 ⟨h5, rfl⟩
  have rr : (good a == good a) = true := by cases good a <;> rfl
  cases x
  · simp -dsimp -implicitDefEqProofs (disch := omega) only [go_sem, reqD_of, dec_t, dec_f, wrap_i64, wrap_u32, wrap_u64, wrap_u8, rr]; exact h5
  cases y
  · simp -dsimp -implicitDefEqProofs (disch := omega) only [go_sem, reqD_of, dec_t, dec_f, wrap_i64, wrap_u32, wrap_u64, wrap_u8, rr]; exact h5
  by_cases hl : (255 : Int) < p.length + q.length
  · simp -dsimp -implicitDefEqProofs (disch := omega) only [go_sem, reqD_of, dec_t, dec_f, wrap_i64, wrap_u32, wrap_u64, wrap_u8, rr, hl]; exact h5
  simp -dsimp -implicitDefEqProofs (disch := omega) only [go_sem, reqD_of, dec_t, dec_f, wrap_i64, wrap_u32, wrap_u64, wrap_u8, rr, hl]
  refine (match_any h5 (pat := p ++ q) (name := a ++ b) (by simp; omega) (by simp; omega)).mono ?_
  rintro e w6 ⟨h6, hz⟩
  rw [mat_append hx hy (by omega)] at hz
  rcases hz with ⟨z, hz, rfl⟩ | ⟨hz, _⟩
  case inr => cases hz
  obtain rfl := Option.some.inj hz
  simp -dsimp -implicitDefEqProofs (disch := omega) only [go_sem, reqD_of, dec_t, dec_f, wrap_i64, wrap_u32, wrap_u64, wrap_u8]
  exact h6
end
end Go.Proofs.YtlnlomjdooobdaaDoor
