/- The walk of the sentence FrameNames. -/
import Derived.Test.YtfamclpajjnfbaaFrC
namespace Go.Proofs.Ytfamclpajjnfbaa
open Go
set_option linter.unusedSimpArgs false
set_option linter.unusedVariables false
set_option maxRecDepth 100000

/-- A row of one's own bytes reads as these bytes. -/
theorem Row.rdB {v : Value} {n : Nat} {bs : List UInt8} {F : HP} (hn : n = bs.length) : Ent (Row 5 1 v n (bs.map bv) * F) (RdB v bs) := by
  subst hn
  exact (Ent.left _ _).trans (Row.reads _ _ _ _ _)

def bsA : List UInt8 := [7, 0, 0, 0, 120, 1, 0, 8]
def bsB : List UInt8 := [8]
def bsC : List UInt8 := [7, 0, 0, 0, 120, 1, 0]

theorem Cut.ok_new (n : Nat) : (Cut.new n).ok := ⟨by simp [Cut.new], fun _ => ⟨rfl, rfl⟩, by simp [Cut.new], by simp [Cut.new], by simp [Cut.new]⟩

def cA : Cut := { limit := 512, b0 := 7, b1 := 0, b2 := 0, b3 := 0, heads := 4, body := [120, 1, 0], ever := 7, taken := 0, dead := false, ahead := 0 }
theorem fedA : (Cut.new 512).feed bsA = (7, cA) := rfl
theorem fedB : cA.feed bsB = (0, cA) := rfl
theorem okA : cA.ok := ⟨by decide, by decide, by decide, by decide, by decide⟩
def cN : Cut := { limit := 512, b0 := 7, b1 := 0, b2 := 0, b3 := 0, heads := 0, body := [], ever := 7, taken := 1, dead := false, ahead := 0 }
def cB : Cut := { limit := 512, b0 := 8, b1 := 0, b2 := 0, b3 := 0, heads := 1, body := [], ever := 8, taken := 1, dead := false, ahead := 0 }
theorem nextA : cA.next = cN := rfl
theorem okN : cN.ok := ⟨by decide, by decide, by decide, by decide, by decide⟩
theorem fedN : cN.feed bsB = (1, cB) := rfl

section
attribute [local go_sem] F9.t4_eq
theorem known_any {w0 w : World} {F : HP} (h : St w0 F w) :
    Calls Try.prog 9 #[] w fun e w' => St w0 F w' ∧ e = .returned (.bool true) := by
  refine F9.calls (by simp) ?_
  unfold F9.code
  simp -dsimp -implicitDefEqProofs (disch := omega) only [go_sem, reqD_of, dec_t, dec_f, wrap_i64, wrap_u32, wrap_u64, wrap_u8]
  have hx := new_yes (n := 512) h (by simp [okLimit])
  simp only [Int.cast_ofNat_Int] at hx
  refine hx.mono ?_
  clear hx
  rintro e w' ⟨c, h1, rfl⟩
  simp -dsimp -implicitDefEqProofs (disch := omega) only [go_sem, reqD_of, dec_t, dec_f, wrap_i64, wrap_u32, wrap_u64, wrap_u8]

  refine h1.buildSlice (s := 1) fact_rowTy_35 (cells := bsA.map bv) rfl (by decide) (by decide) fun v1 w1 h2 => ?_
  simp -dsimp -implicitDefEqProofs (disch := omega) only [go_sem, reqD_of, dec_t, dec_f, wrap_i64, wrap_u32, wrap_u64, wrap_u8]
  refine (feed_any h2.sw2 ((Ent.rfl' _).trans (Row.rdB (by rfl))) (Cut.ok_new 512) (by decide) (by decide)).mono ?_
  rintro e w' ⟨h3, rfl⟩
  rw [fedA] at h3 ⊢
  have h3 := h3.drop2
  simp -dsimp -implicitDefEqProofs (disch := omega) only [go_sem, reqD_of, dec_t, dec_f, wrap_i64, wrap_u32, wrap_u64, wrap_u8]
  refine (whole_any h3 (by decide)).mono ?_
  rintro e w' ⟨h4, rfl⟩
  rw [show cA.whole = true from rfl]
  simp -dsimp -implicitDefEqProofs (disch := omega) only [go_sem, reqD_of, dec_t, dec_f, wrap_i64, wrap_u32, wrap_u64, wrap_u8]
  refine h4.buildSlice (s := 1) fact_rowTy_35 (cells := bsB.map bv) rfl (by decide) (by decide) fun v2 w2 h5 => ?_
  simp -dsimp -implicitDefEqProofs (disch := omega) only [go_sem, reqD_of, dec_t, dec_f, wrap_i64, wrap_u32, wrap_u64, wrap_u8]
  refine (feed_any h5.sw2 ((Ent.rfl' _).trans (Row.rdB (by rfl))) okA (by decide) (by decide)).mono ?_
  rintro e w' ⟨h6, rfl⟩
  rw [fedB] at h6 ⊢
  have h6 := h6.drop2
  simp -dsimp -implicitDefEqProofs (disch := omega) only [go_sem, reqD_of, dec_t, dec_f, wrap_i64, wrap_u32, wrap_u64, wrap_u8]
  refine (next_yes h6 (by decide) (by decide) (by decide)).mono ?_
  rintro e w' ⟨v3, h7, rfl⟩
  rw [nextA] at h7
  simp -dsimp -implicitDefEqProofs (disch := omega) only [go_sem, reqD_of, dec_t, dec_f, wrap_i64, wrap_u32, wrap_u64, wrap_u8]
  refine h7.buildSlice (s := 1) fact_rowTy_35 (cells := bsC.map bv) rfl (by decide) (by decide) fun v4 w4 h8 => ?_
  simp -dsimp -implicitDefEqProofs (disch := omega) only [go_sem, reqD_of, dec_t, dec_f, wrap_i64, wrap_u32, wrap_u64, wrap_u8]
  refine (same_any h8 (xs := bsC) (ys := bsC) ((Ent.right _ _).trans ((Ent.right _ _).trans (Row.rdB (by rfl)))) (Row.rdB (by rfl)) (by decide)).mono ?_
  rintro e w' ⟨h9, rfl⟩
  simp -dsimp -implicitDefEqProofs (disch := omega) only [go_sem, reqD_of, dec_t, dec_f, wrap_i64, wrap_u32, wrap_u64, wrap_u8]
  refine h9.right.buildSlice (s := 1) fact_rowTy_35 (cells := bsB.map bv) rfl (by decide) (by decide) fun v5 w5 h10 => ?_
  simp -dsimp -implicitDefEqProofs (disch := omega) only [go_sem, reqD_of, dec_t, dec_f, wrap_i64, wrap_u32, wrap_u64, wrap_u8]
  refine (feed_any h10.sw2 ((Ent.rfl' _).trans (Row.rdB (by rfl))) okN (by decide) (by decide)).mono ?_
  rintro e w' ⟨h11, rfl⟩
  rw [fedN] at h11 ⊢
  simp -dsimp -implicitDefEqProofs (disch := omega) only [go_sem, reqD_of, dec_t, dec_f, wrap_i64, wrap_u32, wrap_u64, wrap_u8]
  refine (want_any h11 (by decide)).mono ?_
  rintro e w' ⟨h12, rfl⟩
  rw [show (if cB.dead = true then 0 else if cB.heads < 4 then 4 - (cB.heads : Int) else (cB.size : Int) - 4 - (cB.body.length : Int)) = 3 from rfl]
  simp -dsimp -implicitDefEqProofs (disch := omega) only [go_sem, reqD_of, dec_t, dec_f, wrap_i64, wrap_u32, wrap_u64, wrap_u8]
  refine (taken_any h12).mono ?_
  rintro e w' ⟨h13, rfl⟩
  rw [show cB.taken = 1 from rfl]
  simp -dsimp -implicitDefEqProofs (disch := omega) only [go_sem, reqD_of, dec_t, dec_f, wrap_i64, wrap_u32, wrap_u64, wrap_u8]
  exact h13.right.right.right

end

theorem names_any {w0 w : World} {F : HP} (h : St w0 F w) :
    Calls Try.prog 3 #[] w fun e w' => St w0 F w' ∧ e = .returned (.bool true) := by
  refine F3.calls (by simp) ?_
  unfold F3.code
  simp -dsimp -implicitDefEqProofs (disch := omega) only [go_sem, reqD_of, dec_t, dec_f, wrap_i64, wrap_u32, wrap_u64, wrap_u8]
  refine (known_any h).mono ?_
  rintro e w' ⟨h1, rfl⟩
  simp -dsimp -implicitDefEqProofs (disch := omega) only [go_sem, reqD_of, dec_t, dec_f, wrap_i64, wrap_u32, wrap_u64, wrap_u8]
  exact h1

theorem St.below0 {w0 w : World} (h : St w0 (Old w0) w) : RowKit.Below w0.heap.size w0 w := by
  refine ⟨h.os, h.tape, h.output, h.size, fun k hk => ?_⟩
  obtain ⟨x, l, a⟩ := h.sat
  have := l k _ (a k _ (Array.getElem?_eq_getElem hk))
  rw [Array.getElem?_eq_getElem hk]
  exact this

end Go.Proofs.Ytfamclpajjnfbaa
