/- LocksCompares: Compare is the document's, and an order. -/
import Derived.Test.YtacmnfpgimgigaaLkH
namespace Go.Proofs.Ytacmnfpgimgigaa
open Go
set_option linter.unusedSimpArgs false
set_option linter.unusedVariables false
set_option maxRecDepth 100000

/-- The three locks in memory. -/
def ThreeP (A B C : Nat) (a b c : Nam) : HP := Blk A (.cells (namC a).toArray 26 (0, 0)) * (Blk B (.cells (namC b).toArray 26 (0, 0)) * Blk C (.cells (namC c).toArray 26 (0, 0)))
theorem ThreeP.a {w0 w : World} {A B C : Nat} {a b c : Nam} {F : HP} (h : St w0 (ThreeP A B C a b c * F) w) (i : Nat) : w.cell? ⟨A, i, none⟩ = (#[.int .u8 a.1, .int .i64 a.2.1, .int .u64 a.2.2] : Array Value)[i]? :=
  (h.ac (show _ = Blk A (.cells #[.int .u8 a.1, .int .i64 a.2.1, .int .u64 a.2.2] 26 (0, 0)) * (Blk B (.cells (namC b).toArray 26 (0, 0)) * (Blk C (.cells (namC c).toArray 26 (0, 0)) * F)) by unfold ThreeP namC; ac_rfl)).cells i
theorem ThreeP.b {w0 w : World} {A B C : Nat} {a b c : Nam} {F : HP} (h : St w0 (ThreeP A B C a b c * F) w) (i : Nat) : w.cell? ⟨B, i, none⟩ = (#[.int .u8 b.1, .int .i64 b.2.1, .int .u64 b.2.2] : Array Value)[i]? :=
  (h.ac (show _ = Blk B (.cells #[.int .u8 b.1, .int .i64 b.2.1, .int .u64 b.2.2] 26 (0, 0)) * (Blk A (.cells (namC a).toArray 26 (0, 0)) * (Blk C (.cells (namC c).toArray 26 (0, 0)) * F)) by unfold ThreeP namC; ac_rfl)).cells i
theorem ThreeP.c {w0 w : World} {A B C : Nat} {a b c : Nam} {F : HP} (h : St w0 (ThreeP A B C a b c * F) w) (i : Nat) : w.cell? ⟨C, i, none⟩ = (#[.int .u8 c.1, .int .i64 c.2.1, .int .u64 c.2.2] : Array Value)[i]? :=
  (h.ac (show _ = Blk C (.cells #[.int .u8 c.1, .int .i64 c.2.1, .int .u64 c.2.2] 26 (0, 0)) * (Blk A (.cells (namC a).toArray 26 (0, 0)) * (Blk B (.cells (namC b).toArray 26 (0, 0)) * F)) by unfold ThreeP namC; ac_rfl)).cells i

section
attribute [local go_sem] F4.t9_eq F4.t7_eq
theorem compares_end {w0 w : World} {A B C : Nat} {a b c : Nam} {F : HP} {e : FA} (h : St w0 (ThreeP A B C a b c * F) w) (hd : e.ds = []) (e3 : e.ρ 3 = .pointer (some ⟨A, 0, none⟩)) (e4 : e.ρ 4 = .pointer (some ⟨B, 0, none⟩)) (e7 : e.ρ 7 = .bool true) (e8 : e.ρ 8 = .int .i64 (cmpN a b)) :
    cwE Try.prog F4.t9 (fnP Try.prog #[.tmp 6] fun e w' => St w0 F w' ∧ e = .returned (.bool true)) e w := by
  have hA := ThreeP.a h
  have hB := ThreeP.b h
  have hneg : cmpN b a = 0 - cmpN a b := by
    have h1 := cmpN_cases a b
    have h2 := cmpN_cases b a
    omega
  have hbd : -1 ≤ cmpN a b ∧ cmpN a b ≤ 1 := by have h1 := cmpN_cases a b; omega
  rw [F4.t9_eq]
  simp -dsimp -implicitDefEqProofs (disch := omega) only [go_sem, reqD_of, dec_t, dec_f, wrap_i64, wrap_u32, wrap_u64, wrap_u8, hd, e3, e4, e7, e8, hA, hB]
  refine (compare_any (a := b) (b := a) h).mono ?_
  rintro e' w1 ⟨h1, rfl⟩
  have hA1 := ThreeP.a h1
  have hB1 := ThreeP.b h1
  simp -dsimp -implicitDefEqProofs (disch := omega) only [go_sem, reqD_of, dec_t, dec_f, wrap_i64, wrap_u32, wrap_u64, wrap_u8, hd, e3, e4, e7, e8, hA1, hB1, hneg, decide_true]
  refine ⟨h1.right, ?_⟩
  have := cmpN_cases a b
  rw [beq_iff_eq, Bool.eq_iff_iff]
  simp only [Bool.and_eq_true, decide_eq_true_eq]
  omega

end
section
attribute [local go_sem] F4.t7_eq
theorem compares_mid {w0 w : World} {A B C : Nat} {a b c : Nam} {F : HP} {e : FA} (h : St w0 (ThreeP A B C a b c * F) w) (hd : e.ds = []) (e3 : e.ρ 3 = .pointer (some ⟨A, 0, none⟩)) (e4 : e.ρ 4 = .pointer (some ⟨B, 0, none⟩)) (e7 : e.ρ 7 = .bool true)
    (e8 : e.ρ 8 = .int .i64 (cmpN a b)) (e9 : e.ρ 9 = .int .i64 (cmpN b c)) (e10 : e.ρ 10 = .int .i64 (cmpN a c)) :
    cwE Try.prog F4.t7 (fnP Try.prog #[.tmp 6] fun e w' => St w0 F w' ∧ e = .returned (.bool true)) e w := by
  rw [F4.t7_eq]
  have hab := cmpN_cases a b
  have hbc := cmpN_cases b c
  have hac := cmpN_cases a c
  have k1 : cmpN a b ≤ 0 → cmpN b c ≤ 0 → cmpN a c ≤ 0 := by omega
  have k2 : cmpN a b < 0 → cmpN b c ≤ 0 → cmpN a c < 0 := by omega
  clear hab hbc hac
  by_cases q1 : cmpN a b ≤ 0
  · by_cases q2 : cmpN b c ≤ 0
    · have q3 := k1 q1 q2
      have q3' : ¬ 0 < cmpN a c := by omega
      by_cases q4 : cmpN a b < 0
      · have q5 : ¬ 0 ≤ cmpN a c := by have := k2 q4 q2; omega
        simp -dsimp -implicitDefEqProofs (disch := omega) only [go_sem, reqD_of, dec_t, dec_f, wrap_i64, wrap_u32, wrap_u64, wrap_u8, hd, e3, e4, e7, e8, e9, e10, q1, q2, q3', q4, q5]
        exact compares_end h (by simp -dsimp -implicitDefEqProofs only [go_sem, hd]) (by simp -dsimp -implicitDefEqProofs only [go_sem, e3]) (by simp -dsimp -implicitDefEqProofs only [go_sem, e4]) (by simp -dsimp -implicitDefEqProofs only [go_sem, e7]) (by simp -dsimp -implicitDefEqProofs only [go_sem, e8])
      · simp -dsimp -implicitDefEqProofs (disch := omega) only [go_sem, reqD_of, dec_t, dec_f, wrap_i64, wrap_u32, wrap_u64, wrap_u8, hd, e3, e4, e7, e8, e9, e10, q1, q2, q3', q4]
        exact compares_end h (by simp -dsimp -implicitDefEqProofs only [go_sem, hd]) (by simp -dsimp -implicitDefEqProofs only [go_sem, e3]) (by simp -dsimp -implicitDefEqProofs only [go_sem, e4]) (by simp -dsimp -implicitDefEqProofs only [go_sem, e7]) (by simp -dsimp -implicitDefEqProofs only [go_sem, e8])
    · by_cases q4 : cmpN a b < 0
      · simp -dsimp -implicitDefEqProofs (disch := omega) only [go_sem, reqD_of, dec_t, dec_f, wrap_i64, wrap_u32, wrap_u64, wrap_u8, hd, e3, e4, e7, e8, e9, e10, q1, q2, q4]
        exact compares_end h (by simp -dsimp -implicitDefEqProofs only [go_sem, hd]) (by simp -dsimp -implicitDefEqProofs only [go_sem, e3]) (by simp -dsimp -implicitDefEqProofs only [go_sem, e4]) (by simp -dsimp -implicitDefEqProofs only [go_sem, e7]) (by simp -dsimp -implicitDefEqProofs only [go_sem, e8])
      · simp -dsimp -implicitDefEqProofs (disch := omega) only [go_sem, reqD_of, dec_t, dec_f, wrap_i64, wrap_u32, wrap_u64, wrap_u8, hd, e3, e4, e7, e8, e9, e10, q1, q2, q4]
        exact compares_end h (by simp -dsimp -implicitDefEqProofs only [go_sem, hd]) (by simp -dsimp -implicitDefEqProofs only [go_sem, e3]) (by simp -dsimp -implicitDefEqProofs only [go_sem, e4]) (by simp -dsimp -implicitDefEqProofs only [go_sem, e7]) (by simp -dsimp -implicitDefEqProofs only [go_sem, e8])
  · have q4 : ¬ cmpN a b < 0 := by omega
    simp -dsimp -implicitDefEqProofs (disch := omega) only [go_sem, reqD_of, dec_t, dec_f, wrap_i64, wrap_u32, wrap_u64, wrap_u8, hd, e3, e4, e7, e8, e9, e10, q1, q4]
    exact compares_end h (by simp -dsimp -implicitDefEqProofs only [go_sem, hd]) (by simp -dsimp -implicitDefEqProofs only [go_sem, e3]) (by simp -dsimp -implicitDefEqProofs only [go_sem, e4]) (by simp -dsimp -implicitDefEqProofs only [go_sem, e7]) (by simp -dsimp -implicitDefEqProofs only [go_sem, e8])

end
section
attribute [local go_sem] F4.t9_eq
theorem locksCompares_any {w0 w : World} {F : HP} {a b c : Nam} (h : St w0 F w) : Calls Try.prog 4 #[namV a, namV b, namV c] w fun e w' => St w0 F w' ∧ e = .returned (.bool true) := by
  refine F4.calls (by simp) ?_
  unfold F4.code
  simp -dsimp -implicitDefEqProofs (disch := omega) only [go_sem, reqD_of, dec_t, dec_f, wrap_i64, wrap_u32, wrap_u64, wrap_u8]
  refine h.new fun A w1 h1 => ?_
  simp -dsimp -implicitDefEqProofs (disch := omega) only [go_sem, reqD_of, dec_t, dec_f, wrap_i64, wrap_u32, wrap_u64, wrap_u8]
  refine h1.new fun B w2 h2 => ?_
  simp -dsimp -implicitDefEqProofs (disch := omega) only [go_sem, reqD_of, dec_t, dec_f, wrap_i64, wrap_u32, wrap_u64, wrap_u8]
  refine h2.new fun C w3 h3 => ?_
  have h4 : St w0 (ThreeP A B C a b c * F) w3 := h3.ac (show Blk C (.cells (namC c).toArray 26 (0, 0)) * (Blk B (.cells (namC b).toArray 26 (0, 0)) * (Blk A (.cells (namC a).toArray 26 (0, 0)) * F)) = _ by unfold ThreeP; ac_rfl)
  simp -dsimp -implicitDefEqProofs (disch := omega) only [go_sem, reqD_of, dec_t, dec_f, wrap_i64, wrap_u32, wrap_u64, wrap_u8]
  refine (known_any h4).mono ?_
  rintro e w4 ⟨h5, rfl⟩
  have a5 := ThreeP.a h5
  have b5 := ThreeP.b h5
  have c5 := ThreeP.c h5
  simp -dsimp -implicitDefEqProofs (disch := omega) only [go_sem, reqD_of, dec_t, dec_f, wrap_i64, wrap_u32, wrap_u64, wrap_u8, a5, b5, c5]
  refine (compare_any (a := a) (b := b) h5).mono ?_
  rintro e w5 ⟨h6, rfl⟩
  have a6 := ThreeP.a h6
  have b6 := ThreeP.b h6
  have c6 := ThreeP.c h6
  simp -dsimp -implicitDefEqProofs (disch := omega) only [go_sem, reqD_of, dec_t, dec_f, wrap_i64, wrap_u32, wrap_u64, wrap_u8, a6, b6, c6]
  refine (compare_any (a := b) (b := c) h6).mono ?_
  rintro e w6 ⟨h7, rfl⟩
  have a7 := ThreeP.a h7
  have b7 := ThreeP.b h7
  have c7 := ThreeP.c h7
  simp -dsimp -implicitDefEqProofs (disch := omega) only [go_sem, reqD_of, dec_t, dec_f, wrap_i64, wrap_u32, wrap_u64, wrap_u8, a7, b7, c7]
  refine (compare_any (a := a) (b := c) h7).mono ?_
  rintro e w7 ⟨h8, rfl⟩
  have a8 := ThreeP.a h8
  have b8 := ThreeP.b h8
  have c8 := ThreeP.c h8
  simp -dsimp -implicitDefEqProofs (disch := omega) only [go_sem, reqD_of, dec_t, dec_f, wrap_i64, wrap_u32, wrap_u64, wrap_u8, a8, b8, c8]
  refine (refCompare_any (a := a) (b := b) h8).mono ?_
  rintro e w8 ⟨h9, rfl⟩
  have a9 := ThreeP.a h9
  have b9 := ThreeP.b h9
  have c9 := ThreeP.c h9
  simp -dsimp -implicitDefEqProofs (disch := omega) only [go_sem, reqD_of, dec_t, dec_f, wrap_i64, wrap_u32, wrap_u64, wrap_u8, a9, b9, c9, decide_true]
  refine (refCompare_any (a := b) (b := c) h9).mono ?_
  rintro e w9 ⟨h10, rfl⟩
  have a10 := ThreeP.a h10
  have b10 := ThreeP.b h10
  have c10 := ThreeP.c h10
  simp -dsimp -implicitDefEqProofs (disch := omega) only [go_sem, reqD_of, dec_t, dec_f, wrap_i64, wrap_u32, wrap_u64, wrap_u8, a10, b10, c10, decide_true]
  refine (refCompare_any (a := a) (b := c) h10).mono ?_
  rintro e w10 ⟨h11, rfl⟩
  simp -dsimp -implicitDefEqProofs (disch := omega) only [go_sem, reqD_of, dec_t, dec_f, wrap_i64, wrap_u32, wrap_u64, wrap_u8, decide_true]
  exact compares_mid h11 (by simp -dsimp -implicitDefEqProofs only [go_sem]) (by simp -dsimp -implicitDefEqProofs only [go_sem]) (by simp -dsimp -implicitDefEqProofs only [go_sem]) (by simp -dsimp -implicitDefEqProofs only [go_sem]) (by simp -dsimp -implicitDefEqProofs only [go_sem]) (by simp -dsimp -implicitDefEqProofs only [go_sem]) (by simp -dsimp -implicitDefEqProofs only [go_sem])

end
end Go.Proofs.Ytacmnfpgimgigaa
