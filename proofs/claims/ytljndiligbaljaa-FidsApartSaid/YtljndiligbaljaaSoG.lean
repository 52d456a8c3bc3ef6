/- slices.Sort at uint32: breakPatterns. -/
import Derived.Test.YtljndiligbaljaaSoF
import Derived.Test.YtljndiligbaljaaLayB
import Derived.Sort.LotD1
namespace Go.Proofs.Ytljndiligbaljaa
open Go Go.Sort
set_option linter.unusedSimpArgs false
set_option linter.unusedVariables false
set_option maxRecDepth 100000

theorem bitLen_len (x : Nat) (h : x < 2 ^ 64) : Lib.bitLen x = bitsLen x := by
  induction x using Nat.strongRecOn with
  | _ x ih =>
    by_cases h0 : x = 0
    · subst h0; rfl
    · rw [Lib.bitLen_half x h0 h, ih (x / 2) (by omega) (by omega)]
      unfold bitsLen
      rw [if_neg h0, Nat.log2_def x]
      by_cases h2 : 2 ≤ x
      · rw [if_pos h2, if_neg (by omega)]; omega
      · have h1 : x = 1 := by omega
        subst h1
        simp
theorem bitsLen_any {w : World} {x : Nat} (h : x < 2 ^ 64) : Calls Try.prog 76 #[.int .u64 (x : Int)] w fun e w' => w' = w ∧ e = .returned (.int .i64 (bitsLen x : Nat)) := by
  refine (Go.Proofs.Any.bits_Len bitsLenL (x : Int) w (by omega) (by omega)).mono ?_
  rintro e w' ⟨rfl, rfl⟩
  refine ⟨rfl, ?_⟩
  rw [Int.toNat_natCast, bitLen_len x h]

/-! ### The random numbers -/
theorem wrap64 (n : Nat) : IntKind.u64.wrap (n : Int) = ((n % 18446744073709551616 : Nat) : Int) := by
  unfold IntKind.wrap
  have h1 : IntKind.u64.signed = false := rfl
  have h2 : IntKind.u64.bits = 64 := rfl
  simp only [h1, h2]
  simp only [Bool.false_and, Bool.false_eq_true, if_false]
  omega
theorem xorS (r s : UInt64) : IntKind.u64.wrap ((BitVec.ofInt 64 (r.toNat : Int) ^^^ BitVec.ofInt 64 (s.toNat : Int)).toNat : Int) = ((r ^^^ s).toNat : Int) := by
  rw [wrap64]
  congr 1
  have e1 : BitVec.ofInt 64 (r.toNat : Int) = r.toBitVec := by
    apply BitVec.eq_of_toNat_eq; simp
  have e2 : BitVec.ofInt 64 (s.toNat : Int) = s.toBitVec := by
    apply BitVec.eq_of_toNat_eq; simp
  rw [e1, e2]
  have : (r.toBitVec ^^^ s.toBitVec).toNat = (r ^^^ s).toNat := by simp
  rw [this, Nat.mod_eq_of_lt (UInt64.toNat_lt _)]
theorem shlS (r : UInt64) {k : Nat} (hk : k < 64) : IntKind.u64.wrap ((r.toNat : Int) * 2 ^ k) = ((r <<< (UInt64.ofNat k)).toNat : Int) := by
  have : (r.toNat : Int) * 2 ^ k = ((r.toNat * 2 ^ k : Nat) : Int) := by push_cast; rfl
  rw [this, wrap64]
  congr 1
  rw [UInt64.toNat_shiftLeft, Nat.shiftLeft_eq]
  have : (UInt64.ofNat k).toNat % 64 = k := by
    rw [UInt64.toNat_ofNat', Nat.mod_eq_of_lt (by omega)]; omega
  rw [this]
theorem shrS (r : UInt64) {k : Nat} (hk : k < 64) : Int.fdiv (r.toNat : Int) (2 ^ k) = ((r >>> (UInt64.ofNat k)).toNat : Int) := by
  rw [UInt64.toNat_shiftRight, Nat.shiftRight_eq_div_pow]
  have : (UInt64.ofNat k).toNat % 64 = k := by
    rw [UInt64.toNat_ofNat', Nat.mod_eq_of_lt (by omega)]; omega
  rw [this]
  have e2 : ((2 : Int) ^ k) = ((2 ^ k : Nat) : Int) := by push_cast; rfl
  rw [e2]
  exact Int.fdiv_eq_ediv_of_nonneg _ (Int.natCast_nonneg _)

theorem step13 (r : UInt64) : IntKind.u64.wrap ((BitVec.ofInt IntKind.u64.bits (r.toNat : Int) ^^^ BitVec.ofInt IntKind.u64.bits (IntKind.u64.wrap ((r.toNat : Int) * 8192))).toNat : Int) = ((r ^^^ (r <<< 13)).toNat : Int) := by
  have h := shlS r (k := 13) (by omega)
  rw [show ((r.toNat : Int) * 8192) = (r.toNat : Int) * 2 ^ 13 by omega, h]
  exact xorS r (r <<< 13)
theorem step7 (r : UInt64) : IntKind.u64.wrap ((BitVec.ofInt IntKind.u64.bits (r.toNat : Int) ^^^ BitVec.ofInt IntKind.u64.bits (Int.fdiv (r.toNat : Int) 128)).toNat : Int) = ((r ^^^ (r >>> 7)).toNat : Int) := by
  have h := shrS r (k := 7) (by omega)
  rw [show (128 : Int) = 2 ^ 7 by rfl, h]
  exact xorS r (r >>> 7)
theorem step17 (r : UInt64) : IntKind.u64.wrap ((BitVec.ofInt IntKind.u64.bits (r.toNat : Int) ^^^ BitVec.ofInt IntKind.u64.bits (IntKind.u64.wrap ((r.toNat : Int) * 131072))).toNat : Int) = ((r ^^^ (r <<< 17)).toNat : Int) := by
  have h := shlS r (k := 17) (by omega)
  rw [show ((r.toNat : Int) * 131072) = (r.toNat : Int) * 2 ^ 17 by omega, h]
  exact xorS r (r <<< 17)


theorem next_any {w0 w : World} {F : HP} {R : Nat} {r : UInt64} (h : St w0 (Blk R (.cells #[.int .u64 r.toNat] 122 (0, 0)) * F) w) :
    Calls Try.prog 90 #[.pointer (some ⟨R, 0, none⟩)] w fun e w' => St w0 (Blk R (.cells #[.int .u64 (xorNext r).toNat] 122 (0, 0)) * F) w' ∧ e = .returned (.int .u64 (xorNext r).toNat) := by
  refine F90.calls (by simp) ?_
  unfold F90.code
  have h1 := h.drew
  have c1 := h1.cl R
  simp -dsimp -implicitDefEqProofs (disch := omega) only [go_sem, reqD_of, dec_t, dec_f, wrap_i64, wrap_u32, wrap_u64, wrap_u8, c1]
  rw [step13]
  refine h1.sto (b := R) (off := 0) (by simp) rfl fun w2 h2 => ?_
  have h3 : St w0 (Blk R (.cells #[.int .u64 (r ^^^ (r <<< 13)).toNat] 122 (0, 0)) * F) w2.drew := h2.drew
  have c3 := h3.cl R
  generalize hr1 : r ^^^ (r <<< 13) = r1 at h3 c3
  simp -dsimp -implicitDefEqProofs (disch := omega) only [go_sem, reqD_of, dec_t, dec_f, wrap_i64, wrap_u32, wrap_u64, wrap_u8, c3]
  rw [step7]
  refine h3.sto (b := R) (off := 0) (by simp) rfl fun w4 h4 => ?_
  have h5 : St w0 (Blk R (.cells #[.int .u64 (r1 ^^^ (r1 >>> 7)).toNat] 122 (0, 0)) * F) w4.drew := h4.drew
  have c5 := h5.cl R
  generalize hr2 : r1 ^^^ (r1 >>> 7) = r2 at h5 c5
  simp -dsimp -implicitDefEqProofs (disch := omega) only [go_sem, reqD_of, dec_t, dec_f, wrap_i64, wrap_u32, wrap_u64, wrap_u8, c5]
  rw [step17]
  refine h5.sto (b := R) (off := 0) (by simp) rfl fun w6 h6 => ?_
  have h7 : St w0 (Blk R (.cells #[.int .u64 (r2 ^^^ (r2 <<< 17)).toNat] 122 (0, 0)) * F) w6 := h6
  have c7 := h7.cl R
  have hx : xorNext r = r2 ^^^ (r2 <<< 17) := by unfold xorNext; simp only [hr1, hr2]
  simp -dsimp -implicitDefEqProofs (disch := omega) only [go_sem, reqD_of, dec_t, dec_f, wrap_i64, wrap_u32, wrap_u64, wrap_u8, c7]
  rw [hx]
  exact ⟨h7, rfl⟩


theorem pow2_any {w0 w : World} {F : HP} {L : Nat} (h : St w0 F w) (hL : L < 4611686018427387904) :
    Calls Try.prog 89 #[.int .i64 L] w fun e w' => St w0 F w' ∧ e = .returned (.int .u64 ((2 ^ bitsLen L : Nat) : Int)) := by
  refine F89.calls (by simp) ?_
  unfold F89.code
  have hb : bitsLen L ≤ 62 := (bitsLen_le_iff L 62).2 (by omega)
  simp -dsimp -implicitDefEqProofs (disch := omega) only [go_sem, reqD_of, dec_t, dec_f, wrap_i64, wrap_u32, wrap_u64, wrap_u8]
  refine (bitsLen_any (x := L) (by omega)).mono ?_
  rintro e w1 ⟨rfl, rfl⟩
  have h0 : (0 : Int) ≤ (bitsLen L : Nat) := by omega
  have h1 : min (bitsLen L) 64 = bitsLen L := by omega
  have h2 : IntKind.u64.wrap (1 * 2 ^ bitsLen L) = ((2 ^ bitsLen L : Nat) : Int) := by
    have : (1 * 2 ^ bitsLen L : Int) = ((2 ^ bitsLen L : Nat) : Int) := by push_cast; omega
    rw [this, wrap64, Nat.mod_eq_of_lt]
    calc 2 ^ bitsLen L ≤ 2 ^ 62 := Nat.pow_le_pow_right (by omega) hb
      _ < 18446744073709551616 := by omega
  simp -dsimp -implicitDefEqProofs (disch := omega) only [go_sem, reqD_of, dec_t, dec_f, wrap_i64, wrap_u32, wrap_u64, wrap_u8, binV_shl h0]
  rw [if_pos (by omega), h2]
  exact ⟨h, rfl⟩

theorem andS (r : UInt64) {m : Nat} (hm : m < 18446744073709551616) : IntKind.u64.wrap ((BitVec.ofInt IntKind.u64.bits (r.toNat : Int) &&& BitVec.ofInt IntKind.u64.bits (m : Int)).toNat : Int) = ((r.toNat &&& m : Nat) : Int) := by
  rw [wrap64]
  congr 1
  have e1 : (BitVec.ofInt IntKind.u64.bits (r.toNat : Int)).toNat = r.toNat := by
    rw [BitVec.toNat_ofInt]
    have := UInt64.toNat_lt r
    have h2 : IntKind.u64.bits = 64 := rfl
    rw [h2]; omega
  have e2 : (BitVec.ofInt IntKind.u64.bits (m : Int)).toNat = m := by
    rw [BitVec.toNat_ofInt]
    have h2 : IntKind.u64.bits = 64 := rfl
    rw [h2]; omega
  rw [BitVec.toNat_and, e1, e2]
  exact Nat.mod_eq_of_lt (Nat.lt_of_le_of_lt Nat.and_le_right hm)

def bpIt (a L M i0 : Nat) (d : Array Int) : Nat → UInt64 × Array Int
  | 0 => (UInt64.ofNat L, d)
  | t + 1 => breakStep a L M (bpIt a L M i0 d t) (i0 + t)
theorem bpIt_eq {d : Array Int} {a b : Nat} (h : b - a ≥ 8) : breakPatterns d a b = (bpIt a (b - a) (1 <<< bitsLen (b - a)) (a + (b - a) / 4 * 2 - 1) d 3).2 := by
  unfold breakPatterns
  simp only [if_pos h]
  rfl

section
attribute [local go_sem] F79.t6_eq F79.t7_eq
theorem break7 {w0 w : World} {F : HP} {g o n c a b t R : Nat} {d : Array Int} {r : UInt64} {Q : Post} {e : FA} {θ : Tag (F79.t7, Q, e, w)} (h : St w0 (Blk R (.cells #[.int .u64 r.toNat] 122 (0, 0)) * (SoP g o n c d * F)) w) (hb : b ≤ n) (h8 : 8 ≤ b - a) (ht : t < 3) (hn : n < 2305843009213693951)
    (hd : e.ds = []) (e0 : e.ρ 0 = soV g o n c) (e1 : e.ρ 1 = .int .i64 a) (e6 : e.ρ 6 = .int .i64 ((b - a : Nat) : Int)) (e7 : e.ρ 7 = .pointer (some ⟨R, 0, none⟩)) (e8 : e.ρ 8 = .int .u64 ((2 ^ bitsLen (b - a) : Nat) : Int)) (e9 : e.ρ 9 = .int .i64 ((a + (b - a) / 4 * 2 - 1 + t : Nat) : Int))
    (hQ : ∀ (e' : FA) (w' : World), e'.ds = [] → e'.ρ 0 = soV g o n c → e'.ρ 1 = .int .i64 a → e'.ρ 6 = .int .i64 ((b - a : Nat) : Int) → e'.ρ 7 = .pointer (some ⟨R, 0, none⟩) → e'.ρ 8 = .int .u64 ((2 ^ bitsLen (b - a) : Nat) : Int) → e'.ρ 9 = .int .i64 ((a + (b - a) / 4 * 2 - 1 + t : Nat) + 1 : Int) →
      St w0 (Blk R (.cells #[.int .u64 (breakStep a (b - a) (1 <<< bitsLen (b - a)) (r, d) (a + (b - a) / 4 * 2 - 1 + t)).1.toNat] 122 (0, 0)) * (SoP g o n c (breakStep a (b - a) (1 <<< bitsLen (b - a)) (r, d) (a + (b - a) / 4 * 2 - 1 + t)).2 * F)) w' → Q .normal e' w') :
    cwE Try.prog F79.t7 Q e w θ := by
  have hp1 : 2 ^ bitsLen (b - a) ≤ 2 * (b - a) := two_pow_bitsLen_le (by omega)
  have hp0 : 0 < 2 ^ bitsLen (b - a) := Nat.pow_pos (by omega)
  have hsh : 1 <<< bitsLen (b - a) = 2 ^ bitsLen (b - a) := Nat.one_shiftLeft _
  rw [hsh] at hQ
  generalize 2 ^ bitsLen (b - a) = M at hQ e8 hp0 hp1
  generalize hI : a + (b - a) / 4 * 2 - 1 + t = I at hQ e9
  generalize hL : b - a = L at *
  rw [F79.t7_eq]
  simp -dsimp -implicitDefEqProofs (disch := omega) only [go_sem, reqD_of, dec_t, dec_f, wrap_i64, wrap_u32, wrap_u64, wrap_u8, hd, e0, e1, e6, e7, e8, e9]
  refine (next_any h).mono ?_
  rintro e' w1 ⟨h1, rfl⟩
  have hM1 : (M : Int) - 1 = ((M - 1 : Nat) : Int) := by omega
  have hand : (xorNext r).toNat &&& (M - 1) ≤ M - 1 := Nat.and_le_right
  simp -dsimp -implicitDefEqProofs (disch := omega) only [go_sem, reqD_of, dec_t, dec_f, wrap_i64, wrap_u32, wrap_u64, wrap_u8, hd, e0, e1, e6, e7, e8, e9, hM1, andS (xorNext r) (show M - 1 < 18446744073709551616 by omega)]
  have hst : ∀ other, other = (if (xorNext r).toNat &&& (M - 1) ≥ L then ((xorNext r).toNat &&& (M - 1)) - L else (xorNext r).toNat &&& (M - 1)) → breakStep a L M (r, d) I = (xorNext r, swp d I (a + other)) := fun other ho => by subst ho; rfl
  generalize (xorNext r).toNat &&& (M - 1) = X at *
  have tail : ∀ {Q : Post} {e' : FA} {θ : Tag (F79.t10, Q, e', w1)} (other : Nat), other < L → other = (if X ≥ L then X - L else X) → e'.ρ 0 = soV g o n c → e'.ρ 1 = .int .i64 a → e'.ρ 9 = .int .i64 (I : Int) → e'.ρ 10 = .int .i64 (other : Int) →
      (∀ (e'' : FA) (w'' : World), e''.ds = e'.ds → (∀ k, k < 11 → e''.ρ k = e'.ρ k) → St w0 (Blk R (.cells #[.int .u64 (breakStep a L M (r, d) I).1.toNat] 122 (0, 0)) * (SoP g o n c (breakStep a L M (r, d) I).2 * F)) w'' → Q .normal e'' w'') → cwE Try.prog F79.t10 Q e' w1 θ := by
    intro Q e' θ other hlt ho f0 f1 f9 f10 hq
    rw [hst other ho] at hq
    rw [F79.t10_eq]
    have h3 : St w0 (SoP g o n c d * (Blk R (.cells #[.int .u64 (xorNext r).toNat] 122 (0, 0)) * F)) w1.drew := h1.drew.sw2
    have hIn : I < n := by omega
    have c0 := SoP.get h3 (i := I) hIn
    have c1 := SoP.get h3 (i := a + other) (by omega)
    have i1 : (a : Int) + other = ((a + other : Nat) : Int) := by omega
    simp -dsimp -implicitDefEqProofs (disch := omega) only [go_sem, reqD_of, dec_t, dec_f, wrap_i64, wrap_u32, wrap_u64, wrap_u8, f0, f1, f9, f10, i1, c0, c1]
    refine SoP.set h3 (i := I) hIn fun w4 h4 => ?_
    simp -dsimp -implicitDefEqProofs (disch := omega) only [go_sem, reqD_of, dec_t, dec_f, wrap_i64, wrap_u32, wrap_u64, wrap_u8, f0, f1, f9, f10, i1]
    refine SoP.set h4 (i := a + other) (by omega) fun w5 h5 => ?_
    have h5' : St w0 (SoP g o n c (swp d I (a + other)) * (Blk R (.cells #[.int .u64 (xorNext r).toNat] 122 (0, 0)) * F)) w5 := h5
    simp -dsimp -implicitDefEqProofs (disch := omega) only [go_sem, reqD_of, dec_t, dec_f, wrap_i64, wrap_u32, wrap_u64, wrap_u8]
    refine hq _ _ (by simp -dsimp -implicitDefEqProofs only [go_sem]) (fun k hk => ?_) h5'.sw2
    have hk' : k = 0 ∨ k = 1 ∨ k = 2 ∨ k = 3 ∨ k = 4 ∨ k = 5 ∨ k = 6 ∨ k = 7 ∨ k = 8 ∨ k = 9 ∨ k = 10 := by omega
    rcases hk' with rfl | rfl | rfl | rfl | rfl | rfl | rfl | rfl | rfl | rfl | rfl <;> simp -dsimp -implicitDefEqProofs only [go_sem]
  by_cases hge : (L : Int) ≤ X
  · have hx : (X : Int) - L = ((X - L : Nat) : Int) := by omega
    simp -dsimp -implicitDefEqProofs (disch := omega) only [go_sem, reqD_of, dec_t, dec_f, wrap_i64, wrap_u32, wrap_u64, wrap_u8, hd, e0, e1, e6, e7, e8, e9, hge, hx]
    refine tail (X - L) (by omega) (by rw [if_pos (by omega)]) (by simp -dsimp -implicitDefEqProofs only [go_sem, e0]) (by simp -dsimp -implicitDefEqProofs only [go_sem, e1]) (by simp -dsimp -implicitDefEqProofs only [go_sem, e9]) (by simp -dsimp -implicitDefEqProofs only [go_sem]) ?_
    intro e'' w'' f0 fk h9
    have g0 := fk 0 (by omega)
    have g1 := fk 1 (by omega)
    have g6 := fk 6 (by omega)
    have g7 := fk 7 (by omega)
    have g8 := fk 8 (by omega)
    have g9 := fk 9 (by omega)
    simp -dsimp -implicitDefEqProofs only [go_sem, hd, e0, e1, e6, e7, e8, e9] at f0 g0 g1 g6 g7 g8 g9
    simp -dsimp -implicitDefEqProofs (disch := omega) only [go_sem, reqD_of, dec_t, dec_f, wrap_i64, wrap_u32, wrap_u64, wrap_u8, f0, g0, g1, g6, g7, g8, g9]
    exact hQ _ _ (by simp -dsimp -implicitDefEqProofs only [go_sem, f0]) (by simp -dsimp -implicitDefEqProofs only [go_sem, g0]) (by simp -dsimp -implicitDefEqProofs only [go_sem, g1]) (by simp -dsimp -implicitDefEqProofs only [go_sem, g6]) (by simp -dsimp -implicitDefEqProofs only [go_sem, g7]) (by simp -dsimp -implicitDefEqProofs only [go_sem, g8]) (by simp -dsimp -implicitDefEqProofs only [go_sem]) h9
  · simp -dsimp -implicitDefEqProofs (disch := omega) only [go_sem, reqD_of, dec_t, dec_f, wrap_i64, wrap_u32, wrap_u64, wrap_u8, hd, e0, e1, e6, e7, e8, e9, hge]
    refine tail X (by omega) (by rw [if_neg (by omega)]) (by simp -dsimp -implicitDefEqProofs only [go_sem, e0]) (by simp -dsimp -implicitDefEqProofs only [go_sem, e1]) (by simp -dsimp -implicitDefEqProofs only [go_sem, e9]) (by simp -dsimp -implicitDefEqProofs only [go_sem]) ?_
    intro e'' w'' f0 fk h9
    have g0 := fk 0 (by omega)
    have g1 := fk 1 (by omega)
    have g6 := fk 6 (by omega)
    have g7 := fk 7 (by omega)
    have g8 := fk 8 (by omega)
    have g9 := fk 9 (by omega)
    simp -dsimp -implicitDefEqProofs only [go_sem, hd, e0, e1, e6, e7, e8, e9] at f0 g0 g1 g6 g7 g8 g9
    simp -dsimp -implicitDefEqProofs (disch := omega) only [go_sem, reqD_of, dec_t, dec_f, wrap_i64, wrap_u32, wrap_u64, wrap_u8, f0, g0, g1, g6, g7, g8, g9]
    exact hQ _ _ (by simp -dsimp -implicitDefEqProofs only [go_sem, f0]) (by simp -dsimp -implicitDefEqProofs only [go_sem, g0]) (by simp -dsimp -implicitDefEqProofs only [go_sem, g1]) (by simp -dsimp -implicitDefEqProofs only [go_sem, g6]) (by simp -dsimp -implicitDefEqProofs only [go_sem, g7]) (by simp -dsimp -implicitDefEqProofs only [go_sem, g8]) (by simp -dsimp -implicitDefEqProofs only [go_sem]) h9

end
section
attribute [local go_sem] F79.t10_eq F79.t6_eq
theorem break_any {w0 w : World} {F : HP} {g o n c a b : Nat} {d : Array Int} (h : St w0 (SoP g o n c d * F) w) (hb : b ≤ n) (hab : a ≤ b) (hn : n < 2305843009213693951) :
    Calls Try.prog 79 #[soV g o n c, .int .i64 a, .int .i64 b] w fun e w' => St w0 (SoP g o n c (breakPatterns d a b) * F) w' ∧ e = .returned (.tuple #[]) := by
  refine F79.calls (by simp) ?_
  unfold F79.code
  have i1 : (b : Int) - a = ((b - a : Nat) : Int) := by omega
  by_cases h8 : (8 : Int) ≤ ((b - a : Nat) : Int)
  case neg =>
    simp -dsimp -implicitDefEqProofs (disch := omega) only [go_sem, reqD_of, dec_t, dec_f, wrap_i64, wrap_u32, wrap_u64, wrap_u8, i1, h8]
    have : breakPatterns d a b = d := by unfold breakPatterns; simp only; rw [if_neg (by omega)]
    rw [this]
    exact h
  have h8' : b - a ≥ 8 := by omega
  have i2 : ((b - a : Nat) : Int).tdiv 4 = (((b - a) / 4 : Nat) : Int) := rfl
  have i3 : (((b - a) / 4 : Nat) : Int) * 2 = (((b - a) / 4 * 2 : Nat) : Int) := by omega
  have i4 : (a : Int) + (((b - a) / 4 * 2 : Nat) : Int) = ((a + (b - a) / 4 * 2 : Nat) : Int) := by omega
  have i5 : ((a + (b - a) / 4 * 2 : Nat) : Int) - 1 = ((a + (b - a) / 4 * 2 - 1 : Nat) : Int) := by omega
  have i6 : ((a + (b - a) / 4 * 2 : Nat) : Int) + 1 = ((a + (b - a) / 4 * 2 - 1 + 2 : Nat) : Int) := by omega
  simp -dsimp -implicitDefEqProofs (disch := omega) only [go_sem, reqD_of, dec_t, dec_f, wrap_i64, wrap_u32, wrap_u64, wrap_u8, i1, h8]
  refine h.new fun R w1 h1 => ?_
  have h1' : St w0 (Blk R (.cells #[.int .u64 0] 122 (0, 0)) * (SoP g o n c d * F)) w1 := h1
  simp -dsimp -implicitDefEqProofs (disch := omega) only [go_sem, reqD_of, dec_t, dec_f, wrap_i64, wrap_u32, wrap_u64, wrap_u8]
  refine h1'.sto (b := R) (off := 0) (by simp) rfl fun w2 h2 => ?_
  have hu : (UInt64.ofNat (b - a)).toNat = b - a := by rw [UInt64.toNat_ofNat']; omega
  have h2' : St w0 (Blk R (.cells #[.int .u64 (UInt64.ofNat (b - a)).toNat] 122 (0, 0)) * (SoP g o n c d * F)) w2 := by rw [hu]; exact h2
  simp -dsimp -implicitDefEqProofs (disch := omega) only [go_sem, reqD_of, dec_t, dec_f, wrap_i64, wrap_u32, wrap_u64, wrap_u8, i1]
  refine (pow2_any (L := b - a) h2' (by omega)).mono ?_
  rintro e' w3 ⟨h3, rfl⟩
  simp -dsimp -implicitDefEqProofs (disch := omega) only [go_sem, reqD_of, dec_t, dec_f, wrap_i64, wrap_u32, wrap_u64, wrap_u8, i1, i2, i3, i4, i5]
  rw [bpIt_eq h8']
  generalize hB : (bpIt a (b - a) (1 <<< bitsLen (b - a)) (a + (b - a) / 4 * 2 - 1) d 3).2 = B
  refine loop_intro (fun e w' => e.ds = [] ∧ e.ρ 0 = soV g o n c ∧ e.ρ 1 = .int .i64 a ∧ e.ρ 6 = .int .i64 ((b - a : Nat) : Int) ∧ e.ρ 7 = .pointer (some ⟨R, 0, none⟩) ∧ e.ρ 8 = .int .u64 ((2 ^ bitsLen (b - a) : Nat) : Int) ∧ ∃ t : Nat, t ≤ 3 ∧ e.ρ 9 = .int .i64 ((a + (b - a) / 4 * 2 - 1 + t : Nat) : Int) ∧
      St w0 (Blk R (.cells #[.int .u64 (bpIt a (b - a) (1 <<< bitsLen (b - a)) (a + (b - a) / 4 * 2 - 1) d t).1.toNat] 122 (0, 0)) * (SoP g o n c (bpIt a (b - a) (1 <<< bitsLen (b - a)) (a + (b - a) / 4 * 2 - 1) d t).2 * F)) w')
    (fun e _ => match e.ρ 9 with | .int _ k => (((a + (b - a) / 4 * 2 - 1 + 3 : Nat) : Int) - k).toNat | _ => 0) ?_ ?_
  · exact ⟨rfl, by simp -dsimp -implicitDefEqProofs only [go_sem], by simp -dsimp -implicitDefEqProofs only [go_sem], by simp -dsimp -implicitDefEqProofs only [go_sem], by simp -dsimp -implicitDefEqProofs only [go_sem], by simp -dsimp -implicitDefEqProofs only [go_sem], 0, by omega, by simp -dsimp -implicitDefEqProofs only [go_sem], h3⟩
  rintro e w4 ⟨hd, e0, e1, e6, e7, e8, t, ht, e9, h4⟩
  by_cases hlt : ((a + (b - a) / 4 * 2 - 1 + t : Nat) : Int) ≤ ((a + (b - a) / 4 * 2 - 1 + 2 : Nat) : Int)
  case neg =>
    have : t = 3 := by omega
    subst this
    simp -dsimp -implicitDefEqProofs (disch := omega) only [go_sem, reqD_of, dec_t, dec_f, wrap_i64, wrap_u32, wrap_u64, wrap_u8, hd, e0, e1, e6, e7, e8, e9, i2, i3, i4, i6, hlt]
    rw [hB] at h4
    exact h4.right
  simp -dsimp -implicitDefEqProofs (disch := omega) only [go_sem, reqD_of, dec_t, dec_f, wrap_i64, wrap_u32, wrap_u64, wrap_u8, hd, e0, e1, e6, e7, e8, e9, i2, i3, i4, i6, hlt]
  refine break7 (a := a) (b := b) (t := t) (R := R) h4 hb h8' (by omega) hn (by simp -dsimp -implicitDefEqProofs only [go_sem, hd]) (by simp -dsimp -implicitDefEqProofs only [go_sem, e0]) (by simp -dsimp -implicitDefEqProofs only [go_sem, e1]) (by simp -dsimp -implicitDefEqProofs only [go_sem, e6]) (by simp -dsimp -implicitDefEqProofs only [go_sem, e7]) (by simp -dsimp -implicitDefEqProofs only [go_sem, e8]) (by simp -dsimp -implicitDefEqProofs only [go_sem, e9]) ?_
  intro e' w5 f0 f1 f2 f3 f4 f5 f6 h5
  simp -dsimp -implicitDefEqProofs (disch := omega) only [go_sem, reqD_of, dec_t, dec_f, wrap_i64, wrap_u32, wrap_u64, wrap_u8, f0, f1, f2, f3, f4, f5, f6, e9]
  exact ⟨⟨t + 1, by omega, by omega, h5⟩, by omega⟩

end
end Go.Proofs.Ytljndiligbaljaa
