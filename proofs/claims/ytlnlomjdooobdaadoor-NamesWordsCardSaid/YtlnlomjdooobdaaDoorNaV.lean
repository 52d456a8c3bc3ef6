/- The reference's good texts. -/
import Derived.Test.YtlnlomjdooobdaaDoorNlD
import Derived.Test.YtlnlomjdooobdaaDoorNaS
namespace Go.Proofs.YtlnlomjdooobdaaDoor
open Go
set_option linter.unusedVariables false
set_option linter.unusedSimpArgs false
set_option maxRecDepth 100000


theorem within_any {w0 w : World} {A : HP} (h : St w0 A w) (l : List UInt8) (hl : l.length ≤ 9223372036854775800) (k lo hi : Nat) :
    Calls Tryd.prog 62 #[.string (strOf l), .int .i64 k, .int .u8 lo, .int .u8 hi] w fun e w' => St w0 A w' ∧ e = .returned (.bool (wi l k lo hi)) := by
  refine F62.calls (by simp) ?_
  unfold F62.code
  by_cases h1 : (k : Int) < l.length
  case neg =>
    have e0 : wi l k lo hi = false := by simp [wi]; omega
    simp -dsimp -implicitDefEqProofs (disch := omega) only [go_sem, reqD_of, dec_t, dec_f, wrap_i64, wrap_u32, wrap_u64, wrap_u8, h1, e0]
    exact h
  obtain ⟨c, hc⟩ : ∃ c, c = (l.getD k 0).toNat := ⟨_, rfl⟩
  by_cases h2 : (lo : Int) ≤ (c : Int)
  case neg =>
    have e0 : wi l k lo hi = false := decide_eq_false (by rw [← hc]; omega)
    simp -dsimp -implicitDefEqProofs (disch := omega) only [go_sem, reqD_of, dec_t, dec_f, wrap_i64, wrap_u32, wrap_u64, wrap_u8, h1, e0, ← hc, h2]
    exact h
  by_cases h3 : (c : Int) ≤ hi
  case neg =>
    have e0 : wi l k lo hi = false := decide_eq_false (by rw [← hc]; omega)
    simp -dsimp -implicitDefEqProofs (disch := omega) only [go_sem, reqD_of, dec_t, dec_f, wrap_i64, wrap_u32, wrap_u64, wrap_u8, h1, e0, ← hc, h2, h3]
    exact h
  have e0 : wi l k lo hi = true := decide_eq_true (by rw [← hc]; omega)
  simp -dsimp -implicitDefEqProofs (disch := omega) only [go_sem, reqD_of, dec_t, dec_f, wrap_i64, wrap_u32, wrap_u64, wrap_u8, h1, e0, ← hc, h2, h3]
  exact h

section
attribute [local go_sem] F51.t18_eq
end
section
variable {w0 w : World} {A : HP} {l : List UInt8} {k : Nat} {e : FA} {R : Ending → World → Prop}
theorem ch_t16 {θ : Tag (F51.t16, fnP Tryd.prog #[.tmp 4] R, e, w)} {lo hi : Nat} (h : St w0 A w) (hl : l.length ≤ 9223372036854775800) (hk : k < l.length)
    (hd : e.ds = []) (e0 : e.ρ 0 = .string (strOf l)) (e1 : e.ρ 1 = .int .i64 k) (e5 : e.ρ 5 = .int .u8 lo) (e6 : e.ρ 6 = .int .u8 hi)
    (hQ : ∀ w', St w0 A w' → R (.returned (.int .i64 (ch4 l k lo hi))) w') : cwE Tryd.prog F51.t16 (fnP Tryd.prog #[.tmp 4] R) e w θ := by
  rw [F51.t16_eq]
  unfold F51.t18
  simp -dsimp -implicitDefEqProofs (disch := omega) only [go_sem, reqD_of, dec_t, dec_f, wrap_i64, wrap_u32, wrap_u64, wrap_u8, hd, e0, e1, e5, e6]
  refine (within_any h l hl k 240 244).mono ?_
  rintro e' w1 ⟨h1, rfl⟩
  cases b1 : wi l k 240 244
  · have hr : ch4 l k lo hi = 0 := by simp [ch4, b1]
    rw [hr] at hQ
    simp -dsimp -implicitDefEqProofs (disch := omega) only [go_sem, reqD_of, dec_t, dec_f, wrap_i64, wrap_u32, wrap_u64, wrap_u8, hd, e0, e1, e5, e6]
    exact hQ _ h1
  simp -dsimp -implicitDefEqProofs (disch := omega) only [go_sem, reqD_of, dec_t, dec_f, wrap_i64, wrap_u32, wrap_u64, wrap_u8, hd, e0, e1, e5, e6]
  refine (within_any h1 l hl (k + 1) lo hi).mono ?_
  rintro e' w2 ⟨h2, rfl⟩
  cases b2 : wi l (k + 1) lo hi
  · have hr : ch4 l k lo hi = 0 := by simp [ch4, b2]
    rw [hr] at hQ
    simp -dsimp -implicitDefEqProofs (disch := omega) only [go_sem, reqD_of, dec_t, dec_f, wrap_i64, wrap_u32, wrap_u64, wrap_u8, hd, e0, e1, e5, e6]
    exact hQ _ h2
  simp -dsimp -implicitDefEqProofs (disch := omega) only [go_sem, reqD_of, dec_t, dec_f, wrap_i64, wrap_u32, wrap_u64, wrap_u8, hd, e0, e1, e5, e6]
  refine (within_any h2 l hl (k + 2) 128 191).mono ?_
  rintro e' w3 ⟨h3, rfl⟩
  cases b3 : wi l (k + 2) 128 191
  · have hr : ch4 l k lo hi = 0 := by simp [ch4, b3]
    rw [hr] at hQ
    simp -dsimp -implicitDefEqProofs (disch := omega) only [go_sem, reqD_of, dec_t, dec_f, wrap_i64, wrap_u32, wrap_u64, wrap_u8, hd, e0, e1, e5, e6]
    exact hQ _ h3
  simp -dsimp -implicitDefEqProofs (disch := omega) only [go_sem, reqD_of, dec_t, dec_f, wrap_i64, wrap_u32, wrap_u64, wrap_u8, hd, e0, e1, e5, e6]
  refine (within_any h3 l hl (k + 3) 128 191).mono ?_
  rintro e' w4 ⟨h4, rfl⟩
  cases b4 : wi l (k + 3) 128 191
  · have hr : ch4 l k lo hi = 0 := by simp [ch4, b4]
    rw [hr] at hQ
    simp -dsimp -implicitDefEqProofs (disch := omega) only [go_sem, reqD_of, dec_t, dec_f, wrap_i64, wrap_u32, wrap_u64, wrap_u8, hd, e0, e1, e5, e6]
    exact hQ _ h4
  have hr : ch4 l k lo hi = 4 := by simp [ch4, b1, b2, b3, b4]
  rw [hr] at hQ
  simp -dsimp -implicitDefEqProofs (disch := omega) only [go_sem, reqD_of, dec_t, dec_f, wrap_i64, wrap_u32, wrap_u64, wrap_u8, hd, e0, e1, e5, e6]
  exact hQ _ h4
theorem ch_t14 {θ : Tag (F51.t14, fnP Tryd.prog #[.tmp 4] R, e, w)} {lo hi : Nat} (h : St w0 A w) (hl : l.length ≤ 9223372036854775800) (hk : k < l.length)
    (hd : e.ds = []) (e0 : e.ρ 0 = .string (strOf l)) (e1 : e.ρ 1 = .int .i64 k) (e5 : e.ρ 5 = .int .u8 lo) (e6 : e.ρ 6 = .int .u8 hi)
    (hQ : ∀ w', St w0 A w' → R (.returned (.int .i64 (ch4 l k lo (if wi l k 244 244 then 143 else hi)))) w') : cwE Tryd.prog F51.t14 (fnP Tryd.prog #[.tmp 4] R) e w θ := by
  rw [F51.t14_eq]
  simp -dsimp -implicitDefEqProofs (disch := omega) only [go_sem, reqD_of, dec_t, dec_f, wrap_i64, wrap_u32, wrap_u64, wrap_u8, hd, e0, e1, e5, e6]
  refine (within_any h l hl k 244 244).mono ?_
  rintro e' w1 ⟨h1, rfl⟩
  cases b1 : wi l k 244 244 <;> rw [b1] at hQ
  · simp -dsimp -implicitDefEqProofs (disch := omega) only [go_sem, reqD_of, dec_t, dec_f, wrap_i64, wrap_u32, wrap_u64, wrap_u8, hd, e0, e1, e5, e6]
    exact ch_t16 (lo := lo) (hi := hi) h1 hl hk (by simp -dsimp -implicitDefEqProofs only [go_sem, hd]) (by simp -dsimp -implicitDefEqProofs only [go_sem, e0]) (by simp -dsimp -implicitDefEqProofs only [go_sem, e1]) (by simp -dsimp -implicitDefEqProofs only [go_sem, e5]) (by simp -dsimp -implicitDefEqProofs only [go_sem, e6]) hQ
  · simp -dsimp -implicitDefEqProofs (disch := omega) only [go_sem, reqD_of, dec_t, dec_f, wrap_i64, wrap_u32, wrap_u64, wrap_u8, hd, e0, e1, e5, e6]
    exact ch_t16 (lo := lo) (hi := 143) h1 hl hk (by simp -dsimp -implicitDefEqProofs only [go_sem, hd]) (by simp -dsimp -implicitDefEqProofs only [go_sem, e0]) (by simp -dsimp -implicitDefEqProofs only [go_sem, e1]) (by simp -dsimp -implicitDefEqProofs only [go_sem, e5]) (by simp -dsimp -implicitDefEqProofs only [go_sem]) hQ
theorem ch_t12 {θ : Tag (F51.t12, fnP Tryd.prog #[.tmp 4] R, e, w)} {lo hi : Nat} (h : St w0 A w) (hl : l.length ≤ 9223372036854775800) (hk : k < l.length)
    (hd : e.ds = []) (e0 : e.ρ 0 = .string (strOf l)) (e1 : e.ρ 1 = .int .i64 k) (e5 : e.ρ 5 = .int .u8 lo) (e6 : e.ρ 6 = .int .u8 hi)
    (hQ : ∀ w', St w0 A w' → R (.returned (.int .i64 (ch3 l k lo hi))) w') : cwE Tryd.prog F51.t12 (fnP Tryd.prog #[.tmp 4] R) e w θ := by
  rw [F51.t12_eq]
  unfold ch3 at hQ
  simp -dsimp -implicitDefEqProofs (disch := omega) only [go_sem, reqD_of, dec_t, dec_f, wrap_i64, wrap_u32, wrap_u64, wrap_u8, hd, e0, e1, e5, e6]
  refine (within_any h l hl k 240 240).mono ?_
  rintro e' w1 ⟨h1, rfl⟩
  cases b1 : wi l k 240 240 <;> rw [b1] at hQ
  · simp -dsimp -implicitDefEqProofs (disch := omega) only [go_sem, reqD_of, dec_t, dec_f, wrap_i64, wrap_u32, wrap_u64, wrap_u8, hd, e0, e1, e5, e6]
    exact ch_t14 (lo := lo) (hi := hi) h1 hl hk (by simp -dsimp -implicitDefEqProofs only [go_sem, hd]) (by simp -dsimp -implicitDefEqProofs only [go_sem, e0]) (by simp -dsimp -implicitDefEqProofs only [go_sem, e1]) (by simp -dsimp -implicitDefEqProofs only [go_sem, e5]) (by simp -dsimp -implicitDefEqProofs only [go_sem, e6]) hQ
  · simp -dsimp -implicitDefEqProofs (disch := omega) only [go_sem, reqD_of, dec_t, dec_f, wrap_i64, wrap_u32, wrap_u64, wrap_u8, hd, e0, e1, e5, e6]
    exact ch_t14 (lo := 144) (hi := hi) h1 hl hk (by simp -dsimp -implicitDefEqProofs only [go_sem, hd]) (by simp -dsimp -implicitDefEqProofs only [go_sem, e0]) (by simp -dsimp -implicitDefEqProofs only [go_sem, e1]) (by simp -dsimp -implicitDefEqProofs only [go_sem]) (by simp -dsimp -implicitDefEqProofs only [go_sem, e6]) hQ
theorem ch_t10 {θ : Tag (F51.t10, fnP Tryd.prog #[.tmp 4] R, e, w)} {lo hi : Nat} (h : St w0 A w) (hl : l.length ≤ 9223372036854775800) (hk : k < l.length)
    (hd : e.ds = []) (e0 : e.ρ 0 = .string (strOf l)) (e1 : e.ρ 1 = .int .i64 k) (e5 : e.ρ 5 = .int .u8 lo) (e6 : e.ρ 6 = .int .u8 hi)
    (hQ : ∀ w', St w0 A w' → R (.returned (.int .i64 (ch2 l k lo hi))) w') : cwE Tryd.prog F51.t10 (fnP Tryd.prog #[.tmp 4] R) e w θ := by
  rw [F51.t10_eq]
  simp -dsimp -implicitDefEqProofs (disch := omega) only [go_sem, reqD_of, dec_t, dec_f, wrap_i64, wrap_u32, wrap_u64, wrap_u8, hd, e0, e1, e5, e6]
  refine (within_any h l hl k 224 239).mono ?_
  rintro e' w1 ⟨h1, rfl⟩
  cases b1 : wi l k 224 239
  · have hr : ch2 l k lo hi = ch3 l k lo hi := by simp [ch2, b1]
    rw [hr] at hQ
    simp -dsimp -implicitDefEqProofs (disch := omega) only [go_sem, reqD_of, dec_t, dec_f, wrap_i64, wrap_u32, wrap_u64, wrap_u8, hd, e0, e1, e5, e6]
    exact ch_t12 (lo := lo) (hi := hi) h1 hl hk (by simp -dsimp -implicitDefEqProofs only [go_sem, hd]) (by simp -dsimp -implicitDefEqProofs only [go_sem, e0]) (by simp -dsimp -implicitDefEqProofs only [go_sem, e1]) (by simp -dsimp -implicitDefEqProofs only [go_sem, e5]) (by simp -dsimp -implicitDefEqProofs only [go_sem, e6]) hQ
  simp -dsimp -implicitDefEqProofs (disch := omega) only [go_sem, reqD_of, dec_t, dec_f, wrap_i64, wrap_u32, wrap_u64, wrap_u8, hd, e0, e1, e5, e6]
  refine (within_any h1 l hl (k + 1) lo hi).mono ?_
  rintro e' w2 ⟨h2, rfl⟩
  cases b2 : wi l (k + 1) lo hi
  · have hr : ch2 l k lo hi = ch3 l k lo hi := by simp [ch2, b2]
    rw [hr] at hQ
    simp -dsimp -implicitDefEqProofs (disch := omega) only [go_sem, reqD_of, dec_t, dec_f, wrap_i64, wrap_u32, wrap_u64, wrap_u8, hd, e0, e1, e5, e6]
    exact ch_t12 (lo := lo) (hi := hi) h2 hl hk (by simp -dsimp -implicitDefEqProofs only [go_sem, hd]) (by simp -dsimp -implicitDefEqProofs only [go_sem, e0]) (by simp -dsimp -implicitDefEqProofs only [go_sem, e1]) (by simp -dsimp -implicitDefEqProofs only [go_sem, e5]) (by simp -dsimp -implicitDefEqProofs only [go_sem, e6]) hQ
  simp -dsimp -implicitDefEqProofs (disch := omega) only [go_sem, reqD_of, dec_t, dec_f, wrap_i64, wrap_u32, wrap_u64, wrap_u8, hd, e0, e1, e5, e6]
  refine (within_any h2 l hl (k + 2) 128 191).mono ?_
  rintro e' w3 ⟨h3, rfl⟩
  cases b3 : wi l (k + 2) 128 191
  · have hr : ch2 l k lo hi = ch3 l k lo hi := by simp [ch2, b3]
    rw [hr] at hQ
    simp -dsimp -implicitDefEqProofs (disch := omega) only [go_sem, reqD_of, dec_t, dec_f, wrap_i64, wrap_u32, wrap_u64, wrap_u8, hd, e0, e1, e5, e6]
    exact ch_t12 (lo := lo) (hi := hi) h3 hl hk (by simp -dsimp -implicitDefEqProofs only [go_sem, hd]) (by simp -dsimp -implicitDefEqProofs only [go_sem, e0]) (by simp -dsimp -implicitDefEqProofs only [go_sem, e1]) (by simp -dsimp -implicitDefEqProofs only [go_sem, e5]) (by simp -dsimp -implicitDefEqProofs only [go_sem, e6]) hQ
  have hr : ch2 l k lo hi = 3 := by simp [ch2, b1, b2, b3]
  rw [hr] at hQ
  simp -dsimp -implicitDefEqProofs (disch := omega) only [go_sem, reqD_of, dec_t, dec_f, wrap_i64, wrap_u32, wrap_u64, wrap_u8, hd, e0, e1, e5, e6]
  exact hQ _ h3
theorem ch_t8 {θ : Tag (F51.t8, fnP Tryd.prog #[.tmp 4] R, e, w)} {lo hi : Nat} (h : St w0 A w) (hl : l.length ≤ 9223372036854775800) (hk : k < l.length)
    (hd : e.ds = []) (e0 : e.ρ 0 = .string (strOf l)) (e1 : e.ρ 1 = .int .i64 k) (e5 : e.ρ 5 = .int .u8 lo) (e6 : e.ρ 6 = .int .u8 hi)
    (hQ : ∀ w', St w0 A w' → R (.returned (.int .i64 (ch2 l k lo (if wi l k 237 237 then 159 else hi)))) w') : cwE Tryd.prog F51.t8 (fnP Tryd.prog #[.tmp 4] R) e w θ := by
  rw [F51.t8_eq]
  simp -dsimp -implicitDefEqProofs (disch := omega) only [go_sem, reqD_of, dec_t, dec_f, wrap_i64, wrap_u32, wrap_u64, wrap_u8, hd, e0, e1, e5, e6]
  refine (within_any h l hl k 237 237).mono ?_
  rintro e' w1 ⟨h1, rfl⟩
  cases b1 : wi l k 237 237 <;> rw [b1] at hQ
  · simp -dsimp -implicitDefEqProofs (disch := omega) only [go_sem, reqD_of, dec_t, dec_f, wrap_i64, wrap_u32, wrap_u64, wrap_u8, hd, e0, e1, e5, e6]
    exact ch_t10 (lo := lo) (hi := hi) h1 hl hk (by simp -dsimp -implicitDefEqProofs only [go_sem, hd]) (by simp -dsimp -implicitDefEqProofs only [go_sem, e0]) (by simp -dsimp -implicitDefEqProofs only [go_sem, e1]) (by simp -dsimp -implicitDefEqProofs only [go_sem, e5]) (by simp -dsimp -implicitDefEqProofs only [go_sem, e6]) hQ
  · simp -dsimp -implicitDefEqProofs (disch := omega) only [go_sem, reqD_of, dec_t, dec_f, wrap_i64, wrap_u32, wrap_u64, wrap_u8, hd, e0, e1, e5, e6]
    exact ch_t10 (lo := lo) (hi := 159) h1 hl hk (by simp -dsimp -implicitDefEqProofs only [go_sem, hd]) (by simp -dsimp -implicitDefEqProofs only [go_sem, e0]) (by simp -dsimp -implicitDefEqProofs only [go_sem, e1]) (by simp -dsimp -implicitDefEqProofs only [go_sem, e5]) (by simp -dsimp -implicitDefEqProofs only [go_sem]) hQ
theorem ch_t5 {θ : Tag (F51.t5, fnP Tryd.prog #[.tmp 4] R, e, w)} (h : St w0 A w) (hl : l.length ≤ 9223372036854775800) (hk : k < l.length)
    (hd : e.ds = []) (e0 : e.ρ 0 = .string (strOf l)) (e1 : e.ρ 1 = .int .i64 k)
    (hQ : ∀ w', St w0 A w' → R (.returned (.int .i64 (ch1 l k))) w') : cwE Tryd.prog F51.t5 (fnP Tryd.prog #[.tmp 4] R) e w θ := by
  rw [F51.t5_eq]
  unfold ch1 at hQ
  simp -dsimp -implicitDefEqProofs (disch := omega) only [go_sem, reqD_of, dec_t, dec_f, wrap_i64, wrap_u32, wrap_u64, wrap_u8, hd, e0, e1]
  refine (within_any h l hl k 224 224).mono ?_
  rintro e' w1 ⟨h1, rfl⟩
  cases b1 : wi l k 224 224 <;> rw [b1] at hQ
  · simp -dsimp -implicitDefEqProofs (disch := omega) only [go_sem, reqD_of, dec_t, dec_f, wrap_i64, wrap_u32, wrap_u64, wrap_u8, hd, e0, e1]
    exact ch_t8 (lo := 128) (hi := 191) h1 hl hk (by simp -dsimp -implicitDefEqProofs only [go_sem, hd]) (by simp -dsimp -implicitDefEqProofs only [go_sem, e0]) (by simp -dsimp -implicitDefEqProofs only [go_sem, e1]) (by simp -dsimp -implicitDefEqProofs only [go_sem]) (by simp -dsimp -implicitDefEqProofs only [go_sem]) hQ
  · simp -dsimp -implicitDefEqProofs (disch := omega) only [go_sem, reqD_of, dec_t, dec_f, wrap_i64, wrap_u32, wrap_u64, wrap_u8, hd, e0, e1]
    exact ch_t8 (lo := 160) (hi := 191) h1 hl hk (by simp -dsimp -implicitDefEqProofs only [go_sem, hd]) (by simp -dsimp -implicitDefEqProofs only [go_sem, e0]) (by simp -dsimp -implicitDefEqProofs only [go_sem, e1]) (by simp -dsimp -implicitDefEqProofs only [go_sem]) (by simp -dsimp -implicitDefEqProofs only [go_sem]) hQ
end
theorem character_any {w0 w : World} {A : HP} (h : St w0 A w) (l : List UInt8) (hl : l.length ≤ 9223372036854775800) (k : Nat) (hk : k < l.length) :
    Calls Tryd.prog 51 #[.string (strOf l), .int .i64 k] w fun e w' => St w0 A w' ∧ e = .returned (.int .i64 (chW l k)) := by
  refine F51.calls (by simp) ?_
  unfold F51.code
  simp -dsimp -implicitDefEqProofs (disch := omega) only [go_sem, reqD_of, dec_t, dec_f, wrap_i64, wrap_u32, wrap_u64, wrap_u8]
  refine (within_any h l hl k 0 127).mono ?_
  rintro e' w1 ⟨h1, rfl⟩
  cases b1 : wi l k 0 127
  case true =>
    have hr : chW l k = 1 := by simp [chW, b1]
    rw [hr]
    simp -dsimp -implicitDefEqProofs (disch := omega) only [go_sem, reqD_of, dec_t, dec_f, wrap_i64, wrap_u32, wrap_u64, wrap_u8]
    exact h1
  unfold F51.t3
  simp -dsimp -implicitDefEqProofs (disch := omega) only [go_sem, reqD_of, dec_t, dec_f, wrap_i64, wrap_u32, wrap_u64, wrap_u8]
  refine (within_any h1 l hl k 194 223).mono ?_
  rintro e' w2 ⟨h2, rfl⟩
  cases b2 : wi l k 194 223
  · have hr : chW l k = ch1 l k := by simp [chW, b1, b2]
    rw [hr]
    simp -dsimp -implicitDefEqProofs (disch := omega) only [go_sem, reqD_of, dec_t, dec_f, wrap_i64, wrap_u32, wrap_u64, wrap_u8]
    exact ch_t5 h2 hl hk (by simp -dsimp -implicitDefEqProofs only [go_sem]) (by simp -dsimp -implicitDefEqProofs only [go_sem]) (by simp -dsimp -implicitDefEqProofs only [go_sem]) fun w' h' => ⟨h', rfl⟩
  simp -dsimp -implicitDefEqProofs (disch := omega) only [go_sem, reqD_of, dec_t, dec_f, wrap_i64, wrap_u32, wrap_u64, wrap_u8]
  refine (within_any h2 l hl (k + 1) 128 191).mono ?_
  rintro e' w3 ⟨h3, rfl⟩
  cases b3 : wi l (k + 1) 128 191
  · have hr : chW l k = ch1 l k := by simp [chW, b1, b3]
    rw [hr]
    simp -dsimp -implicitDefEqProofs (disch := omega) only [go_sem, reqD_of, dec_t, dec_f, wrap_i64, wrap_u32, wrap_u64, wrap_u8]
    exact ch_t5 h3 hl hk (by simp -dsimp -implicitDefEqProofs only [go_sem]) (by simp -dsimp -implicitDefEqProofs only [go_sem]) (by simp -dsimp -implicitDefEqProofs only [go_sem]) fun w' h' => ⟨h', rfl⟩
  have hr : chW l k = 2 := by simp [chW, b1, b2, b3]
  rw [hr]
  simp -dsimp -implicitDefEqProofs (disch := omega) only [go_sem, reqD_of, dec_t, dec_f, wrap_i64, wrap_u32, wrap_u64, wrap_u8]
  exact h3

section
attribute [local go_sem] F33.t6_eq F33.t3_eq F33.t7_eq
theorem refBad_any {w0 w : World} {A : HP} (h : St w0 A w) (l : List UInt8) (hl : l.length ≤ 9223372036854775800) :
    Calls Tryd.prog 33 #[.string (strOf l)] w fun e w' => St w0 A w' ∧ ∃ k : Nat, e = .returned (.int .i64 k) ∧ decide ((k : Int) = l.length) = good l := by
  refine F33.calls (by simp) ?_
  unfold F33.code
  simp -dsimp -implicitDefEqProofs (disch := omega) only [go_sem, reqD_of, dec_t, dec_f, wrap_i64, wrap_u32, wrap_u64, wrap_u8]
  refine loop_intro (fun e w' => St w0 A w' ∧ e.ds = [] ∧ e.ρ 0 = .string (strOf l) ∧ ∃ k : Nat, k ≤ l.length ∧ e.ρ 3 = .int .i64 k ∧ good l = good (l.drop k))
    (fun e _ => match e.ρ 3 with | .int _ n => (l.length - n).toNat | _ => 0) ?_ ?_
  · exact ⟨h, by simp -dsimp -implicitDefEqProofs only [go_sem], by simp -dsimp -implicitDefEqProofs only [go_sem], 0, by omega, by simp -dsimp -implicitDefEqProofs only [go_sem], rfl⟩
  rintro e w1 ⟨h1, hd, e0, k, hk, e3, hg⟩
  by_cases hlt : (k : Int) < l.length
  case neg =>
    simp -dsimp -implicitDefEqProofs (disch := omega) only [go_sem, reqD_of, dec_t, dec_f, wrap_i64, wrap_u32, wrap_u64, wrap_u8, hd, e0, e3, hlt]
    refine ⟨h1, l.length, rfl, ?_⟩
    rw [hg, List.drop_of_length_le (by omega)]
    simp [good_nil]
  have hkl : k < l.length := by omega
  have hs := good_step l k hkl
  have hle := chW_le l k hkl
  simp -dsimp -implicitDefEqProofs (disch := omega) only [go_sem, reqD_of, dec_t, dec_f, wrap_i64, wrap_u32, wrap_u64, wrap_u8, hd, e0, e3, hlt]
  refine (character_any h1 l hl k hkl).mono ?_
  rintro e' w2 ⟨h2, rfl⟩
  by_cases h0 : chW l k = 0
  · rw [if_pos (.inl h0)] at hs
    rw [h0]
    simp -dsimp -implicitDefEqProofs (disch := omega) only [go_sem, reqD_of, dec_t, dec_f, wrap_i64, wrap_u32, wrap_u64, wrap_u8, hd, e0, e3, hlt]
    refine ⟨h2, k, rfl, ?_⟩
    rw [hg, hs]
    exact decide_eq_false (by omega)
  have h0' : ¬ ((chW l k : Nat) : Int) = 0 := by omega
  obtain ⟨c, hc⟩ : ∃ c, c = (l.getD k 0).toNat := ⟨_, rfl⟩
  by_cases h4 : (c : Int) = 0
  · rw [if_pos (.inr (by rw [← hc]; omega))] at hs
    simp -dsimp -implicitDefEqProofs (disch := omega) only [go_sem, reqD_of, dec_t, dec_f, wrap_i64, wrap_u32, wrap_u64, wrap_u8, hd, e0, e3, hlt, h0', ← hc, h4]
    refine ⟨h2, k, rfl, ?_⟩
    rw [hg, hs]
    exact decide_eq_false (by omega)
  · rw [if_neg (by rw [← hc]; omega)] at hs
    simp -dsimp -implicitDefEqProofs (disch := omega) only [go_sem, reqD_of, dec_t, dec_f, wrap_i64, wrap_u32, wrap_u64, wrap_u8, hd, e0, e3, hlt, h0', ← hc, h4]
    exact ⟨⟨h2, k + chW l k, hle, by omega, by rw [hg, hs]⟩, by omega⟩

end

theorem refGood_any {w0 w : World} {A : HP} (h : St w0 A w) (l : List UInt8) (hl : l.length ≤ 9223372036854775800) :
    Calls Tryd.prog 16 #[.string (strOf l)] w fun e w' => St w0 A w' ∧ e = .returned (.bool (good l)) := by
  refine F16.calls (by simp) ?_
  unfold F16.code
  simp -dsimp -implicitDefEqProofs (disch := omega) only [go_sem, reqD_of, dec_t, dec_f, wrap_i64, wrap_u32, wrap_u64, wrap_u8]
  refine (refBad_any h l hl).mono ?_
  rintro e' w1 ⟨h1, k, rfl, hk⟩
  simp -dsimp -implicitDefEqProofs (disch := omega) only [go_sem, reqD_of, dec_t, dec_f, wrap_i64, wrap_u32, wrap_u64, wrap_u8, hk]
  exact h1

section
attribute [local go_sem] F21.t6_eq F21.t7_eq F21.t9_eq F21.t4_eq
theorem refCheck_any {w0 w : World} {A : HP} (h : St w0 A w) (l : List UInt8) (hl : l.length ≤ 9223372036854775800) :
    Calls Tryd.prog 21 #[.string (strOf l)] w fun e w' => St w0 A w' ∧ e = .returned (.int .i64 (if okName l then 0 else 50)) := by
  refine F21.calls (by simp) ?_
  unfold F21.code
  simp -dsimp -implicitDefEqProofs (disch := omega) only [go_sem, reqD_of, dec_t, dec_f, wrap_i64, wrap_u32, wrap_u64, wrap_u8]
  refine (refGood_any h l hl).mono ?_
  rintro e' w1 ⟨h1, rfl⟩
  by_cases c1 : l = []
  · have ho : okName l = false := by simp [okName, dots, c1]
    have d1 : decide (l = []) = true := decide_eq_true c1
    rw [ho]
    simp -dsimp -implicitDefEqProofs (disch := omega) only [go_sem, reqD_of, dec_t, dec_f, wrap_i64, wrap_u32, wrap_u64, wrap_u8, d1]
    exact h1
  have d1 : decide (l = []) = false := decide_eq_false c1
  by_cases c2 : l = [46]
  · have ho : okName l = false := by simp [okName, dots, c2]
    have d2 : decide (l = [46]) = true := decide_eq_true c2
    rw [ho]
    simp -dsimp -implicitDefEqProofs (disch := omega) only [go_sem, reqD_of, dec_t, dec_f, wrap_i64, wrap_u32, wrap_u64, wrap_u8, d1, d2]
    exact h1
  have d2 : decide (l = [46]) = false := decide_eq_false c2
  by_cases c3 : l = [46, 46]
  · have ho : okName l = false := by simp [okName, dots, c3]
    have d3 : decide (l = [46, 46]) = true := decide_eq_true c3
    rw [ho]
    simp -dsimp -implicitDefEqProofs (disch := omega) only [go_sem, reqD_of, dec_t, dec_f, wrap_i64, wrap_u32, wrap_u64, wrap_u8, d1, d2, d3]
    exact h1
  have d3 : decide (l = [46, 46]) = false := decide_eq_false c3
  cases c4 : good l
  · have ho : okName l = false := by simp [okName, c4]
    rw [ho]
    simp -dsimp -implicitDefEqProofs (disch := omega) only [go_sem, reqD_of, dec_t, dec_f, wrap_i64, wrap_u32, wrap_u64, wrap_u8, d1, d2, d3]
    exact h1
  by_cases c5 : (255 : Int) < l.length
  · have ho : okName l = false := by simp [okName]; omega
    rw [ho]
    simp -dsimp -implicitDefEqProofs (disch := omega) only [go_sem, reqD_of, dec_t, dec_f, wrap_i64, wrap_u32, wrap_u64, wrap_u8, d1, d2, d3, c5]
    exact h1
  simp -dsimp -implicitDefEqProofs (disch := omega) only [go_sem, reqD_of, dec_t, dec_f, wrap_i64, wrap_u32, wrap_u64, wrap_u8, d1, d2, d3, c5]
  refine loop_intro (fun e w' => w' = w1 ∧ e.ds = [] ∧ e.ρ 0 = .string (strOf l) ∧ ∃ k : Nat, k ≤ l.length ∧ e.ρ 4 = .int .i64 k ∧ (47 : UInt8) ∉ l.take k)
    (fun e _ => match e.ρ 4 with | .int _ n => (l.length - n).toNat | _ => 0) ?_ ?_
  · exact ⟨rfl, by simp -dsimp -implicitDefEqProofs only [go_sem], by simp -dsimp -implicitDefEqProofs only [go_sem], 0, by omega, by simp -dsimp -implicitDefEqProofs only [go_sem], by simp⟩
  rintro e w2 ⟨rfl, hd, e0, k, hk, e4, hg⟩
  by_cases hlt : (k : Int) < l.length
  case neg =>
    rw [List.take_of_length_le (by omega)] at hg
    have ho : okName l = true := by simp [okName, dots, c1, c2, c3, c4, hg]; omega
    rw [ho]
    simp -dsimp -implicitDefEqProofs (disch := omega) only [go_sem, reqD_of, dec_t, dec_f, wrap_i64, wrap_u32, wrap_u64, wrap_u8, hd, e0, e4, hlt]
    exact h1
  have hkl : k < l.length := by omega
  by_cases hc : ((l.getD k 0).toNat : Int) = 47
  · have hm : (47 : UInt8) ∈ l := by
      have : l.getD k 0 = 47 := UInt8.toNat_inj.1 (by simp only [UInt8.toNat_ofNat]; omega)
      rw [← this]
      simp only [List.getD_eq_getElem?_getD, List.getElem?_eq_getElem hkl, Option.getD_some]
      exact List.getElem_mem hkl
    have ho : okName l = false := by simp [okName, hm]
    rw [ho]
    simp -dsimp -implicitDefEqProofs (disch := omega) only [go_sem, reqD_of, dec_t, dec_f, wrap_i64, wrap_u32, wrap_u64, wrap_u8, hd, e0, e4, hlt, hc]
    exact h1
  · simp -dsimp -implicitDefEqProofs (disch := omega) only [go_sem, reqD_of, dec_t, dec_f, wrap_i64, wrap_u32, wrap_u64, wrap_u8, hd, e0, e4, hlt, hc]
    refine ⟨⟨k + 1, by omega, by omega, ?_⟩, by omega⟩
    rw [List.take_add_one]
    simp only [List.mem_append, not_or]
    refine ⟨hg, ?_⟩
    rw [List.getElem?_eq_getElem hkl]
    simp only [Option.toList_some, List.mem_singleton]
    intro e47
    apply hc
    simp only [List.getD_eq_getElem?_getD, List.getElem?_eq_getElem hkl, Option.getD_some]
    rw [← e47]; rfl

end
section
attribute [local go_sem] F20.t4_eq F20.t5_eq F20.t6_eq
theorem weight_any {w0 w : World} {A : HP} (h : St w0 A w) {v : Value} {ls : List (List UInt8)} (hr : Ent A (Reads 1 v ls.length (ls.map sv))) (hn : ls.length ≤ 4611686018427387904) (hs : ∀ s ∈ ls, s.length ≤ 140737488355328) :
    Calls Tryd.prog 20 #[v] w fun e w' => St w0 A w' ∧ ∃ k : Nat, e = .returned (.int .i64 k) ∧ (k ≤ 268435456 → 2 * ls.length + (ls.map (·.length)).sum ≤ k) := by
  obtain ⟨a, c, rfl, _⟩ := readForm h hr
  haveI i1 : Gives A (Reads 1 (.slice a ls.length c) ls.length (ls.map sv)) := ⟨hr⟩
  refine F20.calls (by simp) ?_
  unfold F20.code
  simp -dsimp -implicitDefEqProofs (disch := omega) only [go_sem, reqD_of, dec_t, dec_f, wrap_i64, wrap_u32, wrap_u64, wrap_u8]
  refine loop_intro (fun e w' => w' = w ∧ e.ds = [] ∧ e.ρ 0 = .slice a ls.length c ∧ ∃ i k : Nat, i ≤ ls.length ∧ k ≤ 268435456 + 140737488355330 ∧ e.ρ 4 = .int .i64 i ∧ e.ρ 3 = .int .i64 k ∧ k = 2 * i + ((ls.take i).map (·.length)).sum)
    (fun e _ => match e.ρ 4 with | .int _ n => (ls.length - n).toNat | _ => 0) ?_ ?_
  · exact ⟨rfl, by simp -dsimp -implicitDefEqProofs only [go_sem], by simp -dsimp -implicitDefEqProofs only [go_sem], 0, 0, by omega, by omega, by simp -dsimp -implicitDefEqProofs only [go_sem], by simp -dsimp -implicitDefEqProofs only [go_sem], by simp⟩
  rintro e w2 ⟨rfl, hd, e0, i, k, hi, hk, e4, e3, hg⟩
  by_cases hlt : (i : Int) < ls.length
  case neg =>
    have hil : i = ls.length := by omega
    subst hil
    rw [List.take_length] at hg
    simp -dsimp -implicitDefEqProofs (disch := omega) only [go_sem, reqD_of, dec_t, dec_f, wrap_i64, wrap_u32, wrap_u64, wrap_u8, hd, e0, e4, e3, hlt]
    exact ⟨h, k, rfl, fun _ => by omega⟩
  have hil : i < ls.length := by omega
  by_cases hb : (k : Int) ≤ 268435456
  case neg =>
    simp -dsimp -implicitDefEqProofs (disch := omega) only [go_sem, reqD_of, dec_t, dec_f, wrap_i64, wrap_u32, wrap_u64, wrap_u8, hd, e0, e4, e3, hlt, hb]
    exact ⟨h, k, rfl, fun h => by omega⟩
  obtain ⟨b0, o0, rfl, c0⟩ := h.atS (i := i1) (k := i) (by simpa using hil)
  simp only [List.getElem_map] at c0
  have hsi := hs ls[i] (List.getElem_mem hil)
  simp -dsimp -implicitDefEqProofs (disch := omega) only [go_sem, reqD_of, dec_t, dec_f, wrap_i64, wrap_u32, wrap_u64, wrap_u8, hd, e0, e4, e3, hlt, hb, c0]
  refine ⟨⟨i + 1, k + 2 + ls[i].length, by omega, by omega, by omega, by omega, ?_⟩, by omega⟩
  rw [List.take_add_one, List.getElem?_eq_getElem hil]
  simp only [Option.toList_some, List.map_append, List.map_cons, List.map_nil, List.sum_append, List.sum_cons, List.sum_nil]
  omega
end
end Go.Proofs.YtlnlomjdooobdaaDoor
