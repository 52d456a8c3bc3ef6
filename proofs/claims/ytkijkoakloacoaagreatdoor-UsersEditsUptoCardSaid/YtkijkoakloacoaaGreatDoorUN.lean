/- The reference's characters are the library's. The reference's good texts. The reference's cuts, names and keys. The reference's accounts: right, account; find, has, twice, knows. -/
import Derived.Test.YtkijkoakloacoaaGreatDoorUA
import Derived.Test.YtkijkoakloacoaaGreatDoorUB
import Derived.Test.YtkijkoakloacoaaGreatDoorUD
import Derived.Test.YtkijkoakloacoaaGreatDoorUE
namespace Go.Proofs.YtkijkoakloacoaaGreatDoor
open Go
set_option linter.unusedVariables false

/-! ### The reference's characters are the library's -/

/-- Does a byte lie within two bounds? -/
def wi (l : List UInt8) (k lo hi : Nat) : Bool := decide (k < l.length ∧ lo ≤ (l.getD k 0).toNat ∧ (l.getD k 0).toNat ≤ hi)
def ch4 (l : List UInt8) (k lo hi : Nat) : Nat := if wi l k 240 244 && wi l (k + 1) lo hi && wi l (k + 2) 128 191 && wi l (k + 3) 128 191 then 4 else 0
def ch3 (l : List UInt8) (k lo hi : Nat) : Nat := ch4 l k (if wi l k 240 240 then 144 else lo) (if wi l k 244 244 then 143 else hi)
def ch2 (l : List UInt8) (k lo hi : Nat) : Nat := if wi l k 224 239 && wi l (k + 1) lo hi && wi l (k + 2) 128 191 then 3 else ch3 l k lo hi
def ch1 (l : List UInt8) (k : Nat) : Nat := ch2 l k (if wi l k 224 224 then 160 else 128) (if wi l k 237 237 then 159 else 191)
def chW (l : List UInt8) (k : Nat) : Nat := if wi l k 0 127 then 1 else if wi l k 194 223 && wi l (k + 1) 128 191 then 2 else ch1 l k
def chB (n b0 b1 b2 b3 : Nat) : Nat :=
  if b0 ≤ 127 then 1 else if (194 ≤ b0 ∧ b0 ≤ 223) ∧ 1 < n ∧ 128 ≤ b1 ∧ b1 ≤ 191 then 2
  else if (224 ≤ b0 ∧ b0 ≤ 239) ∧ (1 < n ∧ (b0 = 224 ∧ 160 ≤ b1 ∨ b0 ≠ 224 ∧ 128 ≤ b1) ∧ (b0 = 237 ∧ b1 ≤ 159 ∨ b0 ≠ 237 ∧ b1 ≤ 191)) ∧ 2 < n ∧ 128 ≤ b2 ∧ b2 ≤ 191 then 3
  else if (240 ≤ b0 ∧ b0 ≤ 244) ∧ (1 < n ∧ (b0 = 240 ∧ 144 ≤ b1 ∨ b0 ≠ 240 ∧ 128 ≤ b1) ∧ (b0 = 244 ∧ b1 ≤ 143 ∨ b0 ≠ 244 ∧ b1 ≤ 191)) ∧ (2 < n ∧ 128 ≤ b2 ∧ b2 ≤ 191) ∧ 3 < n ∧ 128 ≤ b3 ∧ b3 ≤ 191 then 4 else 0
theorem chB_eq (n b0 b1 b2 b3 : Nat) (h0 : b0 < 256) (h1 : b1 < 256) (h2 : b2 < 256) (h3 : b3 < 256) :
    if chB n b0 b1 b2 b3 = 0 then Lib.decodeN n b0 b1 b2 b3 = (65533, 1) else (Lib.decodeN n b0 b1 b2 b3).2 = chB n b0 b1 b2 b3 ∧ ¬ ((Lib.decodeN n b0 b1 b2 b3).1 = 65533 ∧ chB n b0 b1 b2 b3 = 1) ∧ ((Lib.decodeN n b0 b1 b2 b3).1 = 0 ↔ b0 = 0) := by
  by_cases a1 : b0 ≤ 127
  · have e1 : chB n b0 b1 b2 b3 = 1 := by rw [chB, if_pos a1]
    have e2 : Lib.decodeN n b0 b1 b2 b3 = (b0, 1) := by rw [Lib.decodeN, if_pos (by omega)]
    rw [e1, e2]
    simp
    omega
  by_cases a2 : (194 ≤ b0 ∧ b0 ≤ 223) ∧ 1 < n ∧ 128 ≤ b1 ∧ b1 ≤ 191
  · have e1 : chB n b0 b1 b2 b3 = 2 := by rw [chB, if_neg a1, if_pos a2]
    have e2 : Lib.decodeN n b0 b1 b2 b3 = (b0 % 32 * 64 + b1 % 64, 2) := by rw [Lib.decodeN, if_neg (by omega), if_pos (by omega), if_pos (by omega)]
    rw [e1, e2]
    simp
    omega
  by_cases a3 : (224 ≤ b0 ∧ b0 ≤ 239) ∧ (1 < n ∧ (b0 = 224 ∧ 160 ≤ b1 ∨ b0 ≠ 224 ∧ 128 ≤ b1) ∧ (b0 = 237 ∧ b1 ≤ 159 ∨ b0 ≠ 237 ∧ b1 ≤ 191)) ∧ 2 < n ∧ 128 ≤ b2 ∧ b2 ≤ 191
  · have e1 : chB n b0 b1 b2 b3 = 3 := by rw [chB, if_neg a1, if_neg a2, if_pos a3]
    have e2 : Lib.decodeN n b0 b1 b2 b3 = (b0 % 16 * 4096 + b1 % 64 * 64 + b2 % 64, 3) := by
      rw [Lib.decodeN, if_neg (by omega), if_neg (by omega), if_pos (by omega), if_pos (by omega)]
    rw [e1, e2]
    simp
    omega
  by_cases a4 : (240 ≤ b0 ∧ b0 ≤ 244) ∧ (1 < n ∧ (b0 = 240 ∧ 144 ≤ b1 ∨ b0 ≠ 240 ∧ 128 ≤ b1) ∧ (b0 = 244 ∧ b1 ≤ 143 ∨ b0 ≠ 244 ∧ b1 ≤ 191)) ∧ (2 < n ∧ 128 ≤ b2 ∧ b2 ≤ 191) ∧ 3 < n ∧ 128 ≤ b3 ∧ b3 ≤ 191
  · have e1 : chB n b0 b1 b2 b3 = 4 := by rw [chB, if_neg a1, if_neg a2, if_neg a3, if_pos a4]
    have e2 : Lib.decodeN n b0 b1 b2 b3 = (b0 % 8 * 262144 + b1 % 64 * 4096 + b2 % 64 * 64 + b3 % 64, 4) := by
      rw [Lib.decodeN, if_neg (by omega), if_neg (by omega), if_neg (by omega), if_pos (by omega), if_pos (by omega)]
    rw [e1, e2]
    simp
    omega
  · have e1 : chB n b0 b1 b2 b3 = 0 := by rw [chB, if_neg a1, if_neg a2, if_neg a3, if_neg a4]
    rw [if_pos e1, Lib.decodeN, if_neg (by omega)]
    split
    · rw [if_neg (by omega)]
    split
    · rw [if_neg (by omega)]
    split
    · rw [if_neg (by omega)]
    · rfl
theorem chW_eq (l : List UInt8) (k : Nat) (hk : k < l.length) : chW l k = chB (l.drop k).length ((l.drop k).getD 0 0).toNat ((l.drop k).getD 1 0).toNat ((l.drop k).getD 2 0).toNat ((l.drop k).getD 3 0).toNat := by
  simp only [List.length_drop, List.getD_eq_getElem?_getD, List.getElem?_drop, Nat.add_zero]
  have w0 : ∀ a b, wi l k a b = decide (a ≤ (l[k]?.getD 0).toNat ∧ (l[k]?.getD 0).toNat ≤ b) := fun a b => by
    simp only [wi, List.getD_eq_getElem?_getD, hk, true_and]
  have w1 : ∀ j a b, wi l (k + j) a b = decide (j < l.length - k ∧ a ≤ (l[k + j]?.getD 0).toNat ∧ (l[k + j]?.getD 0).toNat ≤ b) := fun j a b => by
    simp only [wi, List.getD_eq_getElem?_getD]
    congr 1
    exact propext ⟨fun h => ⟨by omega, h.2⟩, fun h => ⟨by omega, h.2⟩⟩
  simp only [chW, ch1, ch2, ch3, ch4, w0, w1]
  generalize (l[k]?.getD 0).toNat = b0
  generalize (l[k + 1]?.getD 0).toNat = b1
  generalize (l[k + 2]?.getD 0).toNat = b2
  generalize (l[k + 3]?.getD 0).toNat = b3
  generalize l.length - k = n
  simp only [Bool.and_eq_true, decide_eq_true_eq]
  unfold chB
  by_cases a1 : b0 ≤ 127
  · rw [if_pos (by omega), if_pos a1]
  rw [if_neg (by omega), if_neg a1]
  by_cases a2 : (194 ≤ b0 ∧ b0 ≤ 223) ∧ 1 < n ∧ 128 ≤ b1 ∧ b1 ≤ 191
  · rw [if_pos a2, if_pos a2]
  rw [if_neg a2, if_neg a2]
  have j1 : ∀ m, ((if 224 ≤ b0 ∧ b0 ≤ 224 then 160 else 128) ≤ m ↔ (b0 = 224 ∧ 160 ≤ m ∨ b0 ≠ 224 ∧ 128 ≤ m)) := fun m => by split <;> omega
  have j2 : ∀ m, (m ≤ (if 237 ≤ b0 ∧ b0 ≤ 237 then 159 else 191) ↔ (b0 = 237 ∧ m ≤ 159 ∨ b0 ≠ 237 ∧ m ≤ 191)) := fun m => by split <;> omega
  simp only [j1, j2]
  by_cases a3 : (224 ≤ b0 ∧ b0 ≤ 239) ∧ (1 < n ∧ (b0 = 224 ∧ 160 ≤ b1 ∨ b0 ≠ 224 ∧ 128 ≤ b1) ∧ (b0 = 237 ∧ b1 ≤ 159 ∨ b0 ≠ 237 ∧ b1 ≤ 191)) ∧ 2 < n ∧ 128 ≤ b2 ∧ b2 ≤ 191
  · rw [if_pos ⟨⟨a3.1, a3.2.1⟩, a3.2.2⟩, if_pos a3]
  rw [if_neg (fun h => a3 ⟨h.1.1, h.1.2, h.2⟩), if_neg a3]
  by_cases h240 : 240 ≤ b0
  case neg => rw [if_neg (by omega), if_neg (by omega)]
  have n224 : ¬ (224 ≤ b0 ∧ b0 ≤ 224) := by omega
  have n237 : ¬ (237 ≤ b0 ∧ b0 ≤ 237) := by omega
  rw [if_neg n224, if_neg n237]
  have j3 : ∀ m, ((if 240 ≤ b0 ∧ b0 ≤ 240 then 144 else 128) ≤ m ↔ (b0 = 240 ∧ 144 ≤ m ∨ b0 ≠ 240 ∧ 128 ≤ m)) := fun m => by split <;> omega
  have j4 : ∀ m, (m ≤ (if 244 ≤ b0 ∧ b0 ≤ 244 then 143 else 191) ↔ (b0 = 244 ∧ m ≤ 143 ∨ b0 ≠ 244 ∧ m ≤ 191)) := fun m => by split <;> omega
  simp only [j3, j4]
  by_cases a4 : (240 ≤ b0 ∧ b0 ≤ 244) ∧ (1 < n ∧ (b0 = 240 ∧ 144 ≤ b1 ∨ b0 ≠ 240 ∧ 128 ≤ b1) ∧ (b0 = 244 ∧ b1 ≤ 143 ∨ b0 ≠ 244 ∧ b1 ≤ 191)) ∧ (2 < n ∧ 128 ≤ b2 ∧ b2 ≤ 191) ∧ 3 < n ∧ 128 ≤ b3 ∧ b3 ≤ 191
  · rw [if_pos ⟨⟨⟨a4.1, a4.2.1⟩, a4.2.2.1⟩, a4.2.2.2⟩, if_pos a4]
  · rw [if_neg (fun h => a4 ⟨h.1.1.1, h.1.1.2, h.1.2, h.2⟩), if_neg a4]
theorem ch_law (l : List UInt8) (k : Nat) (hk : k < l.length) :
    if chW l k = 0 then decL (l.drop k) = (65533, 1) else (decL (l.drop k)).2 = chW l k ∧ ¬ ((decL (l.drop k)).1 = 65533 ∧ chW l k = 1) ∧ ((decL (l.drop k)).1 = 0 ↔ (l.getD k 0).toNat = 0) := by
  have h := chB_eq (l.drop k).length ((l.drop k).getD 0 0).toNat ((l.drop k).getD 1 0).toNat ((l.drop k).getD 2 0).toNat ((l.drop k).getD 3 0).toNat (UInt8.toNat_lt _) (UInt8.toNat_lt _) (UInt8.toNat_lt _) (UInt8.toNat_lt _)
  rw [← chW_eq l k hk] at h
  have e : ((l.drop k).getD 0 0) = l.getD k 0 := by simp [List.getD]
  rw [e] at h
  unfold decL
  rw [e]
  exact h
theorem good_step (l : List UInt8) (k : Nat) (hk : k < l.length) : if chW l k = 0 ∨ (l.getD k 0).toNat = 0 then good (l.drop k) = false else good (l.drop k) = good (l.drop (k + chW l k)) := by
  have hne : l.drop k ≠ [] := by
    intro e
    have := congrArg List.length e
    simp at this
    omega
  have h := ch_law l k hk
  rw [good_cons hne]
  by_cases h0 : chW l k = 0
  · rw [if_pos h0] at h
    rw [if_pos (.inl h0), h]
    simp
  · rw [if_neg h0] at h
    obtain ⟨h1, h2, h3⟩ := h
    by_cases h4 : (l.getD k 0).toNat = 0
    · rw [if_pos (.inr h4)]
      simp [h3.2 h4]
    · rw [if_neg (fun h => h.elim h0 h4), h1, List.drop_drop]
      have e1 : ((decL (l.drop k)).1 == 0) = false := by simpa using fun e => h4 (h3.1 e)
      have e2 : ((decL (l.drop k)).1 == 65533 && chW l k == 1) = false := by
        by_cases hx : (decL (l.drop k)).1 = 65533
        · have : ¬ chW l k = 1 := fun e => h2 ⟨hx, e⟩
          simp [this]
        · simp [hx]
      rw [e1, e2]; simp
theorem chW_le (l : List UInt8) (k : Nat) (hk : k < l.length) : k + chW l k ≤ l.length := by
  have h := ch_law l k hk
  have hne : l.drop k ≠ [] := by
    intro e
    have := congrArg List.length e
    simp at this
    omega
  have hw := decL_width (l.drop k) hne
  simp only [List.length_drop] at hw
  split at h
  · omega
  · omega
end Go.Proofs.YtkijkoakloacoaaGreatDoor

namespace Go.Proofs.YtkijkoakloacoaaGreatDoor
open Go
set_option linter.unusedVariables false
set_option linter.unusedSimpArgs false
set_option maxRecDepth 100000


theorem within_any {w0 w : World} {A : HP} (h : St w0 A w) (l : List UInt8) (hl : l.length ≤ 9223372036854775800) (k lo hi : Nat) :
    Calls Tryz.prog 131 #[.string (strOf l), .int .i64 k, .int .u8 lo, .int .u8 hi] w fun e w' => St w0 A w' ∧ e = .returned (.bool (wi l k lo hi)) := by
  refine F131.calls (by simp) ?_
  unfold F131.code
  by_cases h1 : (k : Int) < l.length
  case neg =>
    have e0 : wi l k lo hi = false := by simp [wi]; omega
    simp -dsimp -implicitDefEqProofs (disch := omega) only [go_sem, reqD_of, dec_t, dec_f, wrap_i64, wrap_u32, wrap_u64, wrap_u8, h1, e0]
    exact h
  obtain ⟨c, hc⟩ : ∃ c, c = (l.getD k 0).toNat := ⟨_, rfl⟩
  by_cases h2 : (lo : Int) ≤ (c : Int)
  case neg =>
    have e0 : wi l k lo hi = false := decide_eq_false (by rw [← hc]; omega)
    simp -dsimp -implicitDefEqProofs (disch := omega) only [go_sem, reqD_of, dec_t, dec_f, wrap_i64, wrap_u32, wrap_u64, wrap_u8, h1, e0, ← hc, h2]
    exact h
  by_cases h3 : (c : Int) ≤ hi
  case neg =>
    have e0 : wi l k lo hi = false := decide_eq_false (by rw [← hc]; omega)
    simp -dsimp -implicitDefEqProofs (disch := omega) only [go_sem, reqD_of, dec_t, dec_f, wrap_i64, wrap_u32, wrap_u64, wrap_u8, h1, e0, ← hc, h2, h3]
    exact h
  have e0 : wi l k lo hi = true := decide_eq_true (by rw [← hc]; omega)
  simp -dsimp -implicitDefEqProofs (disch := omega) only [go_sem, reqD_of, dec_t, dec_f, wrap_i64, wrap_u32, wrap_u64, wrap_u8, h1, e0, ← hc, h2, h3]
  exact h

section
attribute [local go_sem] F120.t18_eq
end
section
variable {w0 w : World} {A : HP} {l : List UInt8} {k : Nat} {e : FA} {R : Ending → World → Prop}
theorem ch_t16 {θ : Tag (F120.t16, fnP Tryz.prog #[.tmp 4] R, e, w)} {lo hi : Nat} (h : St w0 A w) (hl : l.length ≤ 9223372036854775800) (hk : k < l.length)
    (hd : e.ds = []) (e0 : e.ρ 0 = .string (strOf l)) (e1 : e.ρ 1 = .int .i64 k) (e5 : e.ρ 5 = .int .u8 lo) (e6 : e.ρ 6 = .int .u8 hi)
    (hQ : ∀ w', St w0 A w' → R (.returned (.int .i64 (ch4 l k lo hi))) w') : cwE Tryz.prog F120.t16 (fnP Tryz.prog #[.tmp 4] R) e w θ := by
  rw [F120.t16_eq]
  unfold F120.t18
  simp -dsimp -implicitDefEqProofs (disch := omega) only [go_sem, reqD_of, dec_t, dec_f, wrap_i64, wrap_u32, wrap_u64, wrap_u8, hd, e0, e1, e5, e6]
  refine (within_any h l hl k 240 244).mono ?_
  rintro e' w1 ⟨h1, rfl⟩
  cases b1 : wi l k 240 244
  · have hr : ch4 l k lo hi = 0 := by simp [ch4, b1]
    rw [hr] at hQ
    simp -dsimp -implicitDefEqProofs (disch := omega) only [go_sem, reqD_of, dec_t, dec_f, wrap_i64, wrap_u32, wrap_u64, wrap_u8, hd, e0, e1, e5, e6]
    exact hQ _ h1
  simp -dsimp -implicitDefEqProofs (disch := omega) only [go_sem, reqD_of, dec_t, dec_f, wrap_i64, wrap_u32, wrap_u64, wrap_u8, hd, e0, e1, e5, e6]
  refine (within_any h1 l hl (k + 1) lo hi).mono ?_
  rintro e' w2 ⟨h2, rfl⟩
  cases b2 : wi l (k + 1) lo hi
  · have hr : ch4 l k lo hi = 0 := by simp [ch4, b2]
    rw [hr] at hQ
    simp -dsimp -implicitDefEqProofs (disch := omega) only [go_sem, reqD_of, dec_t, dec_f, wrap_i64, wrap_u32, wrap_u64, wrap_u8, hd, e0, e1, e5, e6]
    exact hQ _ h2
  simp -dsimp -implicitDefEqProofs (disch := omega) only [go_sem, reqD_of, dec_t, dec_f, wrap_i64, wrap_u32, wrap_u64, wrap_u8, hd, e0, e1, e5, e6]
  refine (within_any h2 l hl (k + 2) 128 191).mono ?_
  rintro e' w3 ⟨h3, rfl⟩
  cases b3 : wi l (k + 2) 128 191
  · have hr : ch4 l k lo hi = 0 := by simp [ch4, b3]
    rw [hr] at hQ
    simp -dsimp -implicitDefEqProofs (disch := omega) only [go_sem, reqD_of, dec_t, dec_f, wrap_i64, wrap_u32, wrap_u64, wrap_u8, hd, e0, e1, e5, e6]
    exact hQ _ h3
  simp -dsimp -implicitDefEqProofs (disch := omega) only [go_sem, reqD_of, dec_t, dec_f, wrap_i64, wrap_u32, wrap_u64, wrap_u8, hd, e0, e1, e5, e6]
  refine (within_any h3 l hl (k + 3) 128 191).mono ?_
  rintro e' w4 ⟨h4, rfl⟩
  cases b4 : wi l (k + 3) 128 191
  · have hr : ch4 l k lo hi = 0 := by simp [ch4, b4]
    rw [hr] at hQ
    simp -dsimp -implicitDefEqProofs (disch := omega) only [go_sem, reqD_of, dec_t, dec_f, wrap_i64, wrap_u32, wrap_u64, wrap_u8, hd, e0, e1, e5, e6]
    exact hQ _ h4
  have hr : ch4 l k lo hi = 4 := by simp [ch4, b1, b2, b3, b4]
  rw [hr] at hQ
  simp -dsimp -implicitDefEqProofs (disch := omega) only [go_sem, reqD_of, dec_t, dec_f, wrap_i64, wrap_u32, wrap_u64, wrap_u8, hd, e0, e1, e5, e6]
  exact hQ _ h4
theorem ch_t14 {θ : Tag (F120.t14, fnP Tryz.prog #[.tmp 4] R, e, w)} {lo hi : Nat} (h : St w0 A w) (hl : l.length ≤ 9223372036854775800) (hk : k < l.length)
    (hd : e.ds = []) (e0 : e.ρ 0 = .string (strOf l)) (e1 : e.ρ 1 = .int .i64 k) (e5 : e.ρ 5 = .int .u8 lo) (e6 : e.ρ 6 = .int .u8 hi)
    (hQ : ∀ w', St w0 A w' → R (.returned (.int .i64 (ch4 l k lo (if wi l k 244 244 then 143 else hi)))) w') : cwE Tryz.prog F120.t14 (fnP Tryz.prog #[.tmp 4] R) e w θ := by
  rw [F120.t14_eq]
  simp -dsimp -implicitDefEqProofs (disch := omega) only [go_sem, reqD_of, dec_t, dec_f, wrap_i64, wrap_u32, wrap_u64, wrap_u8, hd, e0, e1, e5, e6]
  refine (within_any h l hl k 244 244).mono ?_
  rintro e' w1 ⟨h1, rfl⟩
  cases b1 : wi l k 244 244 <;> rw [b1] at hQ
  · simp -dsimp -implicitDefEqProofs (disch := omega) only [go_sem, reqD_of, dec_t, dec_f, wrap_i64, wrap_u32, wrap_u64, wrap_u8, hd, e0, e1, e5, e6]
    exact ch_t16 (lo := lo) (hi := hi) h1 hl hk (by simp -dsimp -implicitDefEqProofs only [go_sem, hd]) (by simp -dsimp -implicitDefEqProofs only [go_sem, e0]) (by simp -dsimp -implicitDefEqProofs only [go_sem, e1]) (by simp -dsimp -implicitDefEqProofs only [go_sem, e5]) (by simp -dsimp -implicitDefEqProofs only [go_sem, e6]) hQ
  · simp -dsimp -implicitDefEqProofs (disch := omega) only [go_sem, reqD_of, dec_t, dec_f, wrap_i64, wrap_u32, wrap_u64, wrap_u8, hd, e0, e1, e5, e6]
    exact ch_t16 (lo := lo) (hi := 143) h1 hl hk (by simp -dsimp -implicitDefEqProofs only [go_sem, hd]) (by simp -dsimp -implicitDefEqProofs only [go_sem, e0]) (by simp -dsimp -implicitDefEqProofs only [go_sem, e1]) (by simp -dsimp -implicitDefEqProofs only [go_sem, e5]) (by simp -dsimp -implicitDefEqProofs only [go_sem]) hQ
theorem ch_t12 {θ : Tag (F120.t12, fnP Tryz.prog #[.tmp 4] R, e, w)} {lo hi : Nat} (h : St w0 A w) (hl : l.length ≤ 9223372036854775800) (hk : k < l.length)
    (hd : e.ds = []) (e0 : e.ρ 0 = .string (strOf l)) (e1 : e.ρ 1 = .int .i64 k) (e5 : e.ρ 5 = .int .u8 lo) (e6 : e.ρ 6 = .int .u8 hi)
    (hQ : ∀ w', St w0 A w' → R (.returned (.int .i64 (ch3 l k lo hi))) w') : cwE Tryz.prog F120.t12 (fnP Tryz.prog #[.tmp 4] R) e w θ := by
  rw [F120.t12_eq]
  unfold ch3 at hQ
  simp -dsimp -implicitDefEqProofs (disch := omega) only [go_sem, reqD_of, dec_t, dec_f, wrap_i64, wrap_u32, wrap_u64, wrap_u8, hd, e0, e1, e5, e6]
  refine (within_any h l hl k 240 240).mono ?_
  rintro e' w1 ⟨h1, rfl⟩
  cases b1 : wi l k 240 240 <;> rw [b1] at hQ
  · simp -dsimp -implicitDefEqProofs (disch := omega) only [go_sem, reqD_of, dec_t, dec_f, wrap_i64, wrap_u32, wrap_u64, wrap_u8, hd, e0, e1, e5, e6]
    exact ch_t14 (lo := lo) (hi := hi) h1 hl hk (by simp -dsimp -implicitDefEqProofs only [go_sem, hd]) (by simp -dsimp -implicitDefEqProofs only [go_sem, e0]) (by simp -dsimp -implicitDefEqProofs only [go_sem, e1]) (by simp -dsimp -implicitDefEqProofs only [go_sem, e5]) (by simp -dsimp -implicitDefEqProofs only [go_sem, e6]) hQ
  · simp -dsimp -implicitDefEqProofs (disch := omega) only [go_sem, reqD_of, dec_t, dec_f, wrap_i64, wrap_u32, wrap_u64, wrap_u8, hd, e0, e1, e5, e6]
    exact ch_t14 (lo := 144) (hi := hi) h1 hl hk (by simp -dsimp -implicitDefEqProofs only [go_sem, hd]) (by simp -dsimp -implicitDefEqProofs only [go_sem, e0]) (by simp -dsimp -implicitDefEqProofs only [go_sem, e1]) (by simp -dsimp -implicitDefEqProofs only [go_sem]) (by simp -dsimp -implicitDefEqProofs only [go_sem, e6]) hQ
theorem ch_t10 {θ : Tag (F120.t10, fnP Tryz.prog #[.tmp 4] R, e, w)} {lo hi : Nat} (h : St w0 A w) (hl : l.length ≤ 9223372036854775800) (hk : k < l.length)
    (hd : e.ds = []) (e0 : e.ρ 0 = .string (strOf l)) (e1 : e.ρ 1 = .int .i64 k) (e5 : e.ρ 5 = .int .u8 lo) (e6 : e.ρ 6 = .int .u8 hi)
    (hQ : ∀ w', St w0 A w' → R (.returned (.int .i64 (ch2 l k lo hi))) w') : cwE Tryz.prog F120.t10 (fnP Tryz.prog #[.tmp 4] R) e w θ := by
  rw [F120.t10_eq]
  simp -dsimp -implicitDefEqProofs (disch := omega) only [go_sem, reqD_of, dec_t, dec_f, wrap_i64, wrap_u32, wrap_u64, wrap_u8, hd, e0, e1, e5, e6]
  refine (within_any h l hl k 224 239).mono ?_
  rintro e' w1 ⟨h1, rfl⟩
  cases b1 : wi l k 224 239
  · have hr : ch2 l k lo hi = ch3 l k lo hi := by simp [ch2, b1]
    rw [hr] at hQ
    simp -dsimp -implicitDefEqProofs (disch := omega) only [go_sem, reqD_of, dec_t, dec_f, wrap_i64, wrap_u32, wrap_u64, wrap_u8, hd, e0, e1, e5, e6]
    exact ch_t12 (lo := lo) (hi := hi) h1 hl hk (by simp -dsimp -implicitDefEqProofs only [go_sem, hd]) (by simp -dsimp -implicitDefEqProofs only [go_sem, e0]) (by simp -dsimp -implicitDefEqProofs only [go_sem, e1]) (by simp -dsimp -implicitDefEqProofs only [go_sem, e5]) (by simp -dsimp -implicitDefEqProofs only [go_sem, e6]) hQ
  simp -dsimp -implicitDefEqProofs (disch := omega) only [go_sem, reqD_of, dec_t, dec_f, wrap_i64, wrap_u32, wrap_u64, wrap_u8, hd, e0, e1, e5, e6]
  refine (within_any h1 l hl (k + 1) lo hi).mono ?_
  rintro e' w2 ⟨h2, rfl⟩
  cases b2 : wi l (k + 1) lo hi
  · have hr : ch2 l k lo hi = ch3 l k lo hi := by simp [ch2, b2]
    rw [hr] at hQ
    simp -dsimp -implicitDefEqProofs (disch := omega) only [go_sem, reqD_of, dec_t, dec_f, wrap_i64, wrap_u32, wrap_u64, wrap_u8, hd, e0, e1, e5, e6]
    exact ch_t12 (lo := lo) (hi := hi) h2 hl hk (by simp -dsimp -implicitDefEqProofs only [go_sem, hd]) (by simp -dsimp -implicitDefEqProofs only [go_sem, e0]) (by simp -dsimp -implicitDefEqProofs only [go_sem, e1]) (by simp -dsimp -implicitDefEqProofs only [go_sem, e5]) (by simp -dsimp -implicitDefEqProofs only [go_sem, e6]) hQ
  simp -dsimp -implicitDefEqProofs (disch := omega) only [go_sem, reqD_of, dec_t, dec_f, wrap_i64, wrap_u32, wrap_u64, wrap_u8, hd, e0, e1, e5, e6]
  refine (within_any h2 l hl (k + 2) 128 191).mono ?_
  rintro e' w3 ⟨h3, rfl⟩
  cases b3 : wi l (k + 2) 128 191
  · have hr : ch2 l k lo hi = ch3 l k lo hi := by simp [ch2, b3]
    rw [hr] at hQ
    simp -dsimp -implicitDefEqProofs (disch := omega) only [go_sem, reqD_of, dec_t, dec_f, wrap_i64, wrap_u32, wrap_u64, wrap_u8, hd, e0, e1, e5, e6]
    exact ch_t12 (lo := lo) (hi := hi) h3 hl hk (by simp -dsimp -implicitDefEqProofs only [go_sem, hd]) (by simp -dsimp -implicitDefEqProofs only [go_sem, e0]) (by simp -dsimp -implicitDefEqProofs only [go_sem, e1]) (by simp -dsimp -implicitDefEqProofs only [go_sem, e5]) (by simp -dsimp -implicitDefEqProofs only [go_sem, e6]) hQ
  have hr : ch2 l k lo hi = 3 := by simp [ch2, b1, b2, b3]
  rw [hr] at hQ
  simp -dsimp -implicitDefEqProofs (disch := omega) only [go_sem, reqD_of, dec_t, dec_f, wrap_i64, wrap_u32, wrap_u64, wrap_u8, hd, e0, e1, e5, e6]
  exact hQ _ h3
theorem ch_t8 {θ : Tag (F120.t8, fnP Tryz.prog #[.tmp 4] R, e, w)} {lo hi : Nat} (h : St w0 A w) (hl : l.length ≤ 9223372036854775800) (hk : k < l.length)
    (hd : e.ds = []) (e0 : e.ρ 0 = .string (strOf l)) (e1 : e.ρ 1 = .int .i64 k) (e5 : e.ρ 5 = .int .u8 lo) (e6 : e.ρ 6 = .int .u8 hi)
    (hQ : ∀ w', St w0 A w' → R (.returned (.int .i64 (ch2 l k lo (if wi l k 237 237 then 159 else hi)))) w') : cwE Tryz.prog F120.t8 (fnP Tryz.prog #[.tmp 4] R) e w θ := by
  rw [F120.t8_eq]
  simp -dsimp -implicitDefEqProofs (disch := omega) only [go_sem, reqD_of, dec_t, dec_f, wrap_i64, wrap_u32, wrap_u64, wrap_u8, hd, e0, e1, e5, e6]
  refine (within_any h l hl k 237 237).mono ?_
  rintro e' w1 ⟨h1, rfl⟩
  cases b1 : wi l k 237 237 <;> rw [b1] at hQ
  · simp -dsimp -implicitDefEqProofs (disch := omega) only [go_sem, reqD_of, dec_t, dec_f, wrap_i64, wrap_u32, wrap_u64, wrap_u8, hd, e0, e1, e5, e6]
    exact ch_t10 (lo := lo) (hi := hi) h1 hl hk (by simp -dsimp -implicitDefEqProofs only [go_sem, hd]) (by simp -dsimp -implicitDefEqProofs only [go_sem, e0]) (by simp -dsimp -implicitDefEqProofs only [go_sem, e1]) (by simp -dsimp -implicitDefEqProofs only [go_sem, e5]) (by simp -dsimp -implicitDefEqProofs only [go_sem, e6]) hQ
  · simp -dsimp -implicitDefEqProofs (disch := omega) only [go_sem, reqD_of, dec_t, dec_f, wrap_i64, wrap_u32, wrap_u64, wrap_u8, hd, e0, e1, e5, e6]
    exact ch_t10 (lo := lo) (hi := 159) h1 hl hk (by simp -dsimp -implicitDefEqProofs only [go_sem, hd]) (by simp -dsimp -implicitDefEqProofs only [go_sem, e0]) (by simp -dsimp -implicitDefEqProofs only [go_sem, e1]) (by simp -dsimp -implicitDefEqProofs only [go_sem, e5]) (by simp -dsimp -implicitDefEqProofs only [go_sem]) hQ
theorem ch_t5 {θ : Tag (F120.t5, fnP Tryz.prog #[.tmp 4] R, e, w)} (h : St w0 A w) (hl : l.length ≤ 9223372036854775800) (hk : k < l.length)
    (hd : e.ds = []) (e0 : e.ρ 0 = .string (strOf l)) (e1 : e.ρ 1 = .int .i64 k)
    (hQ : ∀ w', St w0 A w' → R (.returned (.int .i64 (ch1 l k))) w') : cwE Tryz.prog F120.t5 (fnP Tryz.prog #[.tmp 4] R) e w θ := by
  rw [F120.t5_eq]
  unfold ch1 at hQ
  simp -dsimp -implicitDefEqProofs (disch := omega) only [go_sem, reqD_of, dec_t, dec_f, wrap_i64, wrap_u32, wrap_u64, wrap_u8, hd, e0, e1]
  refine (within_any h l hl k 224 224).mono ?_
  rintro e' w1 ⟨h1, rfl⟩
  cases b1 : wi l k 224 224 <;> rw [b1] at hQ
  · simp -dsimp -implicitDefEqProofs (disch := omega) only [go_sem, reqD_of, dec_t, dec_f, wrap_i64, wrap_u32, wrap_u64, wrap_u8, hd, e0, e1]
    exact ch_t8 (lo := 128) (hi := 191) h1 hl hk (by simp -dsimp -implicitDefEqProofs only [go_sem, hd]) (by simp -dsimp -implicitDefEqProofs only [go_sem, e0]) (by simp -dsimp -implicitDefEqProofs only [go_sem, e1]) (by simp -dsimp -implicitDefEqProofs only [go_sem]) (by simp -dsimp -implicitDefEqProofs only [go_sem]) hQ
  · simp -dsimp -implicitDefEqProofs (disch := omega) only [go_sem, reqD_of, dec_t, dec_f, wrap_i64, wrap_u32, wrap_u64, wrap_u8, hd, e0, e1]
    exact ch_t8 (lo := 160) (hi := 191) h1 hl hk (by simp -dsimp -implicitDefEqProofs only [go_sem, hd]) (by simp -dsimp -implicitDefEqProofs only [go_sem, e0]) (by simp -dsimp -implicitDefEqProofs only [go_sem, e1]) (by simp -dsimp -implicitDefEqProofs only [go_sem]) (by simp -dsimp -implicitDefEqProofs only [go_sem]) hQ
end
theorem character_any {w0 w : World} {A : HP} (h : St w0 A w) (l : List UInt8) (hl : l.length ≤ 9223372036854775800) (k : Nat) (hk : k < l.length) :
    Calls Tryz.prog 120 #[.string (strOf l), .int .i64 k] w fun e w' => St w0 A w' ∧ e = .returned (.int .i64 (chW l k)) := by
  refine F120.calls (by simp) ?_
  unfold F120.code
  simp -dsimp -implicitDefEqProofs (disch := omega) only [go_sem, reqD_of, dec_t, dec_f, wrap_i64, wrap_u32, wrap_u64, wrap_u8]
  refine (within_any h l hl k 0 127).mono ?_
  rintro e' w1 ⟨h1, rfl⟩
  cases b1 : wi l k 0 127
  case true =>
    have hr : chW l k = 1 := by simp [chW, b1]
    rw [hr]
    simp -dsimp -implicitDefEqProofs (disch := omega) only [go_sem, reqD_of, dec_t, dec_f, wrap_i64, wrap_u32, wrap_u64, wrap_u8]
    exact h1
  unfold F120.t3
  simp -dsimp -implicitDefEqProofs (disch := omega) only [go_sem, reqD_of, dec_t, dec_f, wrap_i64, wrap_u32, wrap_u64, wrap_u8]
  refine (within_any h1 l hl k 194 223).mono ?_
  rintro e' w2 ⟨h2, rfl⟩
  cases b2 : wi l k 194 223
  · have hr : chW l k = ch1 l k := by simp [chW, b1, b2]
    rw [hr]
    simp -dsimp -implicitDefEqProofs (disch := omega) only [go_sem, reqD_of, dec_t, dec_f, wrap_i64, wrap_u32, wrap_u64, wrap_u8]
    exact ch_t5 h2 hl hk (by simp -dsimp -implicitDefEqProofs only [go_sem]) (by simp -dsimp -implicitDefEqProofs only [go_sem]) (by simp -dsimp -implicitDefEqProofs only [go_sem]) fun w' h' => ⟨h', rfl⟩
  simp -dsimp -implicitDefEqProofs (disch := omega) only [go_sem, reqD_of, dec_t, dec_f, wrap_i64, wrap_u32, wrap_u64, wrap_u8]
  refine (within_any h2 l hl (k + 1) 128 191).mono ?_
  rintro e' w3 ⟨h3, rfl⟩
  cases b3 : wi l (k + 1) 128 191
  · have hr : chW l k = ch1 l k := by simp [chW, b1, b3]
    rw [hr]
    simp -dsimp -implicitDefEqProofs (disch := omega) only [go_sem, reqD_of, dec_t, dec_f, wrap_i64, wrap_u32, wrap_u64, wrap_u8]
    exact ch_t5 h3 hl hk (by simp -dsimp -implicitDefEqProofs only [go_sem]) (by simp -dsimp -implicitDefEqProofs only [go_sem]) (by simp -dsimp -implicitDefEqProofs only [go_sem]) fun w' h' => ⟨h', rfl⟩
  have hr : chW l k = 2 := by simp [chW, b1, b2, b3]
  rw [hr]
  simp -dsimp -implicitDefEqProofs (disch := omega) only [go_sem, reqD_of, dec_t, dec_f, wrap_i64, wrap_u32, wrap_u64, wrap_u8]
  exact h3

section
attribute [local go_sem] F98.t6_eq F98.t3_eq F98.t7_eq
theorem refBad_any {w0 w : World} {A : HP} (h : St w0 A w) (l : List UInt8) (hl : l.length ≤ 9223372036854775800) :
    Calls Tryz.prog 98 #[.string (strOf l)] w fun e w' => St w0 A w' ∧ ∃ k : Nat, e = .returned (.int .i64 k) ∧ decide ((k : Int) = l.length) = good l := by
  refine F98.calls (by simp) ?_
  unfold F98.code
  simp -dsimp -implicitDefEqProofs (disch := omega) only [go_sem, reqD_of, dec_t, dec_f, wrap_i64, wrap_u32, wrap_u64, wrap_u8]
  refine loop_intro (fun e w' => St w0 A w' ∧ e.ds = [] ∧ e.ρ 0 = .string (strOf l) ∧ ∃ k : Nat, k ≤ l.length ∧ e.ρ 3 = .int .i64 k ∧ good l = good (l.drop k))
    (fun e _ => match e.ρ 3 with | .int _ n => (l.length - n).toNat | _ => 0) ?_ ?_
  · exact ⟨h, by simp -dsimp -implicitDefEqProofs only [go_sem], by simp -dsimp -implicitDefEqProofs only [go_sem], 0, by omega, by simp -dsimp -implicitDefEqProofs only [go_sem], rfl⟩
  rintro e w1 ⟨h1, hd, e0, k, hk, e3, hg⟩
  by_cases hlt : (k : Int) < l.length
  case neg =>
    simp -dsimp -implicitDefEqProofs (disch := omega) only [go_sem, reqD_of, dec_t, dec_f, wrap_i64, wrap_u32, wrap_u64, wrap_u8, hd, e0, e3, hlt]
    refine ⟨h1, l.length, rfl, ?_⟩
    rw [hg, List.drop_of_length_le (by omega)]
    simp [good_nil]
  have hkl : k < l.length := by omega
  have hs := good_step l k hkl
  have hle := chW_le l k hkl
  simp -dsimp -implicitDefEqProofs (disch := omega) only [go_sem, reqD_of, dec_t, dec_f, wrap_i64, wrap_u32, wrap_u64, wrap_u8, hd, e0, e3, hlt]
  refine (character_any h1 l hl k hkl).mono ?_
  rintro e' w2 ⟨h2, rfl⟩
  by_cases h0 : chW l k = 0
  · rw [if_pos (.inl h0)] at hs
    rw [h0]
    simp -dsimp -implicitDefEqProofs (disch := omega) only [go_sem, reqD_of, dec_t, dec_f, wrap_i64, wrap_u32, wrap_u64, wrap_u8, hd, e0, e3, hlt]
    refine ⟨h2, k, rfl, ?_⟩
    rw [hg, hs]
    exact decide_eq_false (by omega)
  have h0' : ¬ ((chW l k : Nat) : Int) = 0 := by omega
  obtain ⟨c, hc⟩ : ∃ c, c = (l.getD k 0).toNat := ⟨_, rfl⟩
  by_cases h4 : (c : Int) = 0
  · rw [if_pos (.inr (by rw [← hc]; omega))] at hs
    simp -dsimp -implicitDefEqProofs (disch := omega) only [go_sem, reqD_of, dec_t, dec_f, wrap_i64, wrap_u32, wrap_u64, wrap_u8, hd, e0, e3, hlt, h0', ← hc, h4]
    refine ⟨h2, k, rfl, ?_⟩
    rw [hg, hs]
    exact decide_eq_false (by omega)
  · rw [if_neg (by rw [← hc]; omega)] at hs
    simp -dsimp -implicitDefEqProofs (disch := omega) only [go_sem, reqD_of, dec_t, dec_f, wrap_i64, wrap_u32, wrap_u64, wrap_u8, hd, e0, e3, hlt, h0', ← hc, h4]
    exact ⟨⟨h2, k + chW l k, hle, by omega, by rw [hg, hs]⟩, by omega⟩

end

theorem refGood_any {w0 w : World} {A : HP} (h : St w0 A w) (l : List UInt8) (hl : l.length ≤ 9223372036854775800) :
    Calls Tryz.prog 85 #[.string (strOf l)] w fun e w' => St w0 A w' ∧ e = .returned (.bool (good l)) := by
  refine F85.calls (by simp) ?_
  unfold F85.code
  simp -dsimp -implicitDefEqProofs (disch := omega) only [go_sem, reqD_of, dec_t, dec_f, wrap_i64, wrap_u32, wrap_u64, wrap_u8]
  refine (refBad_any h l hl).mono ?_
  rintro e' w1 ⟨h1, k, rfl, hk⟩
  simp -dsimp -implicitDefEqProofs (disch := omega) only [go_sem, reqD_of, dec_t, dec_f, wrap_i64, wrap_u32, wrap_u64, wrap_u8, hk]
  exact h1

end Go.Proofs.YtkijkoakloacoaaGreatDoor

namespace Go.Proofs.YtkijkoakloacoaaGreatDoor
open Go
set_option linter.unusedVariables false
set_option linter.unusedSimpArgs false
set_option maxRecDepth 100000

/-! ### cuts -/

/-- So far cut: pieces P, the last cut before the from-th byte, no cut between it and the i-th. -/
structure CutI (d : UInt8) (l : List UInt8) (P : List (List UInt8)) (fr i : Nat) : Prop where
  eq : pcs d l = P ++ pcs d (l.drop fr)
  le : fr ≤ i
  no : d ∉ (l.drop fr).take (i - fr)
  few : P.length ≤ i
theorem CutI.step {d : UInt8} {l : List UInt8} {P : List (List UInt8)} {fr i : Nat} (c : CutI d l P fr i) (hi : i < l.length) :
    (l[i] = d → CutI d l (P ++ [(l.drop fr).take (i - fr)]) (i + 1) (i + 1)) ∧ (l[i] ≠ d → CutI d l P fr (i + 1)) := by
  obtain ⟨h1, h2, h3, h4⟩ := c
  have hs : l.drop fr = (l.drop fr).take (i - fr) ++ l[i] :: l.drop (i + 1) := by
    conv => lhs; rw [← List.take_append_drop (i - fr) (l.drop fr)]
    rw [List.drop_drop, show fr + (i - fr) = i by omega, List.drop_eq_getElem_cons hi]
  refine ⟨fun e => ⟨?_, Nat.le_refl _, by simp, by simp; omega⟩, fun e => ⟨h1, by omega, ?_, by omega⟩⟩
  · rw [h1]
    conv => lhs; rw [hs, e]
    rw [pcs_app _ h3]
    simp
  · have ht : (l.drop fr).take (i + 1 - fr) = (l.drop fr).take (i - fr) ++ [l[i]] := by
      rw [show i + 1 - fr = (i - fr) + 1 by omega, List.take_succ_eq_append_getElem (by simp; omega)]
      simp only [List.getElem_drop]
      congr 3
      omega
    rw [ht]
    simp only [List.mem_append, List.mem_singleton, not_or]
    exact ⟨h3, fun x => e x.symm⟩
theorem CutI.last {d : UInt8} {l : List UInt8} {P : List (List UInt8)} {fr i : Nat} (c : CutI d l P fr i) (hi : i = l.length) : pcs d l = P ++ [l.drop fr] := by
  obtain ⟨h1, h2, h3, h4⟩ := c
  rw [List.take_of_length_le (by simp; omega)] at h3
  rw [h1, pcs_plain h3]

section
attribute [local go_sem] F36.t5_eq F36.t6_eq F36.t9_eq
theorem cuts_any {w0 w : World} {A : HP} (h : St w0 A w) (l : List UInt8) (hl : l.length ≤ 1099511627776) (d : UInt8) :
    Calls Tryz.prog 36 #[.string (strOf l), .int .u8 (d.toNat : Nat)] w fun e w' => ∃ v, St w0 (rowT v (pcs d l) * A) w' ∧ e = .returned v := by
  refine F36.calls (by simp) ?_
  unfold F36.code
  simp -dsimp -implicitDefEqProofs (disch := omega) only [go_sem, reqD_of, dec_t, dec_f, wrap_i64, wrap_u32, wrap_u64, wrap_u8]
  refine loop_intro (fun e w' => e.ds = [] ∧ e.ρ 0 = .string (strOf l) ∧ e.ρ 1 = .int .u8 (d.toNat : Nat) ∧ ∃ (i fr : Nat) (v : Value) (P : List (List UInt8)), i ≤ l.length ∧ e.ρ 5 = v ∧ e.ρ 6 = .int .i64 fr ∧ e.ρ 7 = .int .i64 i ∧ CutI d l P fr i ∧ St w0 (rowT v P * A) w')
    (fun e _ => match e.ρ 7 with | .int _ n => (l.length - n).toNat | _ => 0) ?_ ?_
  · exact ⟨rfl, by simp -dsimp -implicitDefEqProofs only [go_sem], by simp -dsimp -implicitDefEqProofs only [go_sem], 0, 0, .slice none 0 0, [], by omega, by simp -dsimp -implicitDefEqProofs only [go_sem], by simp -dsimp -implicitDefEqProofs only [go_sem], by simp -dsimp -implicitDefEqProofs only [go_sem], ⟨by simp, by omega, by simp, by simp⟩, h.nilR 9 1⟩
  clear h
  rintro e w1 ⟨hd, e0, e1, i, fr, v, P, hi, e5, e6, e7, hc, h1⟩
  obtain ⟨a, c, rfl, _⟩ := h1.rowForm v
  have hfr := hc.le
  have hfew := hc.few
  by_cases hlt : (i : Int) < l.length
  case neg =>
    have hil : i = l.length := by omega
    simp -dsimp -implicitDefEqProofs (disch := omega) only [go_sem, reqD_of, dec_t, dec_f, wrap_i64, wrap_u32, wrap_u64, wrap_u8, hd, e0, e1, e5, e6, e7, hlt]
    refine h1.lit (t := 22) (n := 1) (cells := [sv (l.drop fr)]) fact_rowTy_22 rfl (by decide) (by decide) fun v2 w2 h2 => ?_
    simp -dsimp -implicitDefEqProofs (disch := omega) only [go_sem, reqD_of, dec_t, dec_f, wrap_i64, wrap_u32, wrap_u64, wrap_u8, hd, e0, e5]
    refine h2.appR (v := .slice a P.length c) (x := v2) fact_rowTy_22 Tryz.underlying22 (fun u hu => by simp at hu; subst hu; rfl) (by simp) (show _ ≤ 9223372036854775807 by omega) (by omega) fun v3 w3 h3 => ?_
    simp -dsimp -implicitDefEqProofs (disch := omega) only [go_sem, reqD_of, dec_t, dec_f, wrap_i64, wrap_u32, wrap_u64, wrap_u8, hd]
    refine ⟨v3, ?_, rfl⟩
    rw [hc.last hil]
    have e1 : rowT v3 (P ++ [l.drop fr]) = RowO 9 1 v3 (P.length + 1) (P.map sv ++ [sv (l.drop fr)]) := by simp [rowT]
    rw [e1]
    exact h3.sub
  have hil : i < l.length := by omega
  obtain ⟨s1, s2⟩ := hc.step hil
  have hg : l.getD i 0 = l[i] := by simp [List.getD, hil]
  by_cases hx : l[i] = d
  · have hx' : ((l[i].toNat : Nat) : Int) = (d.toNat : Nat) := by rw [hx]
    have h9 := s1 hx
    simp -dsimp -implicitDefEqProofs (disch := omega) only [go_sem, reqD_of, dec_t, dec_f, wrap_i64, wrap_u32, wrap_u64, wrap_u8, hd, e0, e1, e5, e6, e7, hlt, hg, hx']
    refine h1.lit (t := 22) (n := 1) (cells := [sv ((l.drop fr).take (i - fr))]) fact_rowTy_22 rfl (by decide) (by decide) fun v2 w2 h2 => ?_
    simp -dsimp -implicitDefEqProofs (disch := omega) only [go_sem, reqD_of, dec_t, dec_f, wrap_i64, wrap_u32, wrap_u64, wrap_u8, hd, e0, e1, e5, e6, e7]
    refine h2.appR (v := .slice a P.length c) (x := v2) fact_rowTy_22 Tryz.underlying22 (fun u hu => by simp at hu; subst hu; rfl) (by simp) (show _ ≤ 9223372036854775807 by omega) (by omega) fun v3 w3 h3 => ?_
    have e9 : rowT v3 (P ++ [(l.drop fr).take (i - fr)]) = RowO 9 1 v3 (P.length + 1) (P.map sv ++ [sv ((l.drop fr).take (i - fr))]) := by simp [rowT]
    simp -dsimp -implicitDefEqProofs (disch := omega) only [go_sem, reqD_of, dec_t, dec_f, wrap_i64, wrap_u32, wrap_u64, wrap_u8, hd, e0, e1, e7]
    refine ⟨⟨i + 1, i + 1, v3, _, by omega, rfl, by omega, by omega, h9, ?_⟩, by omega⟩
    rw [e9]
    exact h3.sub
  · have hx' : ¬ ((l[i].toNat : Nat) : Int) = (d.toNat : Nat) := fun e => hx (UInt8.toNat_inj.1 (by omega))
    have h9 := s2 hx
    simp -dsimp -implicitDefEqProofs (disch := omega) only [go_sem, reqD_of, dec_t, dec_f, wrap_i64, wrap_u32, wrap_u64, wrap_u8, hd, e0, e1, e5, e6, e7, hlt, hg, hx']
    exact ⟨⟨i + 1, fr, _, P, by omega, rfl, rfl, by omega, h9, h1⟩, by omega⟩

/-! ### Names and keys -/

end
section
attribute [local go_sem] F59.t5_eq F59.t6_eq F59.t9_eq F59.t3_eq
theorem refName_any {w0 w : World} {A : HP} (h : St w0 A w) (l : List UInt8) (hl : l.length ≤ 9223372036854775800) :
    Calls Tryz.prog 59 #[.string (strOf l)] w fun e w' => St w0 A w' ∧ e = .returned (.bool (nameF l)) := by
  refine F59.calls (by simp) ?_
  unfold F59.code
  rw [nameF_eq]
  by_cases hl1 : (l.length : Int) < 1
  · have : l = [] := List.eq_nil_of_length_eq_zero (by omega)
    subst this
    simp -dsimp -implicitDefEqProofs (disch := omega) only [go_sem, reqD_of, dec_t, dec_f, wrap_i64, wrap_u32, wrap_u64, wrap_u8, hl1]
    exact h
  have hne : (l == []) = false := by
    cases l with
    | nil => simp at hl1
    | cons c l => rfl
  by_cases hl2 : (l.length : Int) > 32
  · have : decide (l.length ≤ 32) = false := decide_eq_false (by omega)
    rw [this]
    simp -dsimp -implicitDefEqProofs (disch := omega) only [go_sem, reqD_of, dec_t, dec_f, wrap_i64, wrap_u32, wrap_u64, wrap_u8, hl1, hl2]
    first | exact h | exact ⟨h, by simp⟩
  have hl3 : decide (l.length ≤ 32) = true := decide_eq_true (by omega)
  rw [hne, hl3]
  simp -dsimp -implicitDefEqProofs (disch := omega) only [go_sem, reqD_of, dec_t, dec_f, wrap_i64, wrap_u32, wrap_u64, wrap_u8, hl1, hl2]
  refine (refGood_any h l (by omega)).mono ?_
  rintro e w1 ⟨h1, rfl⟩
  cases hg : good l
  · simp -dsimp -implicitDefEqProofs (disch := omega) only [go_sem, reqD_of, dec_t, dec_f, wrap_i64, wrap_u32, wrap_u64, wrap_u8, hg]
    first | exact h1 | exact ⟨h1, by simp⟩
  simp -dsimp -implicitDefEqProofs (disch := omega) only [go_sem, reqD_of, dec_t, dec_f, wrap_i64, wrap_u32, wrap_u64, wrap_u8, hg]
  refine loop_intro (fun e w' => e.ds = [] ∧ e.ρ 0 = .string (strOf l) ∧ St w0 A w' ∧ ∃ i : Nat, i ≤ l.length ∧ e.ρ 3 = .int .i64 i ∧ (l.all fun c => !badR c.toNat) = ((l.drop i).all fun c => !badR c.toNat))
    (fun e _ => match e.ρ 3 with | .int _ n => (l.length - n).toNat | _ => 0) ?_ ?_
  · exact ⟨by simp -dsimp -implicitDefEqProofs only [go_sem], by simp -dsimp -implicitDefEqProofs only [go_sem], h1, 0, by omega, by simp -dsimp -implicitDefEqProofs only [go_sem], by simp⟩
  clear h h1
  rintro e w1 ⟨hd, e0, h1, i, hi, e3, hq⟩
  by_cases hlt : (i : Int) < l.length
  case neg =>
    rw [List.drop_of_length_le (by omega)] at hq
    simp -dsimp -implicitDefEqProofs (disch := omega) only [go_sem, reqD_of, dec_t, dec_f, wrap_i64, wrap_u32, wrap_u64, wrap_u8, hd, e0, e3, hlt]
    first | exact h1 | exact ⟨h1, by rw [hq]; rfl⟩
  have hil : i < l.length := by omega
  rw [List.drop_eq_getElem_cons hil, List.all_cons] at hq
  obtain ⟨c, hc⟩ : ∃ c, c = (l.getD i 0).toNat := ⟨_, rfl⟩
  have hc' : l[i].toNat = c := by rw [hc]; simp [List.getD, hil]
  rw [hc'] at hq
  have fin : badR c = true → (l.all fun c => !badR c.toNat) = false := fun hb => by rw [hq, hb]; rfl
  by_cases b1 : (c : Int) < 33
  · have := fin (by simp only [badR, Bool.or_eq_true, decide_eq_true_eq, beq_iff_eq]; omega)
    rw [this]
    simp -dsimp -implicitDefEqProofs (disch := omega) only [go_sem, reqD_of, dec_t, dec_f, wrap_i64, wrap_u32, wrap_u64, wrap_u8, hd, e0, e3, hlt, ← hc, b1]
    exact h1
  by_cases b2 : (c : Int) = 127
  · have := fin (by simp only [badR, Bool.or_eq_true, decide_eq_true_eq, beq_iff_eq]; omega)
    rw [this]
    simp -dsimp -implicitDefEqProofs (disch := omega) only [go_sem, reqD_of, dec_t, dec_f, wrap_i64, wrap_u32, wrap_u64, wrap_u8, hd, e0, e3, hlt, ← hc, b1, b2]
    exact h1
  by_cases b3 : (c : Int) = 58
  · have := fin (by simp only [badR, Bool.or_eq_true, decide_eq_true_eq, beq_iff_eq]; omega)
    rw [this]
    simp -dsimp -implicitDefEqProofs (disch := omega) only [go_sem, reqD_of, dec_t, dec_f, wrap_i64, wrap_u32, wrap_u64, wrap_u8, hd, e0, e3, hlt, ← hc, b1, b2, b3]
    exact h1
  by_cases b4 : (c : Int) = 44
  · have := fin (by simp only [badR, Bool.or_eq_true, decide_eq_true_eq, beq_iff_eq]; omega)
    rw [this]
    simp -dsimp -implicitDefEqProofs (disch := omega) only [go_sem, reqD_of, dec_t, dec_f, wrap_i64, wrap_u32, wrap_u64, wrap_u8, hd, e0, e3, hlt, ← hc, b1, b2, b3, b4]
    exact h1
  by_cases b5 : (c : Int) = 35
  · have := fin (by simp only [badR, Bool.or_eq_true, decide_eq_true_eq, beq_iff_eq]; omega)
    rw [this]
    simp -dsimp -implicitDefEqProofs (disch := omega) only [go_sem, reqD_of, dec_t, dec_f, wrap_i64, wrap_u32, wrap_u64, wrap_u8, hd, e0, e3, hlt, ← hc, b1, b2, b3, b4, b5]
    exact h1
  by_cases b6 : (c : Int) = 47
  · have := fin (by simp only [badR, Bool.or_eq_true, decide_eq_true_eq, beq_iff_eq]; omega)
    rw [this]
    simp -dsimp -implicitDefEqProofs (disch := omega) only [go_sem, reqD_of, dec_t, dec_f, wrap_i64, wrap_u32, wrap_u64, wrap_u8, hd, e0, e3, hlt, ← hc, b1, b2, b3, b4, b5, b6]
    exact h1
  have hb : badR c = false := by simp only [badR, Bool.or_eq_false_iff, decide_eq_false_iff_not, beq_eq_false_iff_ne]; omega
  rw [hb] at hq
  simp -dsimp -implicitDefEqProofs (disch := omega) only [go_sem, reqD_of, dec_t, dec_f, wrap_i64, wrap_u32, wrap_u64, wrap_u8, hd, e0, e3, hlt, ← hc, b1, b2, b3, b4, b5, b6]
  exact ⟨⟨h1, i + 1, by omega, by omega, by rw [hq]; simp⟩, by omega⟩

end
section
attribute [local go_sem] F79.t5_eq F79.t6_eq F79.t8_eq F79.t3_eq
theorem refKey_any {w0 w : World} {A : HP} (h : St w0 A w) (l : List UInt8) (hl : l.length ≤ 9223372036854775800) :
    Calls Tryz.prog 79 #[.string (strOf l)] w fun e w' => St w0 A w' ∧ e = .returned (.bool (keyF l)) := by
  refine F79.calls (by simp) ?_
  unfold F79.code
  by_cases hl2 : (l.length : Int) > 32
  · have : keyF l = false := by unfold keyF; rw [decide_eq_false (show ¬ l.length ≤ 32 by omega), Bool.and_false]
    rw [this]
    simp -dsimp -implicitDefEqProofs (disch := omega) only [go_sem, reqD_of, dec_t, dec_f, wrap_i64, wrap_u32, wrap_u64, wrap_u8, hl2]
    exact h
  have hk : keyF l = (l.all fun c => decide (33 ≤ c.toNat) && decide (c.toNat ≤ 126) && !(c.toNat == 58)) := by unfold keyF; rw [decide_eq_true (show l.length ≤ 32 by omega), Bool.and_true]
  rw [hk]
  simp -dsimp -implicitDefEqProofs (disch := omega) only [go_sem, reqD_of, dec_t, dec_f, wrap_i64, wrap_u32, wrap_u64, wrap_u8, hl2]
  refine loop_intro (fun e w' => e.ds = [] ∧ e.ρ 0 = .string (strOf l) ∧ St w0 A w' ∧ ∃ i : Nat, i ≤ l.length ∧ e.ρ 3 = .int .i64 i ∧ (l.all fun c => decide (33 ≤ c.toNat) && decide (c.toNat ≤ 126) && !(c.toNat == 58)) = ((l.drop i).all fun c => decide (33 ≤ c.toNat) && decide (c.toNat ≤ 126) && !(c.toNat == 58)))
    (fun e _ => match e.ρ 3 with | .int _ n => (l.length - n).toNat | _ => 0) ?_ ?_
  · exact ⟨by simp -dsimp -implicitDefEqProofs only [go_sem], by simp -dsimp -implicitDefEqProofs only [go_sem], h, 0, by omega, by simp -dsimp -implicitDefEqProofs only [go_sem], by simp⟩
  clear h
  rintro e w1 ⟨hd, e0, h1, i, hi, e3, hq⟩
  by_cases hlt : (i : Int) < l.length
  case neg =>
    rw [List.drop_of_length_le (by omega)] at hq
    simp -dsimp -implicitDefEqProofs (disch := omega) only [go_sem, reqD_of, dec_t, dec_f, wrap_i64, wrap_u32, wrap_u64, wrap_u8, hd, e0, e3, hlt]
    first | exact h1 | exact ⟨h1, by rw [hq]; rfl⟩
  have hil : i < l.length := by omega
  rw [List.drop_eq_getElem_cons hil, List.all_cons] at hq
  obtain ⟨c, hc⟩ : ∃ c, c = (l.getD i 0).toNat := ⟨_, rfl⟩
  have hc' : l[i].toNat = c := by rw [hc]; simp [List.getD, hil]
  rw [hc'] at hq
  by_cases b1 : (c : Int) < 33
  · rw [decide_eq_false (show ¬ 33 ≤ c by omega)] at hq
    rw [hq]
    simp -dsimp -implicitDefEqProofs (disch := omega) only [go_sem, reqD_of, dec_t, dec_f, wrap_i64, wrap_u32, wrap_u64, wrap_u8, hd, e0, e3, hlt, ← hc, b1]
    first | exact h1 | exact ⟨h1, by simp⟩
  by_cases b2 : (c : Int) > 126
  · rw [decide_eq_false (show ¬ c ≤ 126 by omega)] at hq
    rw [hq]
    simp -dsimp -implicitDefEqProofs (disch := omega) only [go_sem, reqD_of, dec_t, dec_f, wrap_i64, wrap_u32, wrap_u64, wrap_u8, hd, e0, e3, hlt, ← hc, b1, b2]
    exact h1
  by_cases b3 : (c : Int) = 58
  · have : (c == 58) = true := by simp; omega
    rw [this] at hq
    rw [hq]
    simp -dsimp -implicitDefEqProofs (disch := omega) only [go_sem, reqD_of, dec_t, dec_f, wrap_i64, wrap_u32, wrap_u64, wrap_u8, hd, e0, e3, hlt, ← hc, b1, b2, b3]
    first | exact h1 | exact ⟨h1, by simp⟩
  rw [decide_eq_true (show 33 ≤ c by omega), decide_eq_true (show c ≤ 126 by omega), beq_eq_false_iff_ne.2 (show c ≠ 58 by omega)] at hq
  simp -dsimp -implicitDefEqProofs (disch := omega) only [go_sem, reqD_of, dec_t, dec_f, wrap_i64, wrap_u32, wrap_u64, wrap_u8, hd, e0, e3, hlt, ← hc, b1, b2, b3]
  exact ⟨⟨h1, i + 1, by omega, by omega, by rw [hq]; simp⟩, by omega⟩
end
end Go.Proofs.YtkijkoakloacoaaGreatDoor

namespace Go.Proofs.YtkijkoakloacoaaGreatDoor
open Go
set_option linter.unusedVariables false
set_option linter.unusedSimpArgs false
set_option maxRecDepth 100000

/-- No field of it is beyond all bounds. -/
structure Sm (a : Acc) : Prop where
  n : a.name.length ≤ 140737488355328
  l : a.leader.length ≤ 140737488355328
  k : a.key.length ≤ 140737488355328
  m : ∀ t ∈ a.members, t.length ≤ 140737488355328
  c : a.members.length ≤ 140737488355328

/-- A text of a list that is read. -/
theorem St.textAt {w0 w : World} {A : HP} (h : St w0 A w) {av : Option Addr} {cv : Nat} {ls : List (List UInt8)} (hv : Ent A (ReadsT (.slice av ls.length cv) ls)) {i : Nat} (hi : i < ls.length) :
    ∃ b o, av = some ⟨b, o, none⟩ ∧ w.cell? ⟨b, o + i, none⟩ = some (sv ls[i]) := by
  obtain ⟨b, o, e, hc⟩ := (h.ent hv).atS (a := av) (n := ls.length) (c := cv) (xs := ls.map sv) (k := i) (by simpa using hi)
  rw [List.getElem_map] at hc
  exact ⟨b, o, e, hc⟩

section
attribute [local go_sem] F51.t5_eq F51.t6_eq F51.t8_eq
theorem right_t3 {w0 w : World} {A : HP} {P : Nat} {a : Acc} {av : Option Addr} {cv : Nat} {e : FA} (hd : e.ds = []) (e1 : e.ρ 1 = .pointer (some ⟨P, 0, none⟩)) (hs : Sm a) (hv : Ent A (ReadsT (.slice av a.members.length cv) a.members))
    (h : St w0 (Blk P (.cells (accL a (.slice av a.members.length cv)).toArray 72 (0, 0)) * A) w) (hf : formF a = a.members.all nameF) :
    cwE Tryz.prog F51.t3 (fnP Tryz.prog #[.tmp 2] fun e w' => St w0 A w' ∧ e = .returned (.bool (formF a))) e w := by
  rw [F51.t3_eq]
  rw [hf]
  have hmc := hs.c
  simp -dsimp -implicitDefEqProofs (disch := omega) only [go_sem, reqD_of, dec_t, dec_f, wrap_i64, wrap_u32, wrap_u64, wrap_u8, hd, e1]
  refine loop_intro (fun e w' => e.ds = [] ∧ e.ρ 1 = .pointer (some ⟨P, 0, none⟩) ∧ St w0 (Blk P (.cells (accL a (.slice av a.members.length cv)).toArray 72 (0, 0)) * A) w' ∧ ∃ i : Nat, i ≤ a.members.length ∧ e.ρ 3 = .int .i64 i ∧ a.members.all nameF = (a.members.drop i).all nameF)
    (fun e _ => match e.ρ 3 with | .int _ n => (a.members.length - n).toNat | _ => 0) ?_ ?_
  · exact ⟨by simp -dsimp -implicitDefEqProofs only [go_sem, hd], by simp -dsimp -implicitDefEqProofs only [go_sem, e1], h, 0, by omega, by simp -dsimp -implicitDefEqProofs only [go_sem], rfl⟩
  clear h hd e1
  rintro e w6 ⟨hd, e1, h6, i, hi, e3, hk⟩
  by_cases hlt : (i : Int) < (a.members.length : Int)
  case neg =>
    have : a.members.drop i = [] := List.drop_of_length_le (by omega)
    rw [this, List.all_nil] at hk
    simp -dsimp -implicitDefEqProofs (disch := omega) only [go_sem, reqD_of, dec_t, dec_f, wrap_i64, wrap_u32, wrap_u64, wrap_u8, hd, e1, e3, hlt, h6.cl P, hk]
    exact h6.right
  have hlt' : i < a.members.length := by omega
  obtain ⟨b, o, rfl, hcell⟩ := h6.right.textAt hv hlt'
  have hdr : a.members.drop i = a.members[i] :: a.members.drop (i + 1) := List.drop_eq_getElem_cons hlt'
  have hql := hs.m _ (List.getElem_mem hlt')
  obtain ⟨q, hq⟩ : ∃ q, q = a.members[i] := ⟨_, rfl⟩
  rw [← hq] at hdr hcell hql
  rw [hdr, List.all_cons] at hk
  simp -dsimp -implicitDefEqProofs (disch := omega) only [go_sem, reqD_of, dec_t, dec_f, wrap_i64, wrap_u32, wrap_u64, wrap_u8, hd, e1, e3, hlt, hcell, h6.cl P]
  refine (refName_any h6 q (by omega)).mono ?_
  rintro e' w7 ⟨h7, rfl⟩
  cases hn : nameF q
  · rw [hn, Bool.false_and] at hk
    simp -dsimp -implicitDefEqProofs (disch := omega) only [go_sem, reqD_of, dec_t, dec_f, wrap_i64, wrap_u32, wrap_u64, wrap_u8, hd, e1, e3, hk]
    exact h7.right
  · rw [hn, Bool.true_and] at hk
    simp -dsimp -implicitDefEqProofs (disch := omega) only [go_sem, reqD_of, dec_t, dec_f, wrap_i64, wrap_u32, wrap_u64, wrap_u8, hd, e1, e3]
    exact ⟨⟨h7, i + 1, by omega, by omega, hk⟩, by omega⟩
theorem right_any {w0 w : World} {A : HP} (h : St w0 A w) {a : Acc} {v : Value} (hv : Ent A (ReadsT v a.members)) (hs : Sm a) :
    Calls Tryz.prog 51 #[accV a v] w fun e w' => St w0 A w' ∧ e = .returned (.bool (formF a)) := by
  obtain ⟨av, cv, rfl, hcv, hx⟩ := h.texts hv
  have b1 := hs.n; have b2 := hs.l; have b3 := hs.k
  refine F51.calls (by simp) ?_
  unfold F51.code
  simp -dsimp -implicitDefEqProofs (disch := omega) only [go_sem, reqD_of, dec_t, dec_f, wrap_i64, wrap_u32, wrap_u64, wrap_u8]
  refine h.new fun P w1 h1 => ?_
  simp -dsimp -implicitDefEqProofs (disch := omega) only [go_sem, reqD_of, dec_t, dec_f, wrap_i64, wrap_u32, wrap_u64, wrap_u8, h1.cl P]
  refine (refName_any h1 a.name (by omega)).mono ?_
  rintro e w2 ⟨h2, rfl⟩
  cases n1 : nameF a.name
  · have hn : formF a = false := by simp [formF, n1]
    simp -dsimp -implicitDefEqProofs (disch := omega) only [go_sem, reqD_of, dec_t, dec_f, wrap_i64, wrap_u32, wrap_u64, wrap_u8, hn]
    exact h2.right
  by_cases hl : a.leader = []
  · have e0 : decide (a.leader = []) = true := by simp [hl]
    simp -dsimp -implicitDefEqProofs (disch := omega) only [go_sem, reqD_of, dec_t, dec_f, wrap_i64, wrap_u32, wrap_u64, wrap_u8, h2.cl P, e0]
    refine (refKey_any h2 a.key (by omega)).mono ?_
    rintro e w3 ⟨h3, rfl⟩
    cases n3 : keyF a.key
    · have hn : formF a = false := by simp [formF, n3]
      simp -dsimp -implicitDefEqProofs (disch := omega) only [go_sem, reqD_of, dec_t, dec_f, wrap_i64, wrap_u32, wrap_u64, wrap_u8, hn]
      exact h3.right
    simp -dsimp -implicitDefEqProofs (disch := omega) only [go_sem, reqD_of, dec_t, dec_f, wrap_i64, wrap_u32, wrap_u64, wrap_u8]
    exact right_t3 (P := P) (by simp -dsimp -implicitDefEqProofs only [go_sem]) (by simp -dsimp -implicitDefEqProofs only [go_sem]) hs hv h3 (by simp [formF, n1, n3, hl])
  simp -dsimp -implicitDefEqProofs (disch := omega) only [go_sem, reqD_of, dec_t, dec_f, wrap_i64, wrap_u32, wrap_u64, wrap_u8, h2.cl P, hl]
  refine (refName_any h2 a.leader (by omega)).mono ?_
  rintro e w3 ⟨h3, rfl⟩
  cases n2 : nameF a.leader
  · have hn : formF a = false := by simp [formF, n2, hl]
    simp -dsimp -implicitDefEqProofs (disch := omega) only [go_sem, reqD_of, dec_t, dec_f, wrap_i64, wrap_u32, wrap_u64, wrap_u8, hn]
    exact h3.right
  simp -dsimp -implicitDefEqProofs (disch := omega) only [go_sem, reqD_of, dec_t, dec_f, wrap_i64, wrap_u32, wrap_u64, wrap_u8, h3.cl P]
  refine (refKey_any h3 a.key (by omega)).mono ?_
  rintro e w4 ⟨h4, rfl⟩
  cases n3 : keyF a.key
  · have hn : formF a = false := by simp [formF, n3]
    simp -dsimp -implicitDefEqProofs (disch := omega) only [go_sem, reqD_of, dec_t, dec_f, wrap_i64, wrap_u32, wrap_u64, wrap_u8, hn]
    exact h4.right
  simp -dsimp -implicitDefEqProofs (disch := omega) only [go_sem, reqD_of, dec_t, dec_f, wrap_i64, wrap_u32, wrap_u64, wrap_u8]
  exact right_t3 (P := P) (by simp -dsimp -implicitDefEqProofs only [go_sem]) (by simp -dsimp -implicitDefEqProofs only [go_sem]) hs hv h4 (by simp [formF, n1, n2, n3])

/-! ### A line as an account -/

theorem pcs_sizes (d : UInt8) (l : List UInt8) : ∀ p ∈ pcs d l, p.length ≤ l.length := by
  intro p hp
  have h := pcs_total d l
  have key : ∀ ls : List (List UInt8), p ∈ ls → p.length ≤ (ls.map List.length).sum := fun ls => by
    induction ls with
    | nil => intro h; cases h
    | cons q ls ih =>
      intro h
      simp only [List.map_cons, List.sum_cons]
      rcases List.mem_cons.1 h with rfl | h
      · omega
      · have := ih h; omega
  have := key _ hp
  omega

end
section
attribute [local go_sem] F37.t9_eq F37.t4_eq
theorem raccount_end {w0 w : World} {A : HP} {P2 P5 : Nat} {a : Acc} {v : Value} {e : FA} {l : List UInt8} (hd : e.ds = []) (e2 : e.ρ 2 = .pointer (some ⟨P2, 0, none⟩)) (e5 : e.ρ 5 = .pointer (some ⟨P5, 0, none⟩)) (hs : Sm a)
    (h : St w0 (rowT v a.members * (Blk P5 (.cells (accL a v).toArray 72 (0, 0)) * (Blk P2 (.cells #[sv [], sv [], .slice none 0 0, sv []] 72 (0, 0)) * A))) w) (ha : accF l = if formF a = true then some a else none) :
    cwE Tryz.prog F37.t7 (fnP Tryz.prog #[.cell 2 72, .tmp 3] fun e w' => (∃ a v, accF l = some a ∧ Sm a ∧ St w0 (rowT v a.members * A) w' ∧ e = .returned (.tuple #[accV a v, .bool true])) ∨ (accF l = none ∧ St w0 A w' ∧ e = .returned (.tuple #[accV ⟨[], [], [], []⟩ (.slice none 0 0), .bool false]))) e w := by
  rw [F37.t7_eq]
  have r5 := h.rowH P5 4 rfl
  obtain ⟨av, cv, rfl, _⟩ := h.rowForm v
  simp -dsimp -implicitDefEqProofs (disch := omega) only [go_sem, reqD_of, dec_t, dec_f, wrap_i64, wrap_u32, wrap_u64, wrap_u8, hd, e2, e5, r5]
  refine (right_any (a := a) (v := .slice av a.members.length cv) h ((Ent.left _ _).trans (RowO.reads _ _ _ _ _)) hs).mono ?_
  rintro e' w1 ⟨h1, rfl⟩
  cases n1 : formF a
  · rw [n1, if_neg (by simp)] at ha
    simp -dsimp -implicitDefEqProofs (disch := omega) only [go_sem, reqD_of, dec_t, dec_f, wrap_i64, wrap_u32, wrap_u64, wrap_u8, hd, e2, ha]
    refine onV_of (v := .agg #[sv [], sv [], .slice none 0 0, sv []]) (by kernel_rfl) ?_
    simp -dsimp -implicitDefEqProofs (disch := omega) only [go_sem, reqD_of, dec_t, dec_f, wrap_i64, wrap_u32, wrap_u64, wrap_u8, hd, e2]
    refine h1.stoAll (b := P2) (n := 4) (cs := [sv [], sv [], .slice none 0 0, sv []]) rfl rfl (fun v hv => by simp at hv; rcases hv with rfl | rfl | rfl | rfl <;> rfl) fun w2 h2 => ?_
    have r2 := h2.rowH P2 4 rfl
    simp -dsimp -implicitDefEqProofs (disch := omega) only [go_sem, reqD_of, dec_t, dec_f, wrap_i64, wrap_u32, wrap_u64, wrap_u8, hd, e2, r2]
    refine resC_2 (a := ⟨P2, 0, none⟩) (v := .agg #[sv [], sv [], .slice none 0 0, sv []]) (by simp -dsimp -implicitDefEqProofs only [go_sem, e2]) (run_loadVar_row (by kernel_rfl) r2) ?_
    exact .inr ⟨ha, h2.right.right.right, rfl⟩
  · rw [n1, if_pos rfl] at ha
    have r5 := h1.rowH P5 4 rfl
    simp -dsimp -implicitDefEqProofs (disch := omega) only [go_sem, reqD_of, dec_t, dec_f, wrap_i64, wrap_u32, wrap_u64, wrap_u8, hd, e2, e5, r5, h1.cl P5]
    refine h1.stoAll (b := P2) (n := 4) (cs := accL a (.slice av a.members.length cv)) rfl rfl (fun v hv => by simp at hv; rcases hv with rfl | rfl | rfl | rfl <;> rfl) fun w2 h2 => ?_
    have r2 := h2.rowH P2 4 rfl
    simp -dsimp -implicitDefEqProofs (disch := omega) only [go_sem, reqD_of, dec_t, dec_f, wrap_i64, wrap_u32, wrap_u64, wrap_u8, hd, e2, r2]
    refine resC_2 (a := ⟨P2, 0, none⟩) (v := accV a (.slice av a.members.length cv)) (by simp -dsimp -implicitDefEqProofs only [go_sem, e2]) (run_loadVar_row (by kernel_rfl) r2) ?_
    exact .inl ⟨a, _, ha, hs, h2.sub, rfl⟩

end
section
attribute [local go_sem] F37.t9_eq F37.t4_eq
theorem raccount_any {w0 w : World} {A : HP} (h : St w0 A w) {l : List UInt8} (hl : l.length ≤ 16777215) :
    Calls Tryz.prog 37 #[.string (strOf l)] w fun e w' =>
      (∃ a v, accF l = some a ∧ Sm a ∧ St w0 (rowT v a.members * A) w' ∧ e = .returned (.tuple #[accV a v, .bool true])) ∨ (accF l = none ∧ St w0 A w' ∧ e = .returned (.tuple #[accV ⟨[], [], [], []⟩ (.slice none 0 0), .bool false])) := by
  refine F37.calls (by simp) ?_
  unfold F37.code
  simp -dsimp -implicitDefEqProofs (disch := omega) only [go_sem, reqD_of, dec_t, dec_f, wrap_i64, wrap_u32, wrap_u64, wrap_u8]
  refine h.new fun P2 w1 h1 => ?_
  simp -dsimp -implicitDefEqProofs (disch := omega) only [go_sem, reqD_of, dec_t, dec_f, wrap_i64, wrap_u32, wrap_u64, wrap_u8]
  refine (cuts_any h1 l (by omega) 58).mono ?_
  rintro e w2 ⟨v, h2, rfl⟩
  obtain ⟨av, cv, rfl, _⟩ := h2.rowForm v
  by_cases n2 : (pcs 58 l).length = 4
  case neg =>
    have hn : accF l = none := by rw [accF, if_neg (fun x => n2 x.1)]
    have n3 : ¬ (((pcs 58 l).length : Nat) : Int) = 4 := by omega
    simp -dsimp -implicitDefEqProofs (disch := omega) only [go_sem, reqD_of, dec_t, dec_f, wrap_i64, wrap_u32, wrap_u64, wrap_u8, n3]
    refine onV_of (v := .agg #[sv [], sv [], .slice none 0 0, sv []]) (by kernel_rfl) ?_
    simp -dsimp -implicitDefEqProofs (disch := omega) only [go_sem, reqD_of, dec_t, dec_f, wrap_i64, wrap_u32, wrap_u64, wrap_u8]
    refine h2.stoAll (b := P2) (n := 4) (cs := [sv [], sv [], .slice none 0 0, sv []]) rfl rfl (fun v hv => by simp at hv; rcases hv with rfl | rfl | rfl | rfl <;> rfl) fun w3 h3 => ?_
    have r2 := h3.rowH P2 4 rfl
    simp -dsimp -implicitDefEqProofs (disch := omega) only [go_sem, reqD_of, dec_t, dec_f, wrap_i64, wrap_u32, wrap_u64, wrap_u8, r2]
    refine resC_2 (a := ⟨P2, 0, none⟩) (v := .agg #[sv [], sv [], .slice none 0 0, sv []]) (by simp -dsimp -implicitDefEqProofs only [go_sem]) (run_loadVar_row (by kernel_rfl) r2) ?_
    exact .inr ⟨hn, h3.right.right, rfl⟩
  have htot := pcs_total 58 l
  obtain ⟨f0, f1, f2, f3, hf⟩ : ∃ f0 f1 f2 f3, pcs 58 l = [f0, f1, f2, f3] := by
    match hm : pcs 58 l, n2 with
    | [a, b, c, d], _ => exact ⟨a, b, c, d, rfl⟩
  have hraw : rawF l = ⟨f0, f1, membersF f2, f3⟩ := by simp [rawF, hf]
  rw [hf] at h2 htot
  simp only [List.map_cons, List.map_nil, List.sum_cons, List.sum_nil, List.length_cons, List.length_nil, Nat.zero_add, Nat.reduceAdd] at h2 htot
  rw [hf]
  simp only [List.length_cons, List.length_nil, Nat.zero_add, Nat.reduceAdd]
  replace h2 : St w0 (RowO 9 1 (.slice av 4 cv) 4 [sv f0, sv f1, sv f2, sv f3] * _) w2 := h2
  obtain ⟨g, o, rfl, _⟩ := (h2.gives (B := Reads 1 (.slice av 4 cv) 4 [sv f0, sv f1, sv f2, sv f3])).atS (a := av) (n := 4) (c := cv) (xs := [sv f0, sv f1, sv f2, sv f3]) (k := 0) (by simp)
  have cc : ∀ {B : HP} {w' : World}, St w0 B w' → Gives B (RowO 9 1 (.slice (some ⟨g, o, none⟩) 4 cv) 4 [sv f0, sv f1, sv f2, sv f3]) →
      w'.cell? ⟨g, o, none⟩ = some (sv f0) ∧ w'.cell? ⟨g, o + 1, none⟩ = some (sv f1) ∧ w'.cell? ⟨g, o + 2, none⟩ = some (sv f2) ∧ w'.cell? ⟨g, o + 3, none⟩ = some (sv f3) := fun {B w'} hw gi => by
    have i2 : Gives B (Reads 1 (.slice (some ⟨g, o, none⟩) 4 cv) 4 [sv f0, sv f1, sv f2, sv f3]) := ⟨gi.ent.trans (RowO.reads _ _ _ _ _)⟩
    have c0 := hw.atG (i := i2) (k := 0) (by simp)
    have c1 := hw.atG (i := i2) (k := 1) (by simp)
    have c2 := hw.atG (i := i2) (k := 2) (by simp)
    have c3 := hw.atG (i := i2) (k := 3) (by simp)
    simpa using ⟨c0, c1, c2, c3⟩
  have h3 := h2
  obtain ⟨c0, c1, c2, c3⟩ := cc h3.drew inferInstance
  obtain ⟨b0, b1, b2, b3⟩ := cc h3 inferInstance
  simp -dsimp -implicitDefEqProofs (disch := omega) only [go_sem, reqD_of, dec_t, dec_f, wrap_i64, wrap_u32, wrap_u64, wrap_u8, c0, c1, c2, c3, b0, b1, b2, b3]
  refine onV_of (v := accV ⟨f0, f1, [], f3⟩ (.slice none 0 0)) (by kernel_rfl) ?_
  simp -dsimp -implicitDefEqProofs (disch := omega) only [go_sem, reqD_of, dec_t, dec_f, wrap_i64, wrap_u32, wrap_u64, wrap_u8]
  refine h3.drew.new fun P4 w4 h4 => ?_
  obtain ⟨d0, d1, d2, d3⟩ := cc h4 inferInstance
  simp -dsimp -implicitDefEqProofs (disch := omega) only [go_sem, reqD_of, dec_t, dec_f, wrap_i64, wrap_u32, wrap_u64, wrap_u8, d0, d1, d2, d3]
  refine h4.stoAll (b := P4) (n := 4) (cs := accL ⟨f0, f1, [], f3⟩ (.slice none 0 0)) rfl rfl (fun v hv => by simp at hv; rcases hv with rfl | rfl | rfl | rfl <;> rfl) fun w5 h5 => ?_
  clear c0 c1 c2 c3 b0 b1 b2 b3 d0 d1 d2 d3 h1 h2 h3 h4
  obtain ⟨c0, c1, c2, c3⟩ := cc h5 inferInstance
  have haf : ∀ ms, membersF f2 = ms → accF l = if formF ⟨f0, f1, ms, f3⟩ = true then some ⟨f0, f1, ms, f3⟩ else none := fun ms hm => by
    unfold accF
    rw [hraw, hm, n2]
    simp
  by_cases hf2 : f2 = []
  · have e0 : decide (f2 = []) = true := by simp [hf2]
    have hm : membersF f2 = [] := by rw [membersF, if_pos hf2]
    simp -dsimp -implicitDefEqProofs (disch := omega) only [go_sem, reqD_of, dec_t, dec_f, wrap_i64, wrap_u32, wrap_u64, wrap_u8, c0, c1, c2, c3, e0]
    have h6 : St w0 (Blk P4 (.cells (accL ⟨f0, f1, [], f3⟩ (.slice none 0 0)).toArray 72 (0, 0)) * (Blk P2 (.cells #[sv [], sv [], .slice none 0 0, sv []] 72 (0, 0)) * A)) w5 := h5.sub
    exact raccount_end (P2 := P2) (P5 := P4) (a := ⟨f0, f1, [], f3⟩) (v := .slice none 0 0) rfl (by simp -dsimp -implicitDefEqProofs only [go_sem]) (by simp -dsimp -implicitDefEqProofs only [go_sem]) ⟨by simp; omega, by simp; omega, by simp; omega, by simp, by simp⟩ (h6.nilR 9 1) (haf _ hm)
  · have hm : membersF f2 = pcs 44 f2 := by rw [membersF, if_neg hf2]
    have hpl := pcs_length 44 f2
    have hps := pcs_sizes 44 f2
    simp -dsimp -implicitDefEqProofs (disch := omega) only [go_sem, reqD_of, dec_t, dec_f, wrap_i64, wrap_u32, wrap_u64, wrap_u8, c0, c1, c2, c3, hf2]
    refine (cuts_any h5 f2 (by omega) 44).mono ?_
    rintro e w6 ⟨v6, h6, rfl⟩
    obtain ⟨ms, hms⟩ : ∃ ms, ms = pcs 44 f2 := ⟨_, rfl⟩
    rw [← hms] at h6 hm hpl hps
    obtain ⟨a6, c6, rfl, _⟩ := h6.rowForm v6
    simp -dsimp -implicitDefEqProofs (disch := omega) only [go_sem, reqD_of, dec_t, dec_f, wrap_i64, wrap_u32, wrap_u64, wrap_u8]
    refine h6.sto (b := P4) (off := 2) (by simp) rfl fun w7 h7 => ?_
    simp only [List.setIfInBounds_toArray, List.set_cons_succ, List.set_cons_zero] at h7
    simp -dsimp -implicitDefEqProofs (disch := omega) only [go_sem, reqD_of, dec_t, dec_f, wrap_i64, wrap_u32, wrap_u64, wrap_u8]
    have h8 : St w0 (rowT (.slice a6 ms.length c6) ms * (Blk P4 (.cells (accL ⟨f0, f1, ms, f3⟩ (.slice a6 ms.length c6)).toArray 72 (0, 0)) * (Blk P2 (.cells #[sv [], sv [], .slice none 0 0, sv []] 72 (0, 0)) * A))) w7 := h7.sub
    exact raccount_end (P2 := P2) (P5 := P4) (a := ⟨f0, f1, ms, f3⟩) (v := .slice a6 ms.length c6) rfl (by simp -dsimp -implicitDefEqProofs only [go_sem]) (by simp -dsimp -implicitDefEqProofs only [go_sem]) ⟨by simp; omega, by simp; omega, by simp; omega, fun t ht => by have := hps t ht; omega, by simp; omega⟩ h8 (haf _ hm)
end
end Go.Proofs.YtkijkoakloacoaaGreatDoor
