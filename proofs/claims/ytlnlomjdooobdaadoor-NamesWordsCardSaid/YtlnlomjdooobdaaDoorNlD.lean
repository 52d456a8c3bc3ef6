/- The reference's characters are the library's. -/
import Derived.Test.YtlnlomjdooobdaaDoorNaB
namespace Go.Proofs.YtlnlomjdooobdaaDoor
open Go
set_option linter.unusedVariables false

/-! ### The reference's characters are the library's -/

/-- Does a byte lie within two bounds? -/
def wi (l : List UInt8) (k lo hi : Nat) : Bool := decide (k < l.length ∧ lo ≤ (l.getD k 0).toNat ∧ (l.getD k 0).toNat ≤ hi)
def ch4 (l : List UInt8) (k lo hi : Nat) : Nat := if wi l k 240 244 && wi l (k + 1) lo hi && wi l (k + 2) 128 191 && wi l (k + 3) 128 191 then 4 else 0
def ch3 (l : List UInt8) (k lo hi : Nat) : Nat := ch4 l k (if wi l k 240 240 then 144 else lo) (if wi l k 244 244 then 143 else hi)
def ch2 (l : List UInt8) (k lo hi : Nat) : Nat := if wi l k 224 239 && wi l (k + 1) lo hi && wi l (k + 2) 128 191 then 3 else ch3 l k lo hi
def ch1 (l : List UInt8) (k : Nat) : Nat := ch2 l k (if wi l k 224 224 then 160 else 128) (if wi l k 237 237 then 159 else 191)
def chW (l : List UInt8) (k : Nat) : Nat := if wi l k 0 127 then 1 else if wi l k 194 223 && wi l (k + 1) 128 191 then 2 else ch1 l k
def chB (n b0 b1 b2 b3 : Nat) : Nat :=
  if b0 ≤ 127 then 1 else if (194 ≤ b0 ∧ b0 ≤ 223) ∧ 1 < n ∧ 128 ≤ b1 ∧ b1 ≤ 191 then 2
  else if (224 ≤ b0 ∧ b0 ≤ 239) ∧ (1 < n ∧ (b0 = 224 ∧ 160 ≤ b1 ∨ b0 ≠ 224 ∧ 128 ≤ b1) ∧ (b0 = 237 ∧ b1 ≤ 159 ∨ b0 ≠ 237 ∧ b1 ≤ 191)) ∧ 2 < n ∧ 128 ≤ b2 ∧ b2 ≤ 191 then 3
  else if (240 ≤ b0 ∧ b0 ≤ 244) ∧ (1 < n ∧ (b0 = 240 ∧ 144 ≤ b1 ∨ b0 ≠ 240 ∧ 128 ≤ b1) ∧ (b0 = 244 ∧ b1 ≤ 143 ∨ b0 ≠ 244 ∧ b1 ≤ 191)) ∧ (2 < n ∧ 128 ≤ b2 ∧ b2 ≤ 191) ∧ 3 < n ∧ 128 ≤ b3 ∧ b3 ≤ 191 then 4 else 0
theorem chB_eq (n b0 b1 b2 b3 : Nat) (h0 : b0 < 256) (h1 : b1 < 256) (h2 : b2 < 256) (h3 : b3 < 256) :
    if chB n b0 b1 b2 b3 = 0 then Lib.decodeN n b0 b1 b2 b3 = (65533, 1) else (Lib.decodeN n b0 b1 b2 b3).2 = chB n b0 b1 b2 b3 ∧ ¬ ((Lib.decodeN n b0 b1 b2 b3).1 = 65533 ∧ chB n b0 b1 b2 b3 = 1) ∧ ((Lib.decodeN n b0 b1 b2 b3).1 = 0 ↔ b0 = 0) := by
  by_cases a1 : b0 ≤ 127
  · have e1 : chB n b0 b1 b2 b3 = 1 := by rw [chB, if_pos a1]
    have e2 : Lib.decodeN n b0 b1 b2 b3 = (b0, 1) := by rw [Lib.decodeN, if_pos (by omega)]
    rw [e1, e2]
    simp
    omega
  by_cases a2 : (194 ≤ b0 ∧ b0 ≤ 223) ∧ 1 < n ∧ 128 ≤ b1 ∧ b1 ≤ 191
  · have e1 : chB n b0 b1 b2 b3 = 2 := by rw [chB, if_neg a1, if_pos a2]
    have e2 : Lib.decodeN n b0 b1 b2 b3 = (b0 % 32 * 64 + b1 % 64, 2) := by rw [Lib.decodeN, if_neg (by omega), if_pos (by omega), if_pos (by omega)]
    rw [e1, e2]
    simp
    omega
  by_cases a3 : (224 ≤ b0 ∧ b0 ≤ 239) ∧ (1 < n ∧ (b0 = 224 ∧ 160 ≤ b1 ∨ b0 ≠ 224 ∧ 128 ≤ b1) ∧ (b0 = 237 ∧ b1 ≤ 159 ∨ b0 ≠ 237 ∧ b1 ≤ 191)) ∧ 2 < n ∧ 128 ≤ b2 ∧ b2 ≤ 191
  · have e1 : chB n b0 b1 b2 b3 = 3 := by rw [chB, if_neg a1, if_neg a2, if_pos a3]
    have e2 : Lib.decodeN n b0 b1 b2 b3 = (b0 % 16 * 4096 + b1 % 64 * 64 + b2 % 64, 3) := by
      rw [Lib.decodeN, if_neg (by omega), if_neg (by omega), if_pos (by omega), if_pos (by omega)]
    rw [e1, e2]
    simp
    omega
  by_cases a4 : (240 ≤ b0 ∧ b0 ≤ 244) ∧ (1 < n ∧ (b0 = 240 ∧ 144 ≤ b1 ∨ b0 ≠ 240 ∧ 128 ≤ b1) ∧ (b0 = 244 ∧ b1 ≤ 143 ∨ b0 ≠ 244 ∧ b1 ≤ 191)) ∧ (2 < n ∧ 128 ≤ b2 ∧ b2 ≤ 191) ∧ 3 < n ∧ 128 ≤ b3 ∧ b3 ≤ 191
  · have e1 : chB n b0 b1 b2 b3 = 4 := by rw [chB, if_neg a1, if_neg a2, if_neg a3, if_pos a4]
    have e2 : Lib.decodeN n b0 b1 b2 b3 = (b0 % 8 * 262144 + b1 % 64 * 4096 + b2 % 64 * 64 + b3 % 64, 4) := by
      rw [Lib.decodeN, if_neg (by omega), if_neg (by omega), if_neg (by omega), if_pos (by omega), if_pos (by omega)]
    rw [e1, e2]
    simp
    omega
  · have e1 : chB n b0 b1 b2 b3 = 0 := by rw [chB, if_neg a1, if_neg a2, if_neg a3, if_neg a4]
    rw [if_pos e1, Lib.decodeN, if_neg (by omega)]
    split
    · rw [if_neg (by omega)]
    split
    · rw [if_neg (by omega)]
    split
    · rw [if_neg (by omega)]
    · rfl
theorem chW_eq (l : List UInt8) (k : Nat) (hk : k < l.length) : chW l k = chB (l.drop k).length ((l.drop k).getD 0 0).toNat ((l.drop k).getD 1 0).toNat ((l.drop k).getD 2 0).toNat ((l.drop k).getD 3 0).toNat := by
  simp only [List.length_drop, List.getD_eq_getElem?_getD, List.getElem?_drop, Nat.add_zero]
  have w0 : ∀ a b, wi l k a b = decide (a ≤ (l[k]?.getD 0).toNat ∧ (l[k]?.getD 0).toNat ≤ b) := fun a b => by
    simp only [wi, List.getD_eq_getElem?_getD, hk, true_and]
  have w1 : ∀ j a b, wi l (k + j) a b = decide (j < l.length - k ∧ a ≤ (l[k + j]?.getD 0).toNat ∧ (l[k + j]?.getD 0).toNat ≤ b) := fun j a b => by
    simp only [wi, List.getD_eq_getElem?_getD]
    congr 1
    exact propext ⟨fun h => ⟨by omega, h.2⟩, fun h => ⟨by omega, h.2⟩⟩
  simp only [chW, ch1, ch2, ch3, ch4, w0, w1]
  generalize (l[k]?.getD 0).toNat = b0
  generalize (l[k + 1]?.getD 0).toNat = b1
  generalize (l[k + 2]?.getD 0).toNat = b2
  generalize (l[k + 3]?.getD 0).toNat = b3
  generalize l.length - k = n
  simp only [Bool.and_eq_true, decide_eq_true_eq]
  unfold chB
  by_cases a1 : b0 ≤ 127
  · rw [if_pos (by omega), if_pos a1]
  rw [if_neg (by omega), if_neg a1]
  by_cases a2 : (194 ≤ b0 ∧ b0 ≤ 223) ∧ 1 < n ∧ 128 ≤ b1 ∧ b1 ≤ 191
  · rw [if_pos a2, if_pos a2]
  rw [if_neg a2, if_neg a2]
  have j1 : ∀ m, ((if 224 ≤ b0 ∧ b0 ≤ 224 then 160 else 128) ≤ m ↔ (b0 = 224 ∧ 160 ≤ m ∨ b0 ≠ 224 ∧ 128 ≤ m)) := fun m => by split <;> omega
  have j2 : ∀ m, (m ≤ (if 237 ≤ b0 ∧ b0 ≤ 237 then 159 else 191) ↔ (b0 = 237 ∧ m ≤ 159 ∨ b0 ≠ 237 ∧ m ≤ 191)) := fun m => by split <;> omega
  simp only [j1, j2]
  by_cases a3 : (224 ≤ b0 ∧ b0 ≤ 239) ∧ (1 < n ∧ (b0 = 224 ∧ 160 ≤ b1 ∨ b0 ≠ 224 ∧ 128 ≤ b1) ∧ (b0 = 237 ∧ b1 ≤ 159 ∨ b0 ≠ 237 ∧ b1 ≤ 191)) ∧ 2 < n ∧ 128 ≤ b2 ∧ b2 ≤ 191
  · rw [if_pos ⟨⟨a3.1, a3.2.1⟩, a3.2.2⟩, if_pos a3]
  rw [if_neg (fun h => a3 ⟨h.1.1, h.1.2, h.2⟩), if_neg a3]
  by_cases h240 : 240 ≤ b0
  case neg => rw [if_neg (by omega), if_neg (by omega)]
  have n224 : ¬ (224 ≤ b0 ∧ b0 ≤ 224) := by omega
  have n237 : ¬ (237 ≤ b0 ∧ b0 ≤ 237) := by omega
  rw [if_neg n224, if_neg n237]
  have j3 : ∀ m, ((if 240 ≤ b0 ∧ b0 ≤ 240 then 144 else 128) ≤ m ↔ (b0 = 240 ∧ 144 ≤ m ∨ b0 ≠ 240 ∧ 128 ≤ m)) := fun m => by split <;> omega
  have j4 : ∀ m, (m ≤ (if 244 ≤ b0 ∧ b0 ≤ 244 then 143 else 191) ↔ (b0 = 244 ∧ m ≤ 143 ∨ b0 ≠ 244 ∧ m ≤ 191)) := fun m => by split <;> omega
  simp only [j3, j4]
  by_cases a4 : (240 ≤ b0 ∧ b0 ≤ 244) ∧ (1 < n ∧ (b0 = 240 ∧ 144 ≤ b1 ∨ b0 ≠ 240 ∧ 128 ≤ b1) ∧ (b0 = 244 ∧ b1 ≤ 143 ∨ b0 ≠ 244 ∧ b1 ≤ 191)) ∧ (2 < n ∧ 128 ≤ b2 ∧ b2 ≤ 191) ∧ 3 < n ∧ 128 ≤ b3 ∧ b3 ≤ 191
  · rw [if_pos ⟨⟨⟨a4.1, a4.2.1⟩, a4.2.2.1⟩, a4.2.2.2⟩, if_pos a4]
  · rw [if_neg (fun h => a4 ⟨h.1.1.1, h.1.1.2, h.1.2, h.2⟩), if_neg a4]
theorem ch_law (l : List UInt8) (k : Nat) (hk : k < l.length) :
    if chW l k = 0 then decL (l.drop k) = (65533, 1) else (decL (l.drop k)).2 = chW l k ∧ ¬ ((decL (l.drop k)).1 = 65533 ∧ chW l k = 1) ∧ ((decL (l.drop k)).1 = 0 ↔ (l.getD k 0).toNat = 0) := by
  have h := chB_eq (l.drop k).length ((l.drop k).getD 0 0).toNat ((l.drop k).getD 1 0).toNat ((l.drop k).getD 2 0).toNat ((l.drop k).getD 3 0).toNat (UInt8.toNat_lt _) (UInt8.toNat_lt _) (UInt8.toNat_lt _) (UInt8.toNat_lt _)
  rw [← chW_eq l k hk] at h
  have e : ((l.drop k).getD 0 0) = l.getD k 0 := by simp [List.getD]
  rw [e] at h
  unfold decL
  rw [e]
  exact h
theorem good_step (l : List UInt8) (k : Nat) (hk : k < l.length) : if chW l k = 0 ∨ (l.getD k 0).toNat = 0 then good (l.drop k) = false else good (l.drop k) = good (l.drop (k + chW l k)) := by
  have hne : l.drop k ≠ [] := by
    intro e
    have := congrArg List.length e
    simp at this
    omega
  have h := ch_law l k hk
  rw [good_cons hne]
  by_cases h0 : chW l k = 0
  · rw [if_pos h0] at h
    rw [if_pos (.inl h0), h]
    simp
  · rw [if_neg h0] at h
    obtain ⟨h1, h2, h3⟩ := h
    by_cases h4 : (l.getD k 0).toNat = 0
    · rw [if_pos (.inr h4)]
      simp [h3.2 h4]
    · rw [if_neg (fun h => h.elim h0 h4), h1, List.drop_drop]
      have e1 : ((decL (l.drop k)).1 == 0) = false := by simpa using fun e => h4 (h3.1 e)
      have e2 : ((decL (l.drop k)).1 == 65533 && chW l k == 1) = false := by
        by_cases hx : (decL (l.drop k)).1 = 65533
        · have : ¬ chW l k = 1 := fun e => h2 ⟨hx, e⟩
          simp [this]
        · simp [hx]
      rw [e1, e2]; simp
theorem chW_le (l : List UInt8) (k : Nat) (hk : k < l.length) : k + chW l k ≤ l.length := by
  have h := ch_law l k hk
  have hne : l.drop k ≠ [] := by
    intro e
    have := congrArg List.length e
    simp at this
    omega
  have hw := decL_width (l.drop k) hne
  simp only [List.length_drop] at hw
  split at h
  · omega
  · omega
end Go.Proofs.YtlnlomjdooobdaaDoor
