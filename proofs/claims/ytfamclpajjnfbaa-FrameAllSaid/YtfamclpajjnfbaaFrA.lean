/- Walks of the frame package: the small ones. -/
import Derived.Test.YtfamclpajjnfbaaIr
namespace Go.Proofs.Ytfamclpajjnfbaa
open Go
set_option linter.unusedSimpArgs false
set_option linter.unusedVariables false
set_option maxRecDepth 100000

/-- the cells of a cutter -/
def cutCells (limit : Int) (b0 b1 b2 b3 : Int) (heads : Int) (body : Value) (ever taken : Int) (dead : Bool) (ahead : Int) : Array Value :=
  #[.int .u32 limit, .int .u8 b0, .int .u8 b1, .int .u8 b2, .int .u8 b3, .int .i64 heads, body, .int .i64 ever, .int .i64 taken, .bool dead, .int .i64 ahead]

theorem or_shift (s b k : Nat) (hs : s < 2 ^ k) (hb : b < 256) (hk : k + 8 ≤ 32) :
    IntKind.u32.wrap (BitVec.ofInt IntKind.u32.bits (s : Int) ||| BitVec.ofInt IntKind.u32.bits (IntKind.u32.wrap ((b : Int) * 2 ^ k))).toNat = ((s + 2 ^ k * b : Nat) : Int) := by
  have h2 : 2 ^ k * b < 2 ^ (k + 8) := by rw [Nat.pow_add]; exact Nat.mul_lt_mul_of_pos_left (by omega) (Nat.two_pow_pos k)
  have h3 : 2 ^ (k + 8) ≤ 2 ^ 32 := Nat.pow_le_pow_right (by omega) hk
  have h4 : 2 ^ k ≤ 2 ^ 32 := Nat.pow_le_pow_right (by omega) (by omega)
  have e1 : ((b : Int) * 2 ^ k) = ((2 ^ k * b : Nat) : Int) := by push_cast; rw [Int.mul_comm]
  have hb32 : IntKind.u32.bits = 32 := rfl
  rw [e1, wrap_u32 (n := ((2 ^ k * b : Nat) : Int)) (by omega) (by omega), hb32]
  rw [BitVec.ofInt_natCast, BitVec.ofInt_natCast, BitVec.toNat_or, BitVec.toNat_ofNat, BitVec.toNat_ofNat, Nat.mod_eq_of_lt (by omega), Nat.mod_eq_of_lt (by omega), Nat.or_comm, ← Nat.two_pow_add_eq_or_of_lt hs]
  rw [wrap_u32 (by omega) (by
    have : 2 ^ k * b + s < 2 ^ (k + 8) := by
      rw [Nat.pow_add]
      have : 2 ^ k * b + 2 ^ k ≤ 2 ^ k * 2 ^ 8 := by rw [← Nat.mul_succ]; exact Nat.mul_le_mul_left _ (by omega)
      omega
    omega)]
  omega

theorem or_mul (s b : Int) (k : Nat) (m : Int) (hm : m = ((2 ^ k : Nat) : Int)) (hs : 0 ≤ s) (hs' : s < m) (hb : 0 ≤ b) (hb' : b < 256) (hk : k + 8 ≤ 32) :
    IntKind.u32.wrap ((BitVec.ofInt IntKind.u32.bits s ||| BitVec.ofInt IntKind.u32.bits (b * m)).toNat : Int) = s + b * m := by
  obtain ⟨s, rfl⟩ := Int.eq_ofNat_of_zero_le hs
  obtain ⟨b, rfl⟩ := Int.eq_ofNat_of_zero_le hb
  subst hm
  have h2 : 2 ^ k * b < 2 ^ (k + 8) := by rw [Nat.pow_add]; exact Nat.mul_lt_mul_of_pos_left (by omega) (Nat.two_pow_pos k)
  have h3 : 2 ^ (k + 8) ≤ 2 ^ 32 := Nat.pow_le_pow_right (by omega) hk
  have h := or_shift s b k (by omega) (by omega) hk
  have e1 : ((b : Int) * 2 ^ k) = (b : Int) * ((2 ^ k : Nat) : Int) := by push_cast; rfl
  have e2 : (b : Int) * ((2 ^ k : Nat) : Int) = ((2 ^ k * b : Nat) : Int) := by push_cast; rw [Int.mul_comm]
  rw [e1, wrap_u32 (n := (b : Int) * ((2 ^ k : Nat) : Int)) (by rw [e2]; omega) (by rw [e2]; omega)] at h
  rw [h]
  push_cast
  rw [Int.mul_comm]

/-- What the head of a cutter's hand says. -/
def sizeOf4 (b0 b1 b2 b3 : Int) : Int := b0 + b1 * 256 + b2 * 65536 + b3 * 16777216

section
attribute [local go_sem] F42.t6_eq F42.t4_eq F42.t7_eq
theorem size_any {w0 w : World} {F : HP} {c : Nat} {limit heads ever taken ahead b0 b1 b2 b3 : Int} {body : Value} {dead : Bool} {T : TypeId} (h0 : 0 ≤ b0 ∧ b0 < 256) (h1 : 0 ≤ b1 ∧ b1 < 256) (h2 : 0 ≤ b2 ∧ b2 < 256) (h3 : 0 ≤ b3 ∧ b3 < 256)
    (h : St w0 (Blk c (.cells (cutCells limit b0 b1 b2 b3 heads body ever taken dead ahead) T (0, 0)) * F) w) : Calls Try.prog 42 #[.pointer (some ⟨c, 0, none⟩)] w
      fun e w' => w = w' ∧ e = .returned (.int .u32 (sizeOf4 b0 b1 b2 b3)) := by
  have hc := h.cells
  unfold cutCells at hc
  refine F42.calls (by simp) ?_
  unfold F42.code
  simp -dsimp -implicitDefEqProofs only [go_sem, hc, rowV_def, cellsFrom_s, cellsFrom_z]
  refine loop_intro (fun e w' => w = w' ∧ e.ds = [] ∧ e.ρ 9 = .agg #[.int .u8 b0, .int .u8 b1, .int .u8 b2, .int .u8 b3] ∧
    (e.ρ 10 = .int .i64 0 ∧ e.ρ 3 = .int .u32 0 ∨ e.ρ 10 = .int .i64 1 ∧ e.ρ 3 = .int .u32 (0 + b0 * 1) ∨ e.ρ 10 = .int .i64 2 ∧ e.ρ 3 = .int .u32 (0 + b0 * 1 + b1 * 256) ∨
      e.ρ 10 = .int .i64 3 ∧ e.ρ 3 = .int .u32 (0 + b0 * 1 + b1 * 256 + b2 * 65536) ∨ e.ρ 10 = .int .i64 4 ∧ e.ρ 3 = .int .u32 (0 + b0 * 1 + b1 * 256 + b2 * 65536 + b3 * 16777216)))
    (fun e _ => match e.ρ 10 with | .int _ n => (4 - n).toNat | _ => 0) ?_ ?_
  · exact ⟨rfl, rfl, rfl, .inl ⟨rfl, rfl⟩⟩
  · rintro e w' ⟨rfl, hd, h9, h | h | h | h | h⟩ <;> obtain ⟨h10, h3⟩ := h
    · simp -dsimp -implicitDefEqProofs (disch := omega) only [go_sem, reqD_of, dec_t, dec_f, wrap_i64, wrap_u32, wrap_u64, wrap_u8, h9, h10, h3, hd, or_mul 0 b0 0 1]
    · simp -dsimp -implicitDefEqProofs (disch := omega) only [go_sem, reqD_of, dec_t, dec_f, wrap_i64, wrap_u32, wrap_u64, wrap_u8, h9, h10, h3, hd, or_mul (0 + b0 * 1) b1 8 256]
    · simp -dsimp -implicitDefEqProofs (disch := omega) only [go_sem, reqD_of, dec_t, dec_f, wrap_i64, wrap_u32, wrap_u64, wrap_u8, h9, h10, h3, hd, or_mul (0 + b0 * 1 + b1 * 256) b2 16 65536]
    · simp -dsimp -implicitDefEqProofs (disch := omega) only [go_sem, reqD_of, dec_t, dec_f, wrap_i64, wrap_u32, wrap_u64, wrap_u8, h9, h10, h3, hd, or_mul (0 + b0 * 1 + b1 * 256 + b2 * 65536) b3 24 16777216]
    · simp -dsimp -implicitDefEqProofs (disch := omega) only [go_sem, reqD_of, dec_t, dec_f, wrap_i64, wrap_u32, wrap_u64, wrap_u8, h9, h10, h3, hd, sizeOf4]
      omega
end
end Go.Proofs.Ytfamclpajjnfbaa
