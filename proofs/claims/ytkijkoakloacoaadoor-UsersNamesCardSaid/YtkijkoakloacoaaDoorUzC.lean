/- users: need, name, key: how lines are checked, field by field. -/
import Derived.Test.YtkijkoakloacoaaDoorUzB
import Derived.Test.YtkijkoakloacoaaDoorPn
namespace Go.Proofs.YtkijkoakloacoaaDoor
open Go
set_option linter.unusedVariables false
set_option linter.unusedSimpArgs false
set_option maxRecDepth 100000

/-- What a line is given up on by. -/
abbrev trouble (e : Int) : List PanicEntry := [{ v := .iface 100 (.agg #[.int .i64 e]), recovered := false }]


theorem need_any (b : Bool) (e : Int) (w : World) : Calls Tryd.prog 38 #[.bool b, .int .i64 e] w fun x w' => w' = w ∧ ((b = true ∧ x = .returned (.tuple #[])) ∨ (b = false ∧ x = .panicked (trouble e))) := by
  refine F38.calls (by simp) ?_
  unfold F38.code
  cases b
  · simp -dsimp -implicitDefEqProofs (disch := omega) only [go_sem, reqD_of, dec_t, dec_f, wrap_i64, wrap_u32, wrap_u64, wrap_u8]
    refine onV_of (v := .agg #[.int .i64 e]) (by kernel_rfl) ?_
    simp -dsimp -implicitDefEqProofs (disch := omega) only [go_sem, reqD_of, dec_t, dec_f, wrap_i64, wrap_u32, wrap_u64, wrap_u8]
    refine mkI_of (by kernel_rfl) ?_
    simp -dsimp -implicitDefEqProofs (disch := omega) only [go_sem, reqD_of, dec_t, dec_f, wrap_i64, wrap_u32, wrap_u64, wrap_u8]
    refine panic_of ?_
    simp -dsimp -implicitDefEqProofs (disch := omega) only [go_sem, reqD_of, dec_t, dec_f, wrap_i64, wrap_u32, wrap_u64, wrap_u8]
  · simp -dsimp -implicitDefEqProofs (disch := omega) only [go_sem, reqD_of, dec_t, dec_f, wrap_i64, wrap_u32, wrap_u64, wrap_u8]

/-! ### Is a character one of ":,#/"? -/

theorem encode_last {n : Int} (h : 128 ≤ n) : ∃ l : List UInt8, Utf8.encode n = strOf l ∧ 2 ≤ l.length ∧ l.length ≤ 4 ∧ 128 ≤ (l.getD (l.length - 1) 0).toNat := by
  have key : ∀ c : Nat, 128 ≤ c → (128 : Nat) ≤ (UInt8.ofNat (0x80 + c % 64)).toNat := fun c _ => by
    rw [UInt8.toNat_ofNat']
    omega
  unfold Utf8.encode
  have hc : 128 ≤ (if Utf8.valid n then n.toNat else Utf8.runeError) := by
    split
    · omega
    · decide
  generalize (if Utf8.valid n then n.toNat else Utf8.runeError) = c at hc
  simp only
  rw [if_neg (by omega)]
  split
  · exact ⟨[_, _], rfl, by simp, by simp, key c hc⟩
  · split
    · exact ⟨[_, _, _], rfl, by simp, by simp, key c hc⟩
    · exact ⟨[_, _, _, _], rfl, by simp, by simp, key c hc⟩

def seps : List UInt8 := [58, 44, 35, 47]
def sepR (r : Nat) : Bool := r == 58 || r == 44 || r == 35 || r == 47
theorem indexByte_seps (c : UInt8) : decide (0 ≤ Lib.indexByte seps c) = sepR c.toNat := by
  have : ∀ n : Fin 256, decide (0 ≤ Lib.indexByte seps (UInt8.ofNat n.val)) = sepR (UInt8.ofNat n.val).toNat := by decide +kernel
  have h := this ⟨c.toNat, c.toNat_lt⟩
  simpa using h
theorem sepR_big {r : Nat} (h : 128 ≤ r) : sepR r = false := by
  simp only [sepR, Bool.or_eq_false_iff, beq_eq_false_iff_ne]
  omega

section
attribute [local go_sem] F103.t5_eq
theorem valid_any (n : Int) (w : World) : Calls Tryd.prog 103 #[.int .i32 n] w fun x w' => w' = w ∧ ∃ b, x = .returned (.bool b) := by
  refine F103.calls (by simp) ?_
  unfold F103.code
  by_cases h1 : 0 ≤ n
  · by_cases h2 : n < 55296
    · simp -dsimp -implicitDefEqProofs (disch := omega) only [go_sem, reqD_of, dec_t, dec_f, wrap_i64, wrap_u32, wrap_u64, wrap_u8, h1, h2]
      exact ⟨_, rfl⟩
    · by_cases h3 : 57343 < n
      · by_cases h4 : n ≤ 1114111
        · simp -dsimp -implicitDefEqProofs (disch := omega) only [go_sem, reqD_of, dec_t, dec_f, wrap_i64, wrap_u32, wrap_u64, wrap_u8, h1, h2, h3, h4]
          exact ⟨_, rfl⟩
        · simp -dsimp -implicitDefEqProofs (disch := omega) only [go_sem, reqD_of, dec_t, dec_f, wrap_i64, wrap_u32, wrap_u64, wrap_u8, h1, h2, h3, h4]
          exact ⟨_, rfl⟩
      · simp -dsimp -implicitDefEqProofs (disch := omega) only [go_sem, reqD_of, dec_t, dec_f, wrap_i64, wrap_u32, wrap_u64, wrap_u8, h1, h2, h3]
        exact ⟨_, rfl⟩
  · have h3 : ¬ 57343 < n := by omega
    simp -dsimp -implicitDefEqProofs (disch := omega) only [go_sem, reqD_of, dec_t, dec_f, wrap_i64, wrap_u32, wrap_u64, wrap_u8, h1, h3]
    exact ⟨_, rfl⟩

end
section
attribute [local go_sem] F90.t39_eq F90.t42_eq F90.t10_eq F90.t13_eq F90.t14_eq F90.t16_eq F90.t15_eq F90.t11_eq F90.t6_eq F90.t30_eq F90.t31_eq F90.t32_eq F90.t26_eq F90.t27_eq F90.t25_eq F90.t33_eq F90.t20_eq F90.t19_eq
theorem indexRune_any {w0 w : World} {A : HP} (h : St w0 A w) (r : Nat) (hr : r ≤ 1114111) :
    Calls Tryd.prog 90 #[.string (strOf [58, 44, 35, 47]), .int .i32 r] w fun e w' => St w0 A w' ∧ ∃ k : Int, e = .returned (.int .i64 k) ∧ decide (0 ≤ k) = sepR r := by
  refine F90.calls (by simp) ?_
  unfold F90.code
  have r0 : (0 : Int) ≤ r := by omega
  by_cases h1 : (r : Int) < 128
  · have hu : IntKind.u8.wrap (r : Int) = ((UInt8.ofNat r).toNat : Int) := by
      have : ∀ n : Fin 128, IntKind.u8.wrap ((n.val : Nat) : Int) = ((UInt8.ofNat n.val).toNat : Int) := by decide +kernel
      exact this ⟨r, by omega⟩
    have hv : (UInt8.ofNat r).toNat = r := by rw [UInt8.toNat_ofNat']; omega
    simp -dsimp -implicitDefEqProofs (disch := omega) only [go_sem, reqD_of, dec_t, dec_f, wrap_i64, wrap_u32, wrap_u64, wrap_u8, r0, h1, hu]
    refine (indexByte_lib (l := [58, 44, 35, 47]) h (UInt8.ofNat r)).mono ?_
    rintro e w1 ⟨k1, rfl⟩
    simp -dsimp -implicitDefEqProofs (disch := omega) only [go_sem, reqD_of, dec_t, dec_f, wrap_i64, wrap_u32, wrap_u64, wrap_u8]
    refine ⟨k1, _, rfl, ?_⟩
    have := indexByte_seps (UInt8.ofNat r)
    rw [hv] at this
    exact this
  have hb : sepR r = false := sepR_big (by omega)
  rw [hb]
  by_cases h2 : (r : Int) = 65533
  · simp -dsimp -implicitDefEqProofs (disch := omega) only [go_sem, reqD_of, dec_t, dec_f, wrap_i64, wrap_u32, wrap_u64, wrap_u8, r0, h1, h2]
    refine h.rangeS (by kernel_rfl) fun b w1 h1 => ?_
    simp -dsimp -implicitDefEqProofs (disch := omega) only [go_sem, reqD_of, dec_t, dec_f, wrap_i64, wrap_u32, wrap_u64, wrap_u8]
    refine loop_intro (fun e w' => e.ds = [] ∧ e.ρ 175 = .pointer (some ⟨b, 0, none⟩) ∧ ∃ pos : Nat, St w0 (Blk b (.stringIter (strOf [58, 44, 35, 47]) pos) * A) w')
      (fun e w' => match w'.heap[b]? with | some (.stringIter _ p) => 4 - p | _ => 0) ?_ ?_
    · exact ⟨rfl, by simp -dsimp -implicitDefEqProofs only [go_sem], 0, h1⟩
    · rintro e w2 ⟨hd, e8, pos, h2⟩
      simp -dsimp -implicitDefEqProofs (disch := omega) only [go_sem, reqD_of, dec_t, dec_f, wrap_i64, wrap_u32, wrap_u64, wrap_u8, hd, e8]
      refine h2.nextS (fun hn => ?_) fun hm w3 h3 => ?_
      · simp -dsimp -implicitDefEqProofs (disch := omega) only [go_sem, reqD_of, dec_t, dec_f, wrap_i64, wrap_u32, wrap_u64, wrap_u8, hd, e8]
        exact ⟨h2.right, _, rfl, by decide⟩
      · have hm' : pos < 4 := hm
        have m2 := h2.blk
        have m3 := h3.blk
        have hd4 : (decL (([58, 44, 35, 47] : List UInt8).drop pos)).1 ≠ 65533 ∧ (decL (([58, 44, 35, 47] : List UInt8).drop pos)).2 = 1 := by
          have : ∀ p : Fin 4, (decL (([58, 44, 35, 47] : List UInt8).drop p.val)).1 ≠ 65533 ∧ (decL (([58, 44, 35, 47] : List UInt8).drop p.val)).2 = 1 := by decide +kernel
          exact this ⟨pos, hm'⟩
        have hd5 : ¬ ((decL (([58, 44, 35, 47] : List UInt8).drop pos)).1 : Int) = 65533 := by have := hd4.1; omega
        rw [hd4.2] at h3 m3
        simp -dsimp -implicitDefEqProofs (disch := omega) only [go_sem, reqD_of, dec_t, dec_f, wrap_i64, wrap_u32, wrap_u64, wrap_u8, hd, e8, hd5, m2, m3]
        exact ⟨⟨_, h3⟩, by omega⟩
  simp -dsimp -implicitDefEqProofs (disch := omega) only [go_sem, reqD_of, dec_t, dec_f, wrap_i64, wrap_u32, wrap_u64, wrap_u8, r0, h1, h2]
  refine (valid_any r w).mono ?_
  rintro e w1 ⟨rfl, b, rfl⟩
  cases b
  · simp -dsimp -implicitDefEqProofs (disch := omega) only [go_sem, reqD_of, dec_t, dec_f, wrap_i64, wrap_u32, wrap_u64, wrap_u8]
    exact ⟨h, _, rfl, by decide⟩
  · obtain ⟨l, hl, l1, l2, l3⟩ := encode_last (n := r) (by omega)
    have hlt : (((l.length : Nat) : Int) - 1) < 4 := by omega
    obtain ⟨k, hk⟩ : ∃ k, k = l.length - 1 := ⟨_, rfl⟩
    have hk2 : ((l.length : Nat) : Int) - 1 = (k : Nat) := by omega
    have hk3 : k < 4 := by omega
    have hk4 : (k : Int) < 4 := by omega
    have hk5 : k < l.length := by omega
    have hk7 : (k : Int) < (([58, 44, 35, 47] : List UInt8).length : Nat) := by simp; omega
    have hk6 : (k : Int) < l.length := by omega
    rw [← hk] at l3
    obtain ⟨y, hy⟩ : ∃ y, y = (l.getD k 0).toNat := ⟨_, rfl⟩
    obtain ⟨x, hx⟩ : ∃ x, x = (([58, 44, 35, 47] : List UInt8).getD k 0).toNat := ⟨_, rfl⟩
    have hx8 : x < 128 := by
      have : ∀ p : Fin 4, (([58, 44, 35, 47] : List UInt8).getD p.val 0).toNat < 128 := by decide +kernel
      rw [hx]; exact this ⟨k, hk3⟩
    have hxy : ¬ (x : Int) = y := by omega
    simp -dsimp -implicitDefEqProofs (disch := omega) only [go_sem, reqD_of, dec_t, dec_f, wrap_i64, wrap_u32, wrap_u64, wrap_u8, hl, hk2]
    refine loop_intro (fun e w' => e.ds = [] ∧ w' = w1 ∧ e.ρ 0 = .string (strOf [58, 44, 35, 47]) ∧ e.ρ 7 = .string (strOf l) ∧ e.ρ 8 = .int .i64 k ∧ e.ρ 9 = .int .i64 k) (fun _ _ => 0) ?_ ?_
    · exact ⟨rfl, rfl, by simp -dsimp -implicitDefEqProofs only [go_sem], by simp -dsimp -implicitDefEqProofs only [go_sem], by simp -dsimp -implicitDefEqProofs only [go_sem], by simp -dsimp -implicitDefEqProofs only [go_sem]⟩
    rintro e w2 ⟨hd, rfl, e0, e7, e8, e9⟩
    simp -dsimp -implicitDefEqProofs (disch := omega) only [go_sem, reqD_of, dec_t, dec_f, wrap_i64, wrap_u32, wrap_u64, wrap_u8, hd, e0, e7, e8, e9, hk4, hk6, hk7, ← hx, ← hy, hxy]
    have hto : ((k : Int) + 1).toNat = k + 1 := by omega
    have hno : Lib.indexByte (([58, 44, 35, 47] : List UInt8).drop (k + 1)) (l.getD k 0) = -1 := by
      have : ∀ p : Fin 4, ∀ n : Fin 256, 128 ≤ n.val → Lib.indexByte (([58, 44, 35, 47] : List UInt8).drop (p.val + 1)) (UInt8.ofNat n.val) = -1 := by decide +kernel
      have h := this ⟨k, hk3⟩ ⟨(l.getD k 0).toNat, (l.getD k 0).toNat_lt⟩ l3
      simpa using h
    have hi := indexByte_lib (l := ([58, 44, 35, 47] : List UInt8).drop (k + 1)) h.drew.drew (l.getD k 0)
    rw [hno, ← hy] at hi
    rw [hto]
    refine hi.mono ?_
    rintro e' w3 ⟨k3, rfl⟩
    simp -dsimp -implicitDefEqProofs (disch := omega) only [go_sem, reqD_of, dec_t, dec_f, wrap_i64, wrap_u32, wrap_u64, wrap_u8, hd]
    exact ⟨k3, _, rfl, by decide⟩

end

theorem sep_any {w0 w : World} {A : HP} (h : St w0 A w) (r : Nat) (hr : r ≤ 1114111) :
    Calls Tryd.prog 70 #[.string (strOf [58, 44, 35, 47]), .int .i32 r] w fun e w' => St w0 A w' ∧ e = .returned (.bool (sepR r)) := by
  refine F70.calls (by simp) ?_
  unfold F70.code
  simp -dsimp -implicitDefEqProofs (disch := omega) only [go_sem, reqD_of, dec_t, dec_f, wrap_i64, wrap_u32, wrap_u64, wrap_u8]
  refine (indexRune_any h r hr).mono ?_
  rintro e w1 ⟨h1, k, rfl, hk⟩
  simp -dsimp -implicitDefEqProofs (disch := omega) only [go_sem, reqD_of, dec_t, dec_f, wrap_i64, wrap_u32, wrap_u64, wrap_u8, hk]
  exact h1
end Go.Proofs.YtkijkoakloacoaaDoor
