/- slices.Sort at uint32: choosePivot, partialInsertionSort. -/
import Derived.Test.YtljndiligbaljaaSoE
namespace Go.Proofs.Ytljndiligbaljaa
open Go Go.Sort
set_option linter.unusedSimpArgs false
set_option linter.unusedVariables false
set_option maxRecDepth 100000

def hintI : Hint → Int
  | .unknown => 0
  | .increasing => 1
  | .decreasing => 2

section
attribute [local go_sem] F80.t11_eq F80.t12_eq
theorem pivot12 {w0 w : World} {F : HP} {g o n c p s k : Nat} {d : Array Int} {R : Nat × Hint} {e : FA} (h : St w0 (SwP k s * (SoP g o n c d * F)) w) (hR : R = (p, if s = 0 then Hint.increasing else if s = 12 then .decreasing else .unknown))
    (hd : e.ds = []) (e9 : e.ρ 9 = .pointer (some ⟨k, 0, none⟩)) (e11 : e.ρ 11 = .int .i64 p) :
    cwE Try.prog F80.t12 (fnP Try.prog #[.tmp 6, .tmp 7] fun e w' => St w0 (SoP g o n c d * F) w' ∧ e = .returned (.tuple #[.int .i64 R.1, .int .i64 (hintI R.2)])) e w := by
  have h1 : St w0 (Blk k (.cells #[.int .i64 s] 3 (0, 0)) * (SoP g o n c d * F)) w := h
  have hk := h1.cl k
  subst hR
  rw [F80.t12_eq]
  by_cases h0 : (s : Int) = 0
  · have h0' : s = 0 := by omega
    subst h0'
    simp -dsimp -implicitDefEqProofs (disch := omega) only [go_sem, reqD_of, dec_t, dec_f, wrap_i64, wrap_u32, wrap_u64, wrap_u8, hd, e9, e11, hk]
    exact ⟨h1.right, rfl⟩
  · have h0' : s ≠ 0 := by omega
    by_cases h12 : (s : Int) = 12
    · have h12' : s = 12 := by omega
      subst h12'
      simp -dsimp -implicitDefEqProofs (disch := omega) only [go_sem, reqD_of, dec_t, dec_f, wrap_i64, wrap_u32, wrap_u64, wrap_u8, hd, e9, e11, hk]
      exact ⟨h1.right, rfl⟩
    · have h12' : s ≠ 12 := by omega
      simp -dsimp -implicitDefEqProofs (disch := omega) only [go_sem, reqD_of, dec_t, dec_f, wrap_i64, wrap_u32, wrap_u64, wrap_u8, hd, e9, e11, hk, h0, h12]
      rw [if_neg h0', if_neg h12']
      exact ⟨h1.right, rfl⟩

theorem choosePivot_lo {lt : Int → Int → Bool} {d : Array Int} {a b : Nat} (h : ¬ b - a ≥ 8) : choosePivot lt d a b = (a + (b - a) / 4 * 2, .increasing) := by
  unfold choosePivot
  simp only [if_neg h, if_true]
theorem choosePivot_mid {lt : Int → Int → Bool} {d : Array Int} {a b : Nat} (h : b - a ≥ 8) (h5 : ¬ b - a ≥ 50) :
    choosePivot lt d a b = ((median lt d (a + (b - a) / 4) (a + (b - a) / 4 * 2) (a + (b - a) / 4 * 3) 0).1, if (median lt d (a + (b - a) / 4) (a + (b - a) / 4 * 2) (a + (b - a) / 4 * 3) 0).2 = 0 then .increasing else if (median lt d (a + (b - a) / 4) (a + (b - a) / 4 * 2) (a + (b - a) / 4 * 3) 0).2 = 12 then .decreasing else .unknown) := by
  unfold choosePivot
  simp only [if_pos h, if_neg h5, Nat.mul_one]
theorem choosePivot_hi {lt : Int → Int → Bool} {d : Array Int} {a b : Nat} {ri rj rk r : Nat × Nat} (h : b - a ≥ 8) (h5 : b - a ≥ 50)
    (e1 : medianAdjacent lt d (a + (b - a) / 4) 0 = ri) (e2 : medianAdjacent lt d (a + (b - a) / 4 * 2) ri.2 = rj) (e3 : medianAdjacent lt d (a + (b - a) / 4 * 3) rj.2 = rk) (e4 : median lt d ri.1 rj.1 rk.1 rk.2 = r) :
    choosePivot lt d a b = (r.1, if r.2 = 0 then .increasing else if r.2 = 12 then .decreasing else .unknown) := by
  unfold choosePivot
  simp only [if_pos h, if_pos h5, Nat.mul_one, e1, e2, e3, e4]

end
section
attribute [local go_sem] F80.t11_eq
theorem pivot_any {w0 w : World} {F : HP} {g o n c a b : Nat} {d : Array Int} (h : St w0 (SoP g o n c d * F) w) (hb : b ≤ n) (hab : a < b) (hn : n < 2305843009213693951) :
    Calls Try.prog 80 #[soV g o n c, .int .i64 a, .int .i64 b] w fun e w' => St w0 (SoP g o n c d * F) w' ∧ e = .returned (.tuple #[.int .i64 (choosePivot ltInt d a b).1, .int .i64 (hintI (choosePivot ltInt d a b).2)]) := by
  refine F80.calls (by simp) ?_
  unfold F80.code
  have i1 : (b : Int) - a = ((b - a : Nat) : Int) := by omega
  have i2 : ((b - a : Nat) : Int).tdiv 4 = (((b - a) / 4 : Nat) : Int) := rfl
  have j2 : (((b - a) / 4 : Nat) : Int) * 2 = (((b - a) / 4 * 2 : Nat) : Int) := by omega
  have j3 : (((b - a) / 4 : Nat) : Int) * 3 = (((b - a) / 4 * 3 : Nat) : Int) := by omega
  have k1 : (a : Int) + (((b - a) / 4 : Nat) : Int) = ((a + (b - a) / 4 : Nat) : Int) := by omega
  have k2 : (a : Int) + (((b - a) / 4 * 2 : Nat) : Int) = ((a + (b - a) / 4 * 2 : Nat) : Int) := by omega
  have k3 : (a : Int) + (((b - a) / 4 * 3 : Nat) : Int) = ((a + (b - a) / 4 * 3 : Nat) : Int) := by omega
  simp -dsimp -implicitDefEqProofs (disch := omega) only [go_sem, reqD_of, dec_t, dec_f, wrap_i64, wrap_u32, wrap_u64, wrap_u8, i1]
  refine h.new fun k w1 h1 => ?_
  have h1' : St w0 (SwP k 0 * (SoP g o n c d * F)) w1 := h1
  by_cases h8 : (8 : Int) ≤ ((b - a : Nat) : Int)
  case neg =>
    have h8' : ¬ b - a ≥ 8 := by omega
    simp -dsimp -implicitDefEqProofs (disch := omega) only [go_sem, reqD_of, dec_t, dec_f, wrap_i64, wrap_u32, wrap_u64, wrap_u8, Int.mul_one, i1, i2, j2, j3, k1, k2, k3, h8]
    exact pivot12 (p := a + (b - a) / 4 * 2) (s := 0) h1' (choosePivot_lo h8') (by simp -dsimp -implicitDefEqProofs only [go_sem]) (by simp -dsimp -implicitDefEqProofs only [go_sem]) (by simp -dsimp -implicitDefEqProofs only [go_sem])
  have h8' : b - a ≥ 8 := by omega
  by_cases h50 : (50 : Int) ≤ ((b - a : Nat) : Int)
  case neg =>
    have h50' : ¬ b - a ≥ 50 := by omega
    simp -dsimp -implicitDefEqProofs (disch := omega) only [go_sem, reqD_of, dec_t, dec_f, wrap_i64, wrap_u32, wrap_u64, wrap_u8, Int.mul_one, i1, i2, j2, j3, k1, k2, k3, h8, h50]
    refine (median_any (a := a + (b - a) / 4) (b := a + (b - a) / 4 * 2) (e := a + (b - a) / 4 * 3) h1' (by omega) (by omega) (by omega) (by omega)).mono ?_
    rintro e' w2 ⟨h2, rfl⟩
    have hmid := choosePivot_mid (lt := ltInt) (d := d) h8' h50'
    obtain ⟨mm, hmm⟩ : ∃ mm, median ltInt d (a + (b - a) / 4) (a + (b - a) / 4 * 2) (a + (b - a) / 4 * 3) 0 = mm := ⟨_, rfl⟩
    rw [hmm] at h2 hmid
    obtain ⟨RR, hRR⟩ : ∃ RR, choosePivot ltInt d a b = RR := ⟨_, rfl⟩
    rw [hRR] at hmid
    rw [hmm, hRR]
    simp -dsimp -implicitDefEqProofs (disch := omega) only [go_sem, reqD_of, dec_t, dec_f, wrap_i64, wrap_u32, wrap_u64, wrap_u8]
    exact pivot12 (R := RR) (k := k) (d := d) (p := mm.1) (s := mm.2) h2 hmid (by simp -dsimp -implicitDefEqProofs only [go_sem]) (by simp -dsimp -implicitDefEqProofs only [go_sem]) (by simp -dsimp -implicitDefEqProofs only [go_sem])
  have h50' : b - a ≥ 50 := by omega
  simp -dsimp -implicitDefEqProofs (disch := omega) only [go_sem, reqD_of, dec_t, dec_f, wrap_i64, wrap_u32, wrap_u64, wrap_u8, Int.mul_one, i1, i2, j2, j3, k1, k2, k3, h8, h50]
  refine (medianAdj_any (a := a + (b - a) / 4) h1' (by omega) (by omega) (by omega) hn).mono ?_
  rintro e' w2 ⟨h2, rfl⟩
  have m1 : (medianAdjacent ltInt d (a + (b - a) / 4) 0).1 < n ∧ (medianAdjacent ltInt d (a + (b - a) / 4) 0).2 ≤ 0 + 3 := median_lt (by omega) (by omega) (by omega)
  obtain ⟨r1, hr1⟩ : ∃ r, medianAdjacent ltInt d (a + (b - a) / 4) 0 = r := ⟨_, rfl⟩
  rw [hr1] at h2 m1
  rw [hr1]
  simp -dsimp -implicitDefEqProofs (disch := omega) only [go_sem, reqD_of, dec_t, dec_f, wrap_i64, wrap_u32, wrap_u64, wrap_u8]
  refine (medianAdj_any (a := a + (b - a) / 4 * 2) h2 (by omega) (by omega) (by omega) hn).mono ?_
  rintro e' w3 ⟨h3, rfl⟩
  have m2 : (medianAdjacent ltInt d (a + (b - a) / 4 * 2) r1.2).1 < n ∧ (medianAdjacent ltInt d (a + (b - a) / 4 * 2) r1.2).2 ≤ r1.2 + 3 := median_lt (by omega) (by omega) (by omega)
  obtain ⟨r2, hr2⟩ : ∃ r, medianAdjacent ltInt d (a + (b - a) / 4 * 2) r1.2 = r := ⟨_, rfl⟩
  rw [hr2] at h3 m2
  rw [hr2]
  simp -dsimp -implicitDefEqProofs (disch := omega) only [go_sem, reqD_of, dec_t, dec_f, wrap_i64, wrap_u32, wrap_u64, wrap_u8]
  refine (medianAdj_any (a := a + (b - a) / 4 * 3) h3 (by omega) (by omega) (by omega) hn).mono ?_
  rintro e' w4 ⟨h4, rfl⟩
  have m3 : (medianAdjacent ltInt d (a + (b - a) / 4 * 3) r2.2).1 < n ∧ (medianAdjacent ltInt d (a + (b - a) / 4 * 3) r2.2).2 ≤ r2.2 + 3 := median_lt (by omega) (by omega) (by omega)
  obtain ⟨r3, hr3⟩ : ∃ r, medianAdjacent ltInt d (a + (b - a) / 4 * 3) r2.2 = r := ⟨_, rfl⟩
  rw [hr3] at h4 m3
  rw [hr3]
  simp -dsimp -implicitDefEqProofs (disch := omega) only [go_sem, reqD_of, dec_t, dec_f, wrap_i64, wrap_u32, wrap_u64, wrap_u8]
  refine (median_any h4 m1.1 m2.1 m3.1 (by omega)).mono ?_
  rintro e' w5 ⟨h5, rfl⟩
  have hhi := choosePivot_hi (lt := ltInt) (d := d) h8' h50' hr1 hr2 hr3 rfl
  obtain ⟨mm, hmm⟩ : ∃ mm, median ltInt d r1.1 r2.1 r3.1 r3.2 = mm := ⟨_, rfl⟩
  rw [hmm] at h5 hhi
  obtain ⟨RR, hRR⟩ : ∃ RR, choosePivot ltInt d a b = RR := ⟨_, rfl⟩
  rw [hRR] at hhi
  rw [hmm, hRR]
  simp -dsimp -implicitDefEqProofs (disch := omega) only [go_sem, reqD_of, dec_t, dec_f, wrap_i64, wrap_u32, wrap_u64, wrap_u8]
  exact pivot12 (R := RR) (k := k) (d := d) (p := mm.1) (s := mm.2) h5 hhi (by simp -dsimp -implicitDefEqProofs only [go_sem]) (by simp -dsimp -implicitDefEqProofs only [go_sem]) (by simp -dsimp -implicitDefEqProofs only [go_sem])

/-! ### partialInsertionSort -/
theorem scanSorted_go {lt : Int → Int → Bool} {b i : Nat} {d : Array Int} (h : i < b) (hl : lt d[i]! d[i - 1]! = false) : scanSorted lt d b i = scanSorted lt d b (i + 1) := by rw [scanSorted, if_pos (by simp [h, hl])]
theorem scanSorted_no {lt : Int → Int → Bool} {b i : Nat} {d : Array Int} (h : i < b → lt d[i]! d[i - 1]! = true) : scanSorted lt d b i = i := by
  rw [scanSorted, if_neg (by simp only [Bool.and_eq_true, decide_eq_true_eq, Bool.not_eq_true', not_and, Bool.not_eq_false]; exact h)]
theorem shiftDown_go {lt : Int → Int → Bool} {j : Nat} {d : Array Int} (hl : lt d[j + 1]! d[j]! = true) : shiftDown lt (j + 1) d = shiftDown lt j (swp d (j + 1) j) := by rw [shiftDown, if_neg (by simp [hl])]
theorem shiftDown_no {lt : Int → Int → Bool} {j : Nat} {d : Array Int} (hl : lt d[j + 1]! d[j]! = false) : shiftDown lt (j + 1) d = d := by rw [shiftDown, if_pos (by simp [hl])]
theorem shiftUp_go {lt : Int → Int → Bool} {b j : Nat} {d : Array Int} (h : j < b) (hl : lt d[j]! d[j - 1]! = true) : shiftUp lt b j d = shiftUp lt b (j + 1) (swp d j (j - 1)) := by rw [shiftUp, if_pos h, if_neg (by simp [hl])]
theorem shiftUp_no {lt : Int → Int → Bool} {b j : Nat} {d : Array Int} (hl : j < b → lt d[j]! d[j - 1]! = false) : shiftUp lt b j d = d := by
  rw [shiftUp]
  split
  · rename_i h; rw [if_pos (by simp [hl h])]
  · rfl

end
section
attribute [local go_sem] F82.t6_eq F82.t17_eq F82.t15_eq F82.t16_eq F82.t23_eq F82.t21_eq F82.t22_eq F82.t18_eq F82.t11_eq F82.t9_eq F82.t7_eq F82.t4_eq F82.t5_eq F82.t24_eq
theorem ins18 {w0 w : World} {F : HP} {g o n c a b i j : Nat} {d D : Array Int} {Q : Post} {e : FA} {θ : Tag (F82.t18, Q, e, w)} (h : St w0 (SoP g o n c d * F) w) (hb : b ≤ n) (hi : 1 ≤ i) (hib : i < b) (hn : n < 2305843009213693951) (hD : (if b - i ≥ 2 then shiftUp ltInt b (i + 1) d else d) = D)
    (hd : e.ds = []) (e0 : e.ρ 0 = soV g o n c) (e1 : e.ρ 1 = .int .i64 a) (e2 : e.ρ 2 = .int .i64 b) (e7 : e.ρ 7 = .int .i64 i) (e8 : e.ρ 8 = .int .i64 j)
    (hQ : ∀ (e' : FA) (w' : World), e'.ds = [] → e'.ρ 0 = soV g o n c → e'.ρ 1 = .int .i64 a → e'.ρ 2 = .int .i64 b → e'.ρ 7 = .int .i64 i → e'.ρ 8 = .int .i64 j → St w0 (SoP g o n c D * F) w' → Q .normal e' w') :
    cwE Try.prog F82.t18 Q e w θ := by
  rw [F82.t18_eq]
  have i1 : (b : Int) - i = ((b - i : Nat) : Int) := by omega
  by_cases h2 : (2 : Int) ≤ ((b - i : Nat) : Int)
  case neg =>
    rw [if_neg (by omega)] at hD
    subst hD
    simp -dsimp -implicitDefEqProofs (disch := omega) only [go_sem, reqD_of, dec_t, dec_f, wrap_i64, wrap_u32, wrap_u64, wrap_u8, hd, e0, e1, e2, e7, e8, i1, h2]
    exact hQ _ _ (by simp -dsimp -implicitDefEqProofs only [go_sem, hd]) (by simp -dsimp -implicitDefEqProofs only [go_sem, e0]) (by simp -dsimp -implicitDefEqProofs only [go_sem, e1]) (by simp -dsimp -implicitDefEqProofs only [go_sem, e2]) (by simp -dsimp -implicitDefEqProofs only [go_sem, e7]) (by simp -dsimp -implicitDefEqProofs only [go_sem, e8]) h
  rw [if_pos (by omega)] at hD
  simp -dsimp -implicitDefEqProofs (disch := omega) only [go_sem, reqD_of, dec_t, dec_f, wrap_i64, wrap_u32, wrap_u64, wrap_u8, hd, e0, e1, e2, e7, e8, i1, h2]
  refine loop_intro (fun e w' => e.ds = [] ∧ e.ρ 0 = soV g o n c ∧ e.ρ 1 = .int .i64 a ∧ e.ρ 2 = .int .i64 b ∧ e.ρ 7 = .int .i64 i ∧ e.ρ 8 = .int .i64 j ∧ ∃ (k : Nat) (d' : Array Int), 1 ≤ k ∧ k ≤ b ∧ e.ρ 10 = .int .i64 k ∧ shiftUp ltInt b k d' = D ∧ St w0 (SoP g o n c d' * F) w')
    (fun e _ => match e.ρ 10 with | .int _ k => (b - k).toNat | _ => 0) ?_ ?_
  · exact ⟨by simp -dsimp -implicitDefEqProofs only [go_sem, hd], by simp -dsimp -implicitDefEqProofs only [go_sem, e0], by simp -dsimp -implicitDefEqProofs only [go_sem, e1], by simp -dsimp -implicitDefEqProofs only [go_sem, e2], by simp -dsimp -implicitDefEqProofs only [go_sem, e7], by simp -dsimp -implicitDefEqProofs only [go_sem, e8], i + 1, d, by omega, by omega, by simp -dsimp -implicitDefEqProofs only [go_sem]; omega, hD, h⟩
  clear hd e0 e1 e2 e7 e8 h
  rintro e w1 ⟨hd, e0, e1, e2, e7, e8, k, d1, hk1, hkb, e10, hs, h1⟩
  by_cases hlt : (k : Int) < b
  case neg =>
    rw [shiftUp_no (fun hx => by omega)] at hs
    subst hs
    simp -dsimp -implicitDefEqProofs (disch := omega) only [go_sem, reqD_of, dec_t, dec_f, wrap_i64, wrap_u32, wrap_u64, wrap_u8, hd, e0, e1, e2, e7, e8, e10, hlt]
    exact hQ _ _ (by simp -dsimp -implicitDefEqProofs only [go_sem, hd]) (by simp -dsimp -implicitDefEqProofs only [go_sem, e0]) (by simp -dsimp -implicitDefEqProofs only [go_sem, e1]) (by simp -dsimp -implicitDefEqProofs only [go_sem, e2]) (by simp -dsimp -implicitDefEqProofs only [go_sem, e7]) (by simp -dsimp -implicitDefEqProofs only [go_sem, e8]) h1
  have h3 := h1.drew
  have ck := SoP.get h3 (i := k) (by omega)
  have cp := SoP.get h3 (i := k - 1) (by omega)
  have hk0 : (k : Int) - 1 = ((k - 1 : Nat) : Int) := by omega
  simp -dsimp -implicitDefEqProofs (disch := omega) only [go_sem, reqD_of, dec_t, dec_f, wrap_i64, wrap_u32, wrap_u64, wrap_u8, hd, e0, e1, e2, e7, e8, e10, hlt, hk0, ck, cp]
  refine (lessW_any h3).mono ?_
  rintro e' w3 ⟨h4, rfl⟩
  cases hl : ltInt d1[k]! d1[k - 1]!
  · rw [shiftUp_no (fun _ => hl)] at hs
    subst hs
    simp -dsimp -implicitDefEqProofs (disch := omega) only [go_sem, reqD_of, dec_t, dec_f, wrap_i64, wrap_u32, wrap_u64, wrap_u8, hd, e0, e1, e2, e7, e8, e10]
    exact hQ _ _ (by simp -dsimp -implicitDefEqProofs only [go_sem, hd]) (by simp -dsimp -implicitDefEqProofs only [go_sem, e0]) (by simp -dsimp -implicitDefEqProofs only [go_sem, e1]) (by simp -dsimp -implicitDefEqProofs only [go_sem, e2]) (by simp -dsimp -implicitDefEqProofs only [go_sem, e7]) (by simp -dsimp -implicitDefEqProofs only [go_sem, e8]) h4
  · have h5 := h4.drew
    have ck := SoP.get h5 (i := k) (by omega)
    have cp := SoP.get h5 (i := k - 1) (by omega)
    simp -dsimp -implicitDefEqProofs (disch := omega) only [go_sem, reqD_of, dec_t, dec_f, wrap_i64, wrap_u32, wrap_u64, wrap_u8, hd, e0, e1, e2, e7, e8, e10, hk0, ck, cp]
    refine SoP.set h5 (i := k) (by omega) fun w4 h6 => ?_
    simp -dsimp -implicitDefEqProofs (disch := omega) only [go_sem, reqD_of, dec_t, dec_f, wrap_i64, wrap_u32, wrap_u64, wrap_u8, hd, e0, e1, e2, e7, e8, e10, hk0]
    refine SoP.set h6 (i := k - 1) (by omega) fun w5 h7 => ?_
    have h7' : St w0 (SoP g o n c (swp d1 k (k - 1)) * F) w5 := h7
    rw [shiftUp_go (by omega) hl] at hs
    simp -dsimp -implicitDefEqProofs (disch := omega) only [go_sem, reqD_of, dec_t, dec_f, wrap_i64, wrap_u32, wrap_u64, wrap_u8, hd, e0, e1, e2, e7, e8, e10]
    exact ⟨⟨k + 1, _, by omega, by omega, by omega, hs, h7'⟩, by omega⟩

end
section
attribute [local go_sem] F82.t6_eq F82.t17_eq F82.t15_eq F82.t16_eq F82.t23_eq F82.t21_eq F82.t22_eq F82.t11_eq F82.t9_eq F82.t7_eq F82.t4_eq F82.t5_eq F82.t24_eq
theorem ins11 {w0 w : World} {F : HP} {g o n c a b i j : Nat} {d D : Array Int} {Q : Post} {e : FA} {θ : Tag (F82.t11, Q, e, w)} (h : St w0 (SoP g o n c d * F) w) (hb : b ≤ n) (hai : a < i) (hib : i < b) (hn : n < 2305843009213693951)
    (hD : (if b - i ≥ 2 then shiftUp ltInt b (i + 1) (if i - a ≥ 2 then shiftDown ltInt (i - 1) (swp d i (i - 1)) else swp d i (i - 1)) else (if i - a ≥ 2 then shiftDown ltInt (i - 1) (swp d i (i - 1)) else swp d i (i - 1))) = D)
    (hd : e.ds = []) (e0 : e.ρ 0 = soV g o n c) (e1 : e.ρ 1 = .int .i64 a) (e2 : e.ρ 2 = .int .i64 b) (e7 : e.ρ 7 = .int .i64 i) (e8 : e.ρ 8 = .int .i64 j)
    (hQ : ∀ (e' : FA) (w' : World), e'.ds = [] → e'.ρ 0 = soV g o n c → e'.ρ 1 = .int .i64 a → e'.ρ 2 = .int .i64 b → e'.ρ 7 = .int .i64 i → e'.ρ 8 = .int .i64 j → St w0 (SoP g o n c D * F) w' → Q .normal e' w') :
    cwE Try.prog F82.t11 Q e w θ := by
  rw [F82.t11_eq]
  have h3 := h.drew
  have ck := SoP.get h3 (i := i) (by omega)
  have cp := SoP.get h3 (i := i - 1) (by omega)
  have hi0 : (i : Int) - 1 = ((i - 1 : Nat) : Int) := by omega
  have hia : (i : Int) - a = ((i - a : Nat) : Int) := by omega
  simp -dsimp -implicitDefEqProofs (disch := omega) only [go_sem, reqD_of, dec_t, dec_f, wrap_i64, wrap_u32, wrap_u64, wrap_u8, hd, e0, e1, e2, e7, e8, hi0, ck, cp]
  refine SoP.set h3 (i := i) (by omega) fun w4 h6 => ?_
  simp -dsimp -implicitDefEqProofs (disch := omega) only [go_sem, reqD_of, dec_t, dec_f, wrap_i64, wrap_u32, wrap_u64, wrap_u8, hd, e0, e1, e2, e7, e8, hi0]
  refine SoP.set h6 (i := i - 1) (by omega) fun w5 h7 => ?_
  have h7' : St w0 (SoP g o n c (swp d i (i - 1)) * F) w5 := h7
  generalize swp d i (i - 1) = d1 at h7' hD
  by_cases h2 : (2 : Int) ≤ ((i - a : Nat) : Int)
  case neg =>
    rw [if_neg (show ¬ i - a ≥ 2 by omega)] at hD
    simp -dsimp -implicitDefEqProofs (disch := omega) only [go_sem, reqD_of, dec_t, dec_f, wrap_i64, wrap_u32, wrap_u64, wrap_u8, hd, e0, e1, e2, e7, e8, hia, h2]
    exact ins18 h7' hb (by omega) hib hn hD (by simp -dsimp -implicitDefEqProofs only [go_sem, hd]) (by simp -dsimp -implicitDefEqProofs only [go_sem, e0]) (by simp -dsimp -implicitDefEqProofs only [go_sem, e1]) (by simp -dsimp -implicitDefEqProofs only [go_sem, e2]) (by simp -dsimp -implicitDefEqProofs only [go_sem, e7]) (by simp -dsimp -implicitDefEqProofs only [go_sem, e8]) hQ
  rw [if_pos (show i - a ≥ 2 by omega)] at hD
  simp -dsimp -implicitDefEqProofs (disch := omega) only [go_sem, reqD_of, dec_t, dec_f, wrap_i64, wrap_u32, wrap_u64, wrap_u8, hd, e0, e1, e2, e7, e8, hia, h2, hi0]
  generalize hE : shiftDown ltInt (i - 1) d1 = E at hD
  refine loop_intro (fun e w' => e.ds = [] ∧ e.ρ 0 = soV g o n c ∧ e.ρ 1 = .int .i64 a ∧ e.ρ 2 = .int .i64 b ∧ e.ρ 7 = .int .i64 i ∧ e.ρ 8 = .int .i64 j ∧ ∃ (k : Nat) (d' : Array Int), k < i ∧ e.ρ 9 = .int .i64 k ∧ shiftDown ltInt k d' = E ∧ St w0 (SoP g o n c d' * F) w')
    (fun e _ => match e.ρ 9 with | .int _ k => k.toNat | _ => 0) ?_ ?_
  · exact ⟨by simp -dsimp -implicitDefEqProofs only [go_sem, hd], by simp -dsimp -implicitDefEqProofs only [go_sem, e0], by simp -dsimp -implicitDefEqProofs only [go_sem, e1], by simp -dsimp -implicitDefEqProofs only [go_sem, e2], by simp -dsimp -implicitDefEqProofs only [go_sem, e7], by simp -dsimp -implicitDefEqProofs only [go_sem, e8], i - 1, d1, by omega, by simp -dsimp -implicitDefEqProofs only [go_sem], hE, h7'⟩
  clear hd e0 e1 e2 e7 e8 h h3 h6 h7 h7' ck cp
  rintro e w1 ⟨hd, e0, e1, e2, e7, e8, k, d2, hki, e9, hs, h1⟩
  by_cases hlt : (1 : Int) ≤ k
  case neg =>
    have : k = 0 := by omega
    subst this
    have hs' : d2 = E := hs
    subst hs'
    simp -dsimp -implicitDefEqProofs (disch := omega) only [go_sem, reqD_of, dec_t, dec_f, wrap_i64, wrap_u32, wrap_u64, wrap_u8, hd, e0, e1, e2, e7, e8, e9, hlt]
    exact ins18 h1 hb (by omega) hib hn hD (by simp -dsimp -implicitDefEqProofs only [go_sem, hd]) (by simp -dsimp -implicitDefEqProofs only [go_sem, e0]) (by simp -dsimp -implicitDefEqProofs only [go_sem, e1]) (by simp -dsimp -implicitDefEqProofs only [go_sem, e2]) (by simp -dsimp -implicitDefEqProofs only [go_sem, e7]) (by simp -dsimp -implicitDefEqProofs only [go_sem, e8]) hQ
  obtain ⟨m, rfl⟩ : ∃ m, k = m + 1 := ⟨k - 1, by omega⟩
  have h3 := h1.drew
  have ck := SoP.get h3 (i := m + 1) (by omega)
  have cp := SoP.get h3 (i := m) (by omega)
  have hk0 : ((m + 1 : Nat) : Int) - 1 = m := by omega
  simp -dsimp -implicitDefEqProofs (disch := omega) only [go_sem, reqD_of, dec_t, dec_f, wrap_i64, wrap_u32, wrap_u64, wrap_u8, hd, e0, e1, e2, e7, e8, e9, hlt, hk0, ck, cp]
  refine (lessW_any h3).mono ?_
  rintro e' w3 ⟨h4, rfl⟩
  cases hl : ltInt d2[m + 1]! d2[m]!
  · rw [shiftDown_no hl] at hs
    subst hs
    simp -dsimp -implicitDefEqProofs (disch := omega) only [go_sem, reqD_of, dec_t, dec_f, wrap_i64, wrap_u32, wrap_u64, wrap_u8, hd, e0, e1, e2, e7, e8, e9]
    exact ins18 h4 hb (by omega) hib hn hD (by simp -dsimp -implicitDefEqProofs only [go_sem, hd]) (by simp -dsimp -implicitDefEqProofs only [go_sem, e0]) (by simp -dsimp -implicitDefEqProofs only [go_sem, e1]) (by simp -dsimp -implicitDefEqProofs only [go_sem, e2]) (by simp -dsimp -implicitDefEqProofs only [go_sem, e7]) (by simp -dsimp -implicitDefEqProofs only [go_sem, e8]) hQ
  · have h5 := h4.drew
    have ck := SoP.get h5 (i := m + 1) (by omega)
    have cp := SoP.get h5 (i := m) (by omega)
    simp -dsimp -implicitDefEqProofs (disch := omega) only [go_sem, reqD_of, dec_t, dec_f, wrap_i64, wrap_u32, wrap_u64, wrap_u8, hd, e0, e1, e2, e7, e8, e9, hk0, ck, cp]
    refine SoP.set h5 (i := m + 1) (by omega) fun w4 h6 => ?_
    simp -dsimp -implicitDefEqProofs (disch := omega) only [go_sem, reqD_of, dec_t, dec_f, wrap_i64, wrap_u32, wrap_u64, wrap_u8, hd, e0, e1, e2, e7, e8, e9, hk0]
    refine SoP.set h6 (i := m) (by omega) fun w5 h7 => ?_
    have h7' : St w0 (SoP g o n c (swp d2 (m + 1) m) * F) w5 := h7
    rw [shiftDown_go hl] at hs
    simp -dsimp -implicitDefEqProofs (disch := omega) only [go_sem, reqD_of, dec_t, dec_f, wrap_i64, wrap_u32, wrap_u64, wrap_u8, hd, e0, e1, e2, e7, e8, e9, hk0]
    exact ⟨⟨m, _, by omega, rfl, hs, h7'⟩, by omega⟩

theorem partialIns_step {lt : Int → Int → Bool} {a b s i : Nat} {d : Array Int} : partialIns lt a b (s + 1) i d =
    (if scanSorted lt d b i = b then (d, true) else if b - a < 50 then (d, false) else
      partialIns lt a b s (scanSorted lt d b i) (if b - scanSorted lt d b i ≥ 2 then shiftUp lt b (scanSorted lt d b i + 1) (if scanSorted lt d b i - a ≥ 2 then shiftDown lt (scanSorted lt d b i - 1) (swp d (scanSorted lt d b i) (scanSorted lt d b i - 1)) else swp d (scanSorted lt d b i) (scanSorted lt d b i - 1)) else (if scanSorted lt d b i - a ≥ 2 then shiftDown lt (scanSorted lt d b i - 1) (swp d (scanSorted lt d b i) (scanSorted lt d b i - 1)) else swp d (scanSorted lt d b i) (scanSorted lt d b i - 1)))) := rfl

end
section
attribute [local go_sem] F82.t6_eq F82.t17_eq F82.t15_eq F82.t16_eq F82.t23_eq F82.t21_eq F82.t22_eq F82.t18_eq F82.t9_eq F82.t4_eq F82.t5_eq F82.t24_eq
theorem partial_any {w0 w : World} {F : HP} {g o n c a b : Nat} {d : Array Int} (h : St w0 (SoP g o n c d * F) w) (hb : b ≤ n) (hab : a < b) (hn : n < 2305843009213693951) :
    Calls Try.prog 82 #[soV g o n c, .int .i64 a, .int .i64 b] w fun e w' => St w0 (SoP g o n c (partialInsertionSort ltInt d a b).1 * F) w' ∧ e = .returned (.bool (partialInsertionSort ltInt d a b).2) := by
  refine F82.calls (by simp) ?_
  unfold F82.code
  unfold partialInsertionSort
  have i1 : (b : Int) - a = ((b - a : Nat) : Int) := by omega
  simp -dsimp -implicitDefEqProofs (disch := omega) only [go_sem, reqD_of, dec_t, dec_f, wrap_i64, wrap_u32, wrap_u64, wrap_u8]
  generalize hR : partialIns ltInt a b 5 (a + 1) d = R
  refine loop_intro (fun e w' => e.ds = [] ∧ e.ρ 0 = soV g o n c ∧ e.ρ 1 = .int .i64 a ∧ e.ρ 2 = .int .i64 b ∧ ∃ (s i j : Nat) (d' : Array Int), j + s = 5 ∧ a < i ∧ i ≤ b ∧ e.ρ 7 = .int .i64 i ∧ e.ρ 8 = .int .i64 j ∧ partialIns ltInt a b s i d' = R ∧ St w0 (SoP g o n c d' * F) w')
    (fun e _ => match e.ρ 8 with | .int _ k => (5 - k).toNat | _ => 0) ?_ ?_
  · exact ⟨rfl, by simp -dsimp -implicitDefEqProofs only [go_sem], by simp -dsimp -implicitDefEqProofs only [go_sem], by simp -dsimp -implicitDefEqProofs only [go_sem], 5, a + 1, 0, d, rfl, by omega, by omega, by simp -dsimp -implicitDefEqProofs only [go_sem]; omega, by simp -dsimp -implicitDefEqProofs only [go_sem], hR, h⟩
  rintro eo w1 ⟨hdo, e0o, e1o, e2o, s, i, j, d1, hsj, hai, hib, e7o, e8o, hp, h1⟩
  cases s with
  | zero =>
    have : j = 5 := by omega
    subst this
    have hp' : (d1, false) = R := hp
    subst hp'
    simp -dsimp -implicitDefEqProofs (disch := omega) only [go_sem, reqD_of, dec_t, dec_f, wrap_i64, wrap_u32, wrap_u64, wrap_u8, hdo, e0o, e1o, e2o, e7o, e8o]
    exact h1
  | succ s =>
    have hj5 : (j : Int) < 5 := by omega
    rw [partialIns_step] at hp
    simp -dsimp -implicitDefEqProofs (disch := omega) only [go_sem, reqD_of, dec_t, dec_f, wrap_i64, wrap_u32, wrap_u64, wrap_u8, hdo, e0o, e1o, e2o, e7o, e8o, hj5]
    refine loop_intro (fun e w' => e.ds = [] ∧ e.ρ 0 = soV g o n c ∧ e.ρ 1 = .int .i64 a ∧ e.ρ 2 = .int .i64 b ∧ e.ρ 8 = .int .i64 j ∧ ∃ k : Nat, a < k ∧ k ≤ b ∧ e.ρ 7 = .int .i64 k ∧ scanSorted ltInt d1 b k = scanSorted ltInt d1 b i ∧ St w0 (SoP g o n c d1 * F) w')
      (fun e _ => match e.ρ 7 with | .int _ k => (b - k).toNat | _ => 0) ?_ ?_
    · exact ⟨by simp -dsimp -implicitDefEqProofs only [go_sem, hdo], by simp -dsimp -implicitDefEqProofs only [go_sem, e0o], by simp -dsimp -implicitDefEqProofs only [go_sem, e1o], by simp -dsimp -implicitDefEqProofs only [go_sem, e2o], by simp -dsimp -implicitDefEqProofs only [go_sem, e8o], i, hai, hib, by simp -dsimp -implicitDefEqProofs only [go_sem, e7o], rfl, h1⟩
    rintro e w2 ⟨hd, e0, e1, e2, e8, k, hak, hkb, e7, hs, h2⟩
    have stop : ∀ {Q : Post} {e' : FA} {w' : World} {θ : Tag (F82.t7, Q, e', w')}, k = scanSorted ltInt d1 b i → e'.ds = [] → e'.ρ 0 = soV g o n c → e'.ρ 1 = .int .i64 a → e'.ρ 2 = .int .i64 b → e'.ρ 7 = .int .i64 k → e'.ρ 8 = .int .i64 j → St w0 (SoP g o n c d1 * F) w' →
        (∀ (e'' : FA) (w'' : World), e''.ds = [] → e''.ρ 6 = .bool R.2 → St w0 (SoP g o n c R.1 * F) w'' → Q .ret e'' w'') →
        (∀ (e'' : FA) (w'' : World) (d'' : Array Int), k < b → e''.ds = [] → e''.ρ 0 = soV g o n c → e''.ρ 1 = .int .i64 a → e''.ρ 2 = .int .i64 b → e''.ρ 7 = .int .i64 k → e''.ρ 8 = .int .i64 j → partialIns ltInt a b s k d'' = R → St w0 (SoP g o n c d'' * F) w'' → Q .normal e'' w'') → cwE Try.prog F82.t7 Q e' w' θ := by
      intro Q e' w' θ hk f0 f1 f2 f3 f4 f5 hw hr hq
      rw [← hk] at hp
      rw [F82.t7_eq]
      by_cases hkb' : (k : Int) = b
      · rw [if_pos (by omega)] at hp
        subst hp
        simp -dsimp -implicitDefEqProofs (disch := omega) only [go_sem, reqD_of, dec_t, dec_f, wrap_i64, wrap_u32, wrap_u64, wrap_u8, f0, f1, f2, f3, f4, f5, hkb']
        exact hr _ _ (by simp -dsimp -implicitDefEqProofs only [go_sem, f0]) (by simp -dsimp -implicitDefEqProofs only [go_sem]) hw
      rw [if_neg (by omega)] at hp
      by_cases h50 : ((b - a : Nat) : Int) < 50
      · rw [if_pos (by omega)] at hp
        subst hp
        simp -dsimp -implicitDefEqProofs (disch := omega) only [go_sem, reqD_of, dec_t, dec_f, wrap_i64, wrap_u32, wrap_u64, wrap_u8, f0, f1, f2, f3, f4, f5, hkb', i1, h50]
        exact hr _ _ (by simp -dsimp -implicitDefEqProofs only [go_sem, f0]) (by simp -dsimp -implicitDefEqProofs only [go_sem]) hw
      rw [if_neg (by omega)] at hp
      simp -dsimp -implicitDefEqProofs (disch := omega) only [go_sem, reqD_of, dec_t, dec_f, wrap_i64, wrap_u32, wrap_u64, wrap_u8, f0, f1, f2, f3, f4, f5, hkb', i1, h50]
      refine ins11 (a := a) (b := b) (i := k) (j := j) hw hb hak (by omega) hn rfl (by simp -dsimp -implicitDefEqProofs only [go_sem, f0]) (by simp -dsimp -implicitDefEqProofs only [go_sem, f1]) (by simp -dsimp -implicitDefEqProofs only [go_sem, f2]) (by simp -dsimp -implicitDefEqProofs only [go_sem, f3]) (by simp -dsimp -implicitDefEqProofs only [go_sem, f4]) (by simp -dsimp -implicitDefEqProofs only [go_sem, f5]) ?_
      intro e'' w'' g0 g1 g2 g3 g4 g5 h9
      exact hq _ _ _ (by omega) g0 g1 g2 g3 g4 g5 hp h9
    have fin : ∀ {e' : FA} {w' : World}, k = scanSorted ltInt d1 b i → True := fun _ => trivial
    by_cases hlt : (k : Int) < b
    case neg =>
      rw [scanSorted_no (fun hx => by omega)] at hs
      simp -dsimp -implicitDefEqProofs (disch := omega) only [go_sem, reqD_of, dec_t, dec_f, wrap_i64, wrap_u32, wrap_u64, wrap_u8, hd, e0, e1, e2, e7, e8, hlt]
      refine stop hs (by simp -dsimp -implicitDefEqProofs only [go_sem, hd]) (by simp -dsimp -implicitDefEqProofs only [go_sem, e0]) (by simp -dsimp -implicitDefEqProofs only [go_sem, e1]) (by simp -dsimp -implicitDefEqProofs only [go_sem, e2]) (by simp -dsimp -implicitDefEqProofs only [go_sem, e7]) (by simp -dsimp -implicitDefEqProofs only [go_sem, e8]) h2.drew ?_ ?_
      · intro e'' w'' f0 f6 h9
        simp -dsimp -implicitDefEqProofs (disch := omega) only [go_sem, reqD_of, dec_t, dec_f, wrap_i64, wrap_u32, wrap_u64, wrap_u8, f0, f6]
        exact h9
      · intro e'' w'' d'' hk f0 f1 f2 f3 f4 f5 hp' h9
        omega
    have h3 := h2.drew
    have ck := SoP.get h3 (i := k) (by omega)
    have cp := SoP.get h3 (i := k - 1) (by omega)
    have hk0 : (k : Int) - 1 = ((k - 1 : Nat) : Int) := by omega
    simp -dsimp -implicitDefEqProofs (disch := omega) only [go_sem, reqD_of, dec_t, dec_f, wrap_i64, wrap_u32, wrap_u64, wrap_u8, hd, e0, e1, e2, e7, e8, hlt, hk0, ck, cp]
    refine (lessW_any h3).mono ?_
    rintro e' w3 ⟨h4, rfl⟩
    cases hl : ltInt d1[k]! d1[k - 1]!
    · rw [scanSorted_go (by omega) hl] at hs
      simp -dsimp -implicitDefEqProofs (disch := omega) only [go_sem, reqD_of, dec_t, dec_f, wrap_i64, wrap_u32, wrap_u64, wrap_u8, hd, e0, e1, e2, e7, e8, hlt]
      exact ⟨⟨k + 1, by omega, by omega, by omega, hs, h4⟩, by omega⟩
    · rw [scanSorted_no (fun _ => hl)] at hs
      simp -dsimp -implicitDefEqProofs (disch := omega) only [go_sem, reqD_of, dec_t, dec_f, wrap_i64, wrap_u32, wrap_u64, wrap_u8, hd, e0, e1, e2, e7, e8, hlt]
      refine stop hs (by simp -dsimp -implicitDefEqProofs only [go_sem, hd]) (by simp -dsimp -implicitDefEqProofs only [go_sem, e0]) (by simp -dsimp -implicitDefEqProofs only [go_sem, e1]) (by simp -dsimp -implicitDefEqProofs only [go_sem, e2]) (by simp -dsimp -implicitDefEqProofs only [go_sem, e7]) (by simp -dsimp -implicitDefEqProofs only [go_sem, e8]) h4 ?_ ?_
      · intro e'' w'' f0 f6 h9
        simp -dsimp -implicitDefEqProofs (disch := omega) only [go_sem, reqD_of, dec_t, dec_f, wrap_i64, wrap_u32, wrap_u64, wrap_u8, f0, f6]
        exact h9
      · intro e'' w'' d'' hk f0 f1 f2 f3 f4 f5 hp' h9
        simp -dsimp -implicitDefEqProofs (disch := omega) only [go_sem, reqD_of, dec_t, dec_f, wrap_i64, wrap_u32, wrap_u64, wrap_u8, f0, f1, f2, f3, f4, f5, e8o]
        exact ⟨⟨s, k, j + 1, d'', by omega, hak, by omega, rfl, by omega, hp', h9⟩, by omega⟩

end
end Go.Proofs.Ytljndiligbaljaa
