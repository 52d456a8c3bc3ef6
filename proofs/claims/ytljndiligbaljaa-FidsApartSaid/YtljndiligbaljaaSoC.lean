/- slices.Sort at uint32: heap sort, reverse, the pivot. -/
import Derived.Test.YtljndiligbaljaaSoB
namespace Go.Proofs.Ytljndiligbaljaa
open Go Go.Sort
set_option linter.unusedSimpArgs false
set_option linter.unusedVariables false
set_option maxRecDepth 100000

/-! ### heapSort -/
section
attribute [local go_sem] F78.t5_eq F78.t6_eq F78.t9_eq F78.t10_eq F78.t7_eq
theorem heapPop_any {w0 w : World} {F : HP} {g o n c a b : Nat} {d D : Array Int} {e : FA} (h : St w0 (SoP g o n c d * F) w) (hb : b ≤ n) (hab : a ≤ b) (hn : n < 2305843009213693951) (hD : heapPop ltInt a (b - a) d = D)
    (hd : e.ds = []) (e0 : e.ρ 0 = soV g o n c) (e6 : e.ρ 6 = .int .i64 a) (e7 : e.ρ 7 = .int .i64 (0 : Nat)) (e8 : e.ρ 8 = .int .i64 ((b - a : Nat) : Int)) :
    cwE Try.prog F78.t7 (fnP Try.prog #[] fun e w' => St w0 (SoP g o n c D * F) w' ∧ e = .returned (.tuple #[])) e w := by
  rw [F78.t7_eq]
  simp -dsimp -implicitDefEqProofs (disch := omega) only [go_sem, reqD_of, dec_t, dec_f, wrap_i64, wrap_u32, wrap_u64, wrap_u8, hd, e0, e6, e7, e8]
  refine loop_intro (fun e w' => e.ds = [] ∧ e.ρ 0 = soV g o n c ∧ e.ρ 6 = .int .i64 a ∧ e.ρ 7 = .int .i64 (0 : Nat) ∧ ∃ (k : Nat) (d' : Array Int), k ≤ b - a ∧ e.ρ 10 = .int .i64 ((k : Int) - 1) ∧ heapPop ltInt a k d' = D ∧ St w0 (SoP g o n c d' * F) w')
    (fun e _ => match e.ρ 10 with | .int _ k => (k + 1).toNat | _ => 0) ?_ ?_
  · exact ⟨by simp -dsimp -implicitDefEqProofs only [go_sem, hd], by simp -dsimp -implicitDefEqProofs only [go_sem, e0], by simp -dsimp -implicitDefEqProofs only [go_sem, e6], by simp -dsimp -implicitDefEqProofs only [go_sem, e7], b - a, d, by omega, by simp -dsimp -implicitDefEqProofs only [go_sem], hD, h⟩
  rintro e w1 ⟨hd, e0, e6, e7, k, d1, hk, e10, hd1, h1⟩
  cases k with
  | zero =>
    simp -dsimp -implicitDefEqProofs (disch := omega) only [go_sem, reqD_of, dec_t, dec_f, wrap_i64, wrap_u32, wrap_u64, wrap_u8, hd, e0, e6, e7, e10]
    have : d1 = D := hd1
    rw [← this]
    exact h1
  | succ k =>
    have hk1 : ((k + 1 : Nat) : Int) - 1 = k := by omega
    have hk0 : (0 : Int) ≤ k := by omega
    rw [hk1] at e10
    have h2 := h1.drew
    have c0 := SoP.get h2 (i := a) (by omega)
    have c1 := SoP.get h2 (i := a + k) (by omega)
    have i1 : (a : Int) + k = ((a + k : Nat) : Int) := by omega
    simp -dsimp -implicitDefEqProofs (disch := omega) only [go_sem, reqD_of, dec_t, dec_f, wrap_i64, wrap_u32, wrap_u64, wrap_u8, hd, e0, e6, e7, e10, hk0, i1, c0, c1]
    refine SoP.set h2 (i := a) (by omega) fun w2 h3 => ?_
    simp -dsimp -implicitDefEqProofs (disch := omega) only [go_sem, reqD_of, dec_t, dec_f, wrap_i64, wrap_u32, wrap_u64, wrap_u8, hd, e0, e6, e7, e10, i1]
    refine SoP.set h3 (i := a + k) (by omega) fun w3 h4 => ?_
    have h4' : St w0 (SoP g o n c (swp d1 a (a + k)) * F) w3 := h4
    simp -dsimp -implicitDefEqProofs (disch := omega) only [go_sem, reqD_of, dec_t, dec_f, wrap_i64, wrap_u32, wrap_u64, wrap_u8, hd, e0, e6, e7, e10]
    refine (sift_any (lo := 0) (hi := k) (first := a) h4' (by omega) (by omega) hn).mono ?_
    rintro e' w4 ⟨h5, rfl⟩
    simp -dsimp -implicitDefEqProofs (disch := omega) only [go_sem, reqD_of, dec_t, dec_f, wrap_i64, wrap_u32, wrap_u64, wrap_u8, hd, e0, e6, e7, e10]
    exact ⟨⟨k, _, by omega, rfl, hd1, h5⟩, by omega⟩

end
section
attribute [local go_sem] F78.t5_eq F78.t6_eq F78.t9_eq F78.t10_eq
theorem heapSort_any {w0 w : World} {F : HP} {g o n c a b : Nat} {d : Array Int} (h : St w0 (SoP g o n c d * F) w) (hb : b ≤ n) (hab : a < b) (hn : n < 2305843009213693951) :
    Calls Try.prog 78 #[soV g o n c, .int .i64 a, .int .i64 b] w fun e w' => St w0 (SoP g o n c (heapSort ltInt d a b) * F) w' ∧ e = .returned (.tuple #[]) := by
  refine F78.calls (by simp) ?_
  unfold F78.code
  have i1 : (b : Int) - a = ((b - a : Nat) : Int) := by omega
  have i2 : ((b - a : Nat) : Int) - 1 = ((b - a - 1 : Nat) : Int) := by omega
  have i3 : ((b - a - 1 : Nat) : Int).tdiv 2 = (((b - a - 1) / 2 : Nat) : Int) := rfl
  simp -dsimp -implicitDefEqProofs (disch := omega) only [go_sem, reqD_of, dec_t, dec_f, wrap_i64, wrap_u32, wrap_u64, wrap_u8, i1, i2, i3]
  refine loop_intro (fun e w' => e.ds = [] ∧ e.ρ 0 = soV g o n c ∧ e.ρ 6 = .int .i64 a ∧ e.ρ 7 = .int .i64 (0 : Nat) ∧ e.ρ 8 = .int .i64 ((b - a : Nat) : Int) ∧ ∃ (k : Nat) (d' : Array Int), k ≤ (b - a - 1) / 2 + 1 ∧ e.ρ 9 = .int .i64 ((k : Int) - 1) ∧ heapBuild ltInt (b - a) a k d' = heapBuild ltInt (b - a) a ((b - a - 1) / 2 + 1) d ∧ St w0 (SoP g o n c d' * F) w')
    (fun e _ => match e.ρ 9 with | .int _ k => (k + 1).toNat | _ => 0) ?_ ?_
  · exact ⟨rfl, by simp -dsimp -implicitDefEqProofs only [go_sem], by simp -dsimp -implicitDefEqProofs only [go_sem], by simp -dsimp -implicitDefEqProofs only [go_sem], by simp -dsimp -implicitDefEqProofs only [go_sem], (b - a - 1) / 2 + 1, d, by omega, by simp -dsimp -implicitDefEqProofs only [go_sem]; omega, rfl, h⟩
  rintro e w1 ⟨hd, e0, e6, e7, e8, k, d1, hk, e9, hd1, h1⟩
  cases k with
  | zero =>
    have hm : ¬ (0 : Int) ≤ ((0 : Nat) : Int) - 1 := by omega
    simp -dsimp -implicitDefEqProofs (disch := omega) only [go_sem, reqD_of, dec_t, dec_f, wrap_i64, wrap_u32, wrap_u64, wrap_u8, hd, e0, e6, e7, e8, e9, hm]
    have hd2 : d1 = heapBuild ltInt (b - a) a ((b - a - 1) / 2 + 1) d := hd1
    exact heapPop_any (n := n) (a := a) (b := b) h1 hb (by omega) hn (by rw [hd2]; rfl) (by simp -dsimp -implicitDefEqProofs only [go_sem, hd]) (by simp -dsimp -implicitDefEqProofs only [go_sem, e0]) (by simp -dsimp -implicitDefEqProofs only [go_sem, e6]) (by simp -dsimp -implicitDefEqProofs only [go_sem, e7]) (by simp -dsimp -implicitDefEqProofs only [go_sem, e8])
  | succ k =>
    have hk1 : ((k + 1 : Nat) : Int) - 1 = k := by omega
    have hk0 : (0 : Int) ≤ k := by omega
    rw [hk1] at e9
    simp -dsimp -implicitDefEqProofs (disch := omega) only [go_sem, reqD_of, dec_t, dec_f, wrap_i64, wrap_u32, wrap_u64, wrap_u8, hd, e0, e6, e7, e8, e9, hk0]
    refine (sift_any (lo := k) (hi := b - a) (first := a) h1 (by omega) (by omega) hn).mono ?_
    rintro e' w4 ⟨h5, rfl⟩
    simp -dsimp -implicitDefEqProofs (disch := omega) only [go_sem, reqD_of, dec_t, dec_f, wrap_i64, wrap_u32, wrap_u64, wrap_u8, hd, e0, e6, e7, e8, e9]
    exact ⟨⟨k, _, by omega, rfl, hd1, h5⟩, by omega⟩

/-! ### reverseRange -/
theorem reverseLoop_go {i j : Nat} {d : Array Int} (h : i < j) : reverseLoop i j d = reverseLoop (i + 1) (j - 1) (swp d i j) := by rw [reverseLoop, if_pos h]
theorem reverseLoop_no {i j : Nat} {d : Array Int} (h : ¬ i < j) : reverseLoop i j d = d := by rw [reverseLoop, if_neg h]
end
section
attribute [local go_sem] F81.t3_eq
theorem reverse_any {w0 w : World} {F : HP} {g o n c a b : Nat} {d : Array Int} (h : St w0 (SoP g o n c d * F) w) (hb : b ≤ n) (hab : a < b) (hn : n < 2305843009213693951) :
    Calls Try.prog 81 #[soV g o n c, .int .i64 a, .int .i64 b] w fun e w' => St w0 (SoP g o n c (reverseRange d a b) * F) w' ∧ e = .returned (.tuple #[]) := by
  refine F81.calls (by simp) ?_
  unfold F81.code
  simp -dsimp -implicitDefEqProofs (disch := omega) only [go_sem, reqD_of, dec_t, dec_f, wrap_i64, wrap_u32, wrap_u64, wrap_u8]
  refine loop_intro (fun e w' => e.ds = [] ∧ e.ρ 0 = soV g o n c ∧ ∃ (i j : Nat) (d' : Array Int), i ≤ j + 1 ∧ j < n ∧ e.ρ 6 = .int .i64 i ∧ e.ρ 7 = .int .i64 j ∧ reverseLoop i j d' = reverseRange d a b ∧ St w0 (SoP g o n c d' * F) w')
    (fun e _ => match e.ρ 6, e.ρ 7 with | .int _ i, .int _ j => (j + 1 - i).toNat | _, _ => 0) ?_ ?_
  · exact ⟨rfl, by simp -dsimp -implicitDefEqProofs only [go_sem], a, b - 1, d, by omega, by omega, by simp -dsimp -implicitDefEqProofs only [go_sem], by simp -dsimp -implicitDefEqProofs only [go_sem]; omega, rfl, h⟩
  rintro e w1 ⟨hd, e0, i, j, d1, hij, hj, e6, e7, hd1, h1⟩
  by_cases hlt : (i : Int) < j
  case neg =>
    simp -dsimp -implicitDefEqProofs (disch := omega) only [go_sem, reqD_of, dec_t, dec_f, wrap_i64, wrap_u32, wrap_u64, wrap_u8, hd, e0, e6, e7, hlt]
    rw [reverseLoop_no (by omega)] at hd1
    rw [← hd1]
    exact h1
  have h2 := h1.drew
  have c0 := SoP.get h2 (i := i) (by omega)
  have c1 := SoP.get h2 (i := j) (by omega)
  simp -dsimp -implicitDefEqProofs (disch := omega) only [go_sem, reqD_of, dec_t, dec_f, wrap_i64, wrap_u32, wrap_u64, wrap_u8, hd, e0, e6, e7, hlt, c0, c1]
  refine SoP.set h2 (i := i) (by omega) fun w2 h3 => ?_
  simp -dsimp -implicitDefEqProofs (disch := omega) only [go_sem, reqD_of, dec_t, dec_f, wrap_i64, wrap_u32, wrap_u64, wrap_u8, hd, e0, e6, e7]
  refine SoP.set h3 (i := j) (by omega) fun w3 h4 => ?_
  have h4' : St w0 (SoP g o n c (swp d1 i j) * F) w3 := h4
  rw [reverseLoop_go (by omega)] at hd1
  simp -dsimp -implicitDefEqProofs (disch := omega) only [go_sem, reqD_of, dec_t, dec_f, wrap_i64, wrap_u32, wrap_u64, wrap_u8, hd, e0, e6, e7]
  exact ⟨⟨i + 1, j - 1, swp d1 i j, by omega, by omega, by omega, by omega, hd1, h4'⟩, by omega⟩

/-! ### order2, median -/
def SwP (k : Nat) (s : Nat) : HP := Blk k (.cells #[.int .i64 s] 3 (0, 0))
end
section
attribute [local go_sem] F94.t4_eq
theorem order2_any {w0 w : World} {F : HP} {g o n c a b k s : Nat} {d : Array Int} (h : St w0 (SwP k s * (SoP g o n c d * F)) w) (ha : a < n) (hb : b < n) (hs : s < 1000) :
    Calls Try.prog 94 #[soV g o n c, .int .i64 a, .int .i64 b, .pointer (some ⟨k, 0, none⟩)] w fun e w' => St w0 (SwP k (order2 ltInt d a b s).2.2 * (SoP g o n c d * F)) w' ∧ e = .returned (.tuple #[.int .i64 (order2 ltInt d a b s).1, .int .i64 (order2 ltInt d a b s).2.1]) := by
  refine F94.calls (by simp) ?_
  unfold F94.code
  have h1 : St w0 (SoP g o n c d * (SwP k s * F)) w.drew := h.drew.sw2
  have c0 := SoP.get h1 (i := a) ha
  have c1 := SoP.get h1 (i := b) hb
  simp -dsimp -implicitDefEqProofs (disch := omega) only [go_sem, reqD_of, dec_t, dec_f, wrap_i64, wrap_u32, wrap_u64, wrap_u8, c0, c1]
  refine (lessW_any h1).mono ?_
  rintro e' w1 ⟨h2, rfl⟩
  have h3 : St w0 (Blk k (.cells #[.int .i64 s] 3 (0, 0)) * (SoP g o n c d * F)) w1 := h2.sw2
  cases hl : ltInt d[b]! d[a]!
  · simp -dsimp -implicitDefEqProofs (disch := omega) only [go_sem, reqD_of, dec_t, dec_f, wrap_i64, wrap_u32, wrap_u64, wrap_u8]
    simp only [order2, hl, Bool.false_eq_true, if_false]
    exact ⟨h3, trivial⟩
  · have hk := h3.cl k
    simp -dsimp -implicitDefEqProofs (disch := omega) only [go_sem, reqD_of, dec_t, dec_f, wrap_i64, wrap_u32, wrap_u64, wrap_u8, hk]
    refine h3.sto (b := k) (off := 0) (by simp) rfl fun w2 h4 => ?_
    simp -dsimp -implicitDefEqProofs (disch := omega) only [go_sem, reqD_of, dec_t, dec_f, wrap_i64, wrap_u32, wrap_u64, wrap_u8]
    simp only [order2, hl, if_true]
    refine ⟨?_, trivial⟩
    unfold SwP
    have : ((s + 1 : Nat) : Int) = (s : Int) + 1 := by omega
    rw [this]
    exact h4

theorem order2_lt {lt : Int → Int → Bool} {d : Array Int} {a b s n : Nat} (ha : a < n) (hb : b < n) : (order2 lt d a b s).1 < n ∧ (order2 lt d a b s).2.1 < n ∧ (order2 lt d a b s).2.2 ≤ s + 1 := by
  unfold order2
  split <;> simp <;> omega

end

theorem median_any {w0 w : World} {F : HP} {g o n c a b e k s : Nat} {d : Array Int} (h : St w0 (SwP k s * (SoP g o n c d * F)) w) (ha : a < n) (hb : b < n) (he : e < n) (hs : s < 900) :
    Calls Try.prog 92 #[soV g o n c, .int .i64 a, .int .i64 b, .int .i64 e, .pointer (some ⟨k, 0, none⟩)] w fun en w' => St w0 (SwP k (median ltInt d a b e s).2 * (SoP g o n c d * F)) w' ∧ en = .returned (.int .i64 (median ltInt d a b e s).1) := by
  refine F92.calls (by simp) ?_
  unfold F92.code
  simp -dsimp -implicitDefEqProofs (disch := omega) only [go_sem, reqD_of, dec_t, dec_f, wrap_i64, wrap_u32, wrap_u64, wrap_u8]
  obtain ⟨p1, p2, p3⟩ := order2_lt (lt := ltInt) (d := d) (s := s) ha hb
  refine (order2_any h ha hb (by omega)).mono ?_
  rintro e' w1 ⟨h1, rfl⟩
  unfold median
  simp only
  generalize order2 ltInt d a b s = r1 at *
  obtain ⟨x1, y1, s1⟩ := r1
  simp only at p1 p2 p3 h1
  simp -dsimp -implicitDefEqProofs (disch := omega) only [go_sem, reqD_of, dec_t, dec_f, wrap_i64, wrap_u32, wrap_u64, wrap_u8]
  obtain ⟨q1, q2, q3⟩ := order2_lt (lt := ltInt) (d := d) (s := s1) p2 he
  refine (order2_any h1 p2 he (by omega)).mono ?_
  rintro e' w2 ⟨h2, rfl⟩
  generalize order2 ltInt d y1 e s1 = r2 at *
  obtain ⟨x2, y2, s2⟩ := r2
  simp only at q1 q2 q3 h2
  simp -dsimp -implicitDefEqProofs (disch := omega) only [go_sem, reqD_of, dec_t, dec_f, wrap_i64, wrap_u32, wrap_u64, wrap_u8]
  refine (order2_any h2 p1 q1 (by omega)).mono ?_
  rintro e' w3 ⟨h3, rfl⟩
  simp -dsimp -implicitDefEqProofs (disch := omega) only [go_sem, reqD_of, dec_t, dec_f, wrap_i64, wrap_u32, wrap_u64, wrap_u8]
  exact h3
theorem median_lt {lt : Int → Int → Bool} {d : Array Int} {a b e s n : Nat} (ha : a < n) (hb : b < n) (he : e < n) : (median lt d a b e s).1 < n ∧ (median lt d a b e s).2 ≤ s + 3 := by
  unfold median
  simp only
  obtain ⟨p1, p2, p3⟩ := order2_lt (lt := lt) (d := d) (s := s) ha hb
  generalize order2 lt d a b s = r1 at *
  obtain ⟨q1, q2, q3⟩ := order2_lt (lt := lt) (d := d) (s := r1.2.2) p2 he
  generalize order2 lt d r1.2.1 e r1.2.2 = r2 at *
  obtain ⟨t1, t2, t3⟩ := order2_lt (lt := lt) (d := d) (s := r2.2.2) p1 q1
  omega


theorem medianAdj_any {w0 w : World} {F : HP} {g o n c a k s : Nat} {d : Array Int} (h : St w0 (SwP k s * (SoP g o n c d * F)) w) (ha : 1 ≤ a) (hb : a + 1 < n) (hs : s < 900) (hn : n < 2305843009213693951) :
    Calls Try.prog 91 #[soV g o n c, .int .i64 a, .pointer (some ⟨k, 0, none⟩)] w fun en w' => St w0 (SwP k (medianAdjacent ltInt d a s).2 * (SoP g o n c d * F)) w' ∧ en = .returned (.int .i64 (medianAdjacent ltInt d a s).1) := by
  refine F91.calls (by simp) ?_
  unfold F91.code
  have i1 : (a : Int) - 1 = ((a - 1 : Nat) : Int) := by omega
  have i2 : (a : Int) + 1 = ((a + 1 : Nat) : Int) := by omega
  simp -dsimp -implicitDefEqProofs (disch := omega) only [go_sem, reqD_of, dec_t, dec_f, wrap_i64, wrap_u32, wrap_u64, wrap_u8, i1, i2]
  refine (median_any h (a := a - 1) (b := a) (e := a + 1) (by omega) (by omega) hb hs).mono ?_
  rintro e' w1 ⟨h1, rfl⟩
  simp -dsimp -implicitDefEqProofs (disch := omega) only [go_sem, reqD_of, dec_t, dec_f, wrap_i64, wrap_u32, wrap_u64, wrap_u8]
  exact ⟨h1, rfl⟩

end Go.Proofs.Ytljndiligbaljaa
