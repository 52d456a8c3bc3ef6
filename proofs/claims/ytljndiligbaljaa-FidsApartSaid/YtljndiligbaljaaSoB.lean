/- slices.Sort at uint32: heap sort. -/
import Derived.Test.YtljndiligbaljaaSoA
namespace Go.Proofs.Ytljndiligbaljaa
open Go Go.Sort
set_option linter.unusedSimpArgs false
set_option linter.unusedVariables false
set_option maxRecDepth 100000

theorem siftDown_end {lt : Int → Int → Bool} {hi first root : Nat} {d : Array Int} (h : hi ≤ 2 * root + 1) : siftDown lt hi first root d = d := by
  rw [siftDown, dif_pos h]
theorem siftDown_r {lt : Int → Int → Bool} {hi first root : Nat} {d : Array Int} (h : 2 * root + 2 < hi) (hl : lt d[first + (2 * root + 1)]! d[first + (2 * root + 1) + 1]! = true) :
    siftDown lt hi first root d = if lt d[first + root]! d[first + (2 * root + 2)]! = true then siftDown lt hi first (2 * root + 2) (swp d (first + root) (first + (2 * root + 2))) else d := by
  rw [siftDown, dif_neg (by omega), if_pos (by simp only [Bool.and_eq_true, decide_eq_true_eq]; exact ⟨by omega, hl⟩)]
  cases lt d[first + root]! d[first + (2 * root + 2)]! <;> simp [h]
theorem siftDown_l {lt : Int → Int → Bool} {hi first root : Nat} {d : Array Int} (h : 2 * root + 1 < hi) (hl : ¬ (2 * root + 2 < hi ∧ lt d[first + (2 * root + 1)]! d[first + (2 * root + 1) + 1]! = true)) :
    siftDown lt hi first root d = if lt d[first + root]! d[first + (2 * root + 1)]! = true then siftDown lt hi first (2 * root + 1) (swp d (first + root) (first + (2 * root + 1))) else d := by
  rw [siftDown, dif_neg (by omega), if_neg (by simp only [Bool.and_eq_true, decide_eq_true_eq]; exact fun ⟨a, b⟩ => hl ⟨by omega, b⟩)]
  cases lt d[first + root]! d[first + (2 * root + 1)]! <;> simp

section
attribute [local go_sem] F88.t6_eq F88.t5_eq F88.t3_eq
theorem siftTail_any {w0 w : World} {F : HP} {g o n c hi first root child : Nat} {d D : Array Int} {Q : Post} {e : FA} {θ : Tag (F88.t5, Q, e, w)} (h : St w0 (SoP g o n c d * F) w) (hb : first + hi ≤ n) (hn : n < 4611686018427387904) (hch : child < hi) (hrc : root < child)
    (hD : D = if ltInt d[first + root]! d[first + child]! = true then siftDown ltInt hi first child (swp d (first + root) (first + child)) else d)
    (hd : e.ds = []) (e0 : e.ρ 0 = soV g o n c) (e2 : e.ρ 2 = .int .i64 hi) (e3 : e.ρ 3 = .int .i64 first) (e8 : e.ρ 8 = .int .i64 root) (e9 : e.ρ 9 = .int .i64 child)
    (hR : ∀ (e' : FA) (w' : World), e'.ds = [] → St w0 (SoP g o n c D * F) w' → Q .ret e' w')
    (hQ : ∀ (e' : FA) (w' : World) (d' : Array Int), e'.ds = [] → e'.ρ 0 = soV g o n c → e'.ρ 2 = .int .i64 hi → e'.ρ 3 = .int .i64 first → e'.ρ 8 = .int .i64 child → siftDown ltInt hi first child d' = D → St w0 (SoP g o n c d' * F) w' → Q .normal e' w') :
    cwE Try.prog F88.t5 Q e w θ := by
  rw [F88.t5_eq]
  have h1 := h.drew
  have c0 := SoP.get h1 (i := first + root) (by omega)
  have c1 := SoP.get h1 (i := first + child) (by omega)
  have i0 : (first : Int) + root = ((first + root : Nat) : Int) := by omega
  have i1 : (first : Int) + child = ((first + child : Nat) : Int) := by omega
  simp -dsimp -implicitDefEqProofs (disch := omega) only [go_sem, reqD_of, dec_t, dec_f, wrap_i64, wrap_u32, wrap_u64, wrap_u8, hd, e0, e2, e3, e8, e9, i0, i1, c0, c1]
  refine (lessW_any h1).mono ?_
  rintro e' w1 ⟨h2, rfl⟩
  cases hl : ltInt d[first + root]! d[first + child]!
  · rw [hl, if_neg (by simp)] at hD
    simp -dsimp -implicitDefEqProofs (disch := omega) only [go_sem, reqD_of, dec_t, dec_f, wrap_i64, wrap_u32, wrap_u64, wrap_u8, hd, e0, e2, e3, e8, e9]
    rw [hD] at hR
    exact hR _ _ (by simp -dsimp -implicitDefEqProofs only [go_sem, hd]) h2
  · rw [hl, if_pos rfl] at hD
    have h3 := h2.drew
    have c0 := SoP.get h3 (i := first + root) (by omega)
    have c1 := SoP.get h3 (i := first + child) (by omega)
    simp -dsimp -implicitDefEqProofs (disch := omega) only [go_sem, reqD_of, dec_t, dec_f, wrap_i64, wrap_u32, wrap_u64, wrap_u8, hd, e0, e2, e3, e8, e9, i0, i1, c0, c1]
    refine SoP.set h3 (i := first + root) (by omega) fun w4 h6 => ?_
    simp -dsimp -implicitDefEqProofs (disch := omega) only [go_sem, reqD_of, dec_t, dec_f, wrap_i64, wrap_u32, wrap_u64, wrap_u8, hd, e0, e2, e3, e8, e9, i0, i1]
    refine SoP.set h6 (i := first + child) (by omega) fun w5 h7 => ?_
    simp -dsimp -implicitDefEqProofs (disch := omega) only [go_sem, reqD_of, dec_t, dec_f, wrap_i64, wrap_u32, wrap_u64, wrap_u8, hd, e0, e2, e3, e8, e9]
    exact hQ _ _ (swp d (first + root) (first + child)) (by simp -dsimp -implicitDefEqProofs only [go_sem, hd]) (by simp -dsimp -implicitDefEqProofs only [go_sem, e0]) (by simp -dsimp -implicitDefEqProofs only [go_sem, e2]) (by simp -dsimp -implicitDefEqProofs only [go_sem, e3]) (by simp -dsimp -implicitDefEqProofs only [go_sem]) hD.symm h7

end
section
attribute [local go_sem] F88.t6_eq F88.t3_eq
theorem sift_any {w0 w : World} {F : HP} {g o n c lo hi first : Nat} {d : Array Int} (h : St w0 (SoP g o n c d * F) w) (hb : first + hi ≤ n) (hlo : lo ≤ n) (hn : n < 2305843009213693951) :
    Calls Try.prog 88 #[soV g o n c, .int .i64 lo, .int .i64 hi, .int .i64 first] w fun e w' => St w0 (SoP g o n c (siftDown ltInt hi first lo d) * F) w' ∧ e = .returned (.tuple #[]) := by
  refine F88.calls (by simp) ?_
  unfold F88.code
  simp -dsimp -implicitDefEqProofs (disch := omega) only [go_sem, reqD_of, dec_t, dec_f, wrap_i64, wrap_u32, wrap_u64, wrap_u8]
  refine loop_intro (fun e w' => e.ds = [] ∧ e.ρ 0 = soV g o n c ∧ e.ρ 2 = .int .i64 hi ∧ e.ρ 3 = .int .i64 first ∧ ∃ (r : Nat) (d' : Array Int), r ≤ n ∧ e.ρ 8 = .int .i64 r ∧ siftDown ltInt hi first r d' = siftDown ltInt hi first lo d ∧ St w0 (SoP g o n c d' * F) w')
    (fun e _ => match e.ρ 8 with | .int _ k => (n - k).toNat | _ => 0) ?_ ?_
  · exact ⟨rfl, by simp -dsimp -implicitDefEqProofs only [go_sem], by simp -dsimp -implicitDefEqProofs only [go_sem], by simp -dsimp -implicitDefEqProofs only [go_sem], lo, d, hlo, by simp -dsimp -implicitDefEqProofs only [go_sem], rfl, h⟩
  rintro e w1 ⟨hd, e0, e2, e3, r, d1, hr, e8, hd1, h1⟩
  have i2 : 2 * (r : Int) + 1 = ((2 * r + 1 : Nat) : Int) := by omega
  by_cases hend : (hi : Int) ≤ ((2 * r + 1 : Nat) : Int)
  · simp -dsimp -implicitDefEqProofs (disch := omega) only [go_sem, reqD_of, dec_t, dec_f, wrap_i64, wrap_u32, wrap_u64, wrap_u8, hd, e0, e2, e3, e8, i2, hend]
    rw [siftDown_end (by omega)] at hd1
    rw [← hd1]
    exact h1
  have hch : 2 * r + 1 < hi := by omega
  have i3 : ((2 * r + 1 : Nat) : Int) + 1 = ((2 * r + 2 : Nat) : Int) := by omega
  have tail : ∀ {Q : Post} {e' : FA} {w' : World} {θ : Tag (F88.t5, Q, e', w')} (child : Nat), child < hi → r < child → St w0 (SoP g o n c d1 * F) w' →
      siftDown ltInt hi first lo d = (if ltInt d1[first + r]! d1[first + child]! = true then siftDown ltInt hi first child (swp d1 (first + r) (first + child)) else d1) →
      e'.ds = [] → e'.ρ 0 = soV g o n c → e'.ρ 2 = .int .i64 hi → e'.ρ 3 = .int .i64 first → e'.ρ 8 = .int .i64 r → e'.ρ 9 = .int .i64 child →
      (∀ (e' : FA) (w' : World), e'.ds = [] → St w0 (SoP g o n c (siftDown ltInt hi first lo d) * F) w' → Q .ret e' w') →
      (∀ (e' : FA) (w' : World) (d' : Array Int), e'.ds = [] → e'.ρ 0 = soV g o n c → e'.ρ 2 = .int .i64 hi → e'.ρ 3 = .int .i64 first → e'.ρ 8 = .int .i64 child → siftDown ltInt hi first child d' = siftDown ltInt hi first lo d → St w0 (SoP g o n c d' * F) w' → Q .normal e' w') → cwE Try.prog F88.t5 Q e' w' θ :=
    fun child q1 q2 hh hD f0 f1 f2 f3 f4 f5 hR hQ => siftTail_any hh hb (by omega) q1 q2 hD f0 f1 f2 f3 f4 f5 hR hQ
  have h2 := h1.drew
  by_cases hc2 : (((2 * r + 2 : Nat) : Int)) < hi
  · have c0 := SoP.get h2 (i := first + (2 * r + 1)) (by omega)
    have c1 := SoP.get h2 (i := first + (2 * r + 2)) (by omega)
    have i4 : (first : Int) + ((2 * r + 1 : Nat) : Int) = ((first + (2 * r + 1) : Nat) : Int) := by omega
    have i5 : ((first + (2 * r + 1) : Nat) : Int) + 1 = ((first + (2 * r + 2) : Nat) : Int) := by omega
    simp -dsimp -implicitDefEqProofs (disch := omega) only [go_sem, reqD_of, dec_t, dec_f, wrap_i64, wrap_u32, wrap_u64, wrap_u8, hd, e0, e2, e3, e8, i2, hend, i3, hc2, i4, i5, c0, c1]
    refine (lessW_any h2).mono ?_
    rintro e' w3 ⟨h3, rfl⟩
    cases hl : ltInt d1[first + (2 * r + 1)]! d1[first + (2 * r + 2)]!
    · simp -dsimp -implicitDefEqProofs (disch := omega) only [go_sem, reqD_of, dec_t, dec_f, wrap_i64, wrap_u32, wrap_u64, wrap_u8, hd, e0, e2, e3, e8]
      refine tail (2 * r + 1) hch (by omega) h3 ?_ (by simp -dsimp -implicitDefEqProofs only [go_sem, hd]) (by simp -dsimp -implicitDefEqProofs only [go_sem, e0]) (by simp -dsimp -implicitDefEqProofs only [go_sem, e2]) (by simp -dsimp -implicitDefEqProofs only [go_sem, e3]) (by simp -dsimp -implicitDefEqProofs only [go_sem, e8]) (by simp -dsimp -implicitDefEqProofs only [go_sem]) ?_ ?_
      · rw [← hd1, siftDown_l hch (fun ⟨_, hx⟩ => by rw [show first + (2 * r + 1) + 1 = first + (2 * r + 2) by omega, hl] at hx; cases hx)]
      · intro e' w' f0 h4
        simp -dsimp -implicitDefEqProofs (disch := omega) only [go_sem, reqD_of, dec_t, dec_f, wrap_i64, wrap_u32, wrap_u64, wrap_u8, f0]
        exact h4
      · intro e' w' d' f0 f1 f2 f3 f4 hdd h4
        simp -dsimp -implicitDefEqProofs (disch := omega) only [go_sem, reqD_of, dec_t, dec_f, wrap_i64, wrap_u32, wrap_u64, wrap_u8, f0, f1, f2, f3, f4, e8]
        exact ⟨⟨2 * r + 1, d', by omega, rfl, hdd, h4⟩, by omega⟩
    · simp -dsimp -implicitDefEqProofs (disch := omega) only [go_sem, reqD_of, dec_t, dec_f, wrap_i64, wrap_u32, wrap_u64, wrap_u8, hd, e0, e2, e3, e8, i3]
      refine tail (2 * r + 2) (by omega) (by omega) h3 ?_ (by simp -dsimp -implicitDefEqProofs only [go_sem, hd]) (by simp -dsimp -implicitDefEqProofs only [go_sem, e0]) (by simp -dsimp -implicitDefEqProofs only [go_sem, e2]) (by simp -dsimp -implicitDefEqProofs only [go_sem, e3]) (by simp -dsimp -implicitDefEqProofs only [go_sem, e8]) (by simp -dsimp -implicitDefEqProofs only [go_sem]) ?_ ?_
      · rw [← hd1, siftDown_r (by omega) (by rw [show first + (2 * r + 1) + 1 = first + (2 * r + 2) by omega]; exact hl)]
      · intro e' w' f0 h4
        simp -dsimp -implicitDefEqProofs (disch := omega) only [go_sem, reqD_of, dec_t, dec_f, wrap_i64, wrap_u32, wrap_u64, wrap_u8, f0]
        exact h4
      · intro e' w' d' f0 f1 f2 f3 f4 hdd h4
        simp -dsimp -implicitDefEqProofs (disch := omega) only [go_sem, reqD_of, dec_t, dec_f, wrap_i64, wrap_u32, wrap_u64, wrap_u8, f0, f1, f2, f3, f4, e8]
        exact ⟨⟨2 * r + 2, d', by omega, rfl, hdd, h4⟩, by omega⟩
  · simp -dsimp -implicitDefEqProofs (disch := omega) only [go_sem, reqD_of, dec_t, dec_f, wrap_i64, wrap_u32, wrap_u64, wrap_u8, hd, e0, e2, e3, e8, i2, hend, i3, hc2]
    refine tail (2 * r + 1) hch (by omega) h2 ?_ (by simp -dsimp -implicitDefEqProofs only [go_sem, hd]) (by simp -dsimp -implicitDefEqProofs only [go_sem, e0]) (by simp -dsimp -implicitDefEqProofs only [go_sem, e2]) (by simp -dsimp -implicitDefEqProofs only [go_sem, e3]) (by simp -dsimp -implicitDefEqProofs only [go_sem, e8]) (by simp -dsimp -implicitDefEqProofs only [go_sem]) ?_ ?_
    · rw [← hd1, siftDown_l hch (fun ⟨hx, _⟩ => by omega)]
    · intro e' w' f0 h4
      simp -dsimp -implicitDefEqProofs (disch := omega) only [go_sem, reqD_of, dec_t, dec_f, wrap_i64, wrap_u32, wrap_u64, wrap_u8, f0]
      exact h4
    · intro e' w' d' f0 f1 f2 f3 f4 hdd h4
      simp -dsimp -implicitDefEqProofs (disch := omega) only [go_sem, reqD_of, dec_t, dec_f, wrap_i64, wrap_u32, wrap_u64, wrap_u8, f0, f1, f2, f3, f4, e8]
      exact ⟨⟨2 * r + 1, d', by omega, rfl, hdd, h4⟩, by omega⟩

end
end Go.Proofs.Ytljndiligbaljaa
