/- slices.Sort at uint32: partition, partitionEqual, choosePivot. -/
import Derived.Test.YtljndiligbaljaaSoD
namespace Go.Proofs.Ytljndiligbaljaa
open Go Go.Sort
set_option linter.unusedSimpArgs false
set_option linter.unusedVariables false
set_option maxRecDepth 100000

theorem scanUp_top {p : Int → Bool} {d : Array Int} {i j n : Nat} (hi : i ≤ n + 1) (hj : j < n) : scanUp p d j i ≤ n + 1 := by
  by_cases h : i ≤ j + 1
  · have := (scanUp_spec p d j _ i rfl).2.1 h
    omega
  · rw [scanUp_no (fun hx => by omega)]; exact hi

section
attribute [local go_sem] F85.t4_eq F85.t6_eq F85.t14_eq F85.t16_eq F85.t18_eq F85.t17_eq F85.t15_eq F85.t21_eq F85.t10_eq F85.t7_eq F85.t5_eq
theorem part21 {w0 w : World} {F : HP} {g o n c a j : Nat} {d D : Array Int} {M : Nat} {e : FA} (h : St w0 (SoP g o n c d * F) w) (ha : a < n) (hj : j < n) (hn : n < 2305843009213693951) (hM : j = M) (hD : swp d j a = D)
    (hd : e.ds = []) (e0 : e.ρ 0 = soV g o n c) (e1 : e.ρ 1 = .int .i64 a) (e11 : e.ρ 11 = .int .i64 j) :
    cwE Try.prog F85.t21 (fnP Try.prog #[.tmp 8, .tmp 9] fun e w' => St w0 (SoP g o n c D * F) w' ∧ e = .returned (.tuple #[.int .i64 M, .bool false])) e w := by
  rw [F85.t21_eq]
  have h2 := h.drew
  have ck := SoP.get h2 (i := j) hj
  have ca := SoP.get h2 (i := a) ha
  simp -dsimp -implicitDefEqProofs (disch := omega) only [go_sem, reqD_of, dec_t, dec_f, wrap_i64, wrap_u32, wrap_u64, wrap_u8, hd, e0, e1, e11, ck, ca]
  refine SoP.set h2 (i := j) hj fun w2 h3 => ?_
  simp -dsimp -implicitDefEqProofs (disch := omega) only [go_sem, reqD_of, dec_t, dec_f, wrap_i64, wrap_u32, wrap_u64, wrap_u8, hd, e0, e1, e11]
  refine SoP.set h3 (i := a) ha fun w3 h4 => ?_
  have h4' : St w0 (SoP g o n c (swp d j a) * F) w3 := h4
  subst hM
  simp -dsimp -implicitDefEqProofs (disch := omega) only [go_sem, reqD_of, dec_t, dec_f, wrap_i64, wrap_u32, wrap_u64, wrap_u8, hd, e0, e1, e11]
  rw [← hD]
  exact h4'

end
section
attribute [local go_sem] F85.t4_eq F85.t6_eq F85.t14_eq F85.t16_eq F85.t18_eq F85.t17_eq F85.t15_eq F85.t10_eq F85.t7_eq F85.t5_eq
theorem part10 {w0 w : World} {F : HP} {g o n c a i j : Nat} {d D : Array Int} {M : Nat} {e : FA} (h : St w0 (SoP g o n c d * F) w) (ha : a < n) (hi : 1 ≤ i) (hij : i ≤ j) (hj : j < n) (hn : n < 2305843009213693951)
    (hM : (partLoop ltInt a (i + 1) (j - 1) (swp d i j)).1 = M) (hD : swp (partLoop ltInt a (i + 1) (j - 1) (swp d i j)).2 (partLoop ltInt a (i + 1) (j - 1) (swp d i j)).1 a = D)
    (hd : e.ds = []) (e0 : e.ρ 0 = soV g o n c) (e1 : e.ρ 1 = .int .i64 a) (e10 : e.ρ 10 = .int .i64 i) (e11 : e.ρ 11 = .int .i64 j) :
    cwE Try.prog F85.t10 (fnP Try.prog #[.tmp 8, .tmp 9] fun e w' => St w0 (SoP g o n c D * F) w' ∧ e = .returned (.tuple #[.int .i64 M, .bool false])) e w := by
  rw [F85.t10_eq]
  have h2 := h.drew
  have ci := SoP.get h2 (i := i) (by omega)
  have cj := SoP.get h2 (i := j) hj
  simp -dsimp -implicitDefEqProofs (disch := omega) only [go_sem, reqD_of, dec_t, dec_f, wrap_i64, wrap_u32, wrap_u64, wrap_u8, hd, e0, e1, e10, e11, ci, cj]
  refine SoP.set h2 (i := i) (by omega) fun w2 h3 => ?_
  simp -dsimp -implicitDefEqProofs (disch := omega) only [go_sem, reqD_of, dec_t, dec_f, wrap_i64, wrap_u32, wrap_u64, wrap_u8, hd, e0, e1, e10, e11]
  refine SoP.set h3 (i := j) hj fun w3 h4 => ?_
  have h4' : St w0 (SoP g o n c (swp d i j) * F) w3 := h4
  have hj1 : (j : Int) - 1 = ((j - 1 : Nat) : Int) := by omega
  simp -dsimp -implicitDefEqProofs (disch := omega) only [go_sem, reqD_of, dec_t, dec_f, wrap_i64, wrap_u32, wrap_u64, wrap_u8, hd, e0, e1, e10, e11, hj1]
  generalize hR : partLoop ltInt a (i + 1) (j - 1) (swp d i j) = R at hM hD
  refine loop_intro (fun e w' => e.ds = [] ∧ e.ρ 0 = soV g o n c ∧ e.ρ 1 = .int .i64 a ∧ ∃ (i j : Nat) (d' : Array Int), 1 ≤ i ∧ i ≤ n + 1 ∧ j < n ∧ e.ρ 10 = .int .i64 i ∧ e.ρ 11 = .int .i64 j ∧ partLoop ltInt a i j d' = R ∧ St w0 (SoP g o n c d' * F) w')
    (fun e _ => match e.ρ 10, e.ρ 11 with | .int _ i, .int _ j => (j + 1 - i).toNat | _, _ => 0) ?_ ?_
  · exact ⟨by simp -dsimp -implicitDefEqProofs only [go_sem, hd], by simp -dsimp -implicitDefEqProofs only [go_sem, e0], by simp -dsimp -implicitDefEqProofs only [go_sem, e1], i + 1, j - 1, swp d i j, by omega, by omega, by omega, by simp -dsimp -implicitDefEqProofs only [go_sem]; omega, by simp -dsimp -implicitDefEqProofs only [go_sem], hR, h4'⟩
  clear hd e0 e1 e10 e11 hi hij hj hj1 hR h4' h4 h3 h2 h ci cj
  rintro e w4 ⟨hd, e0, e1, i, j, d1, hi, hin, hj, e10, e11, hp, h5⟩
  simp -dsimp -implicitDefEqProofs (disch := omega) only [go_sem, reqD_of, dec_t, dec_f, wrap_i64, wrap_u32, wrap_u64, wrap_u8, hd, e0, e1, e10, e11]
  refine up85b (i := i) (j := j) h5 ha hj hi hin hn hd e0 e1 e10 e11 ?_
  intro e' w5 f0 f1 f2 f3 f4 h6
  have hup := scanUp_spec (fun x => ltInt x d1[a]!) d1 j _ i rfl
  have htop := scanUp_top (p := fun x => ltInt x d1[a]!) (d := d1) hin hj
  rw [partLoop_eq] at hp
  generalize hI : scanUp (fun x => ltInt x d1[a]!) d1 j i = I at f4 hup hp htop
  simp -dsimp -implicitDefEqProofs (disch := omega) only [go_sem, reqD_of, dec_t, dec_f, wrap_i64, wrap_u32, wrap_u64, wrap_u8, f0, f1, f2, f3, f4]
  refine down85b (i := I) (j := j) h6 ha hj (by omega) (by omega) hn f0 f1 f2 f4 f3 ?_
  intro e'' w6 g0 g1 g2 g3 g4 h7
  have hdn := scanDown_le (fun x => !ltInt x d1[a]!) d1 I j
  generalize hJ : scanDown (fun x => !ltInt x d1[a]!) d1 I j = J at g4 hdn hp
  by_cases hgt : (J : Int) < I
  · have hgt' : I > J := by omega
    rw [if_pos hgt'] at hp
    simp -dsimp -implicitDefEqProofs (disch := omega) only [go_sem, reqD_of, dec_t, dec_f, wrap_i64, wrap_u32, wrap_u64, wrap_u8, g0, g1, g2, g3, g4, hgt]
    subst hp
    exact part21 (j := J) h7 ha (by omega) hn hM hD (by simp -dsimp -implicitDefEqProofs only [go_sem, g0]) (by simp -dsimp -implicitDefEqProofs only [go_sem, g1]) (by simp -dsimp -implicitDefEqProofs only [go_sem, g2]) (by simp -dsimp -implicitDefEqProofs only [go_sem, g4])
  · have hle : ¬ I > J := by omega
    rw [if_neg hle] at hp
    have h8 := h7.drew
    have ci := SoP.get h8 (i := I) (by omega)
    have cj := SoP.get h8 (i := J) (by omega)
    simp -dsimp -implicitDefEqProofs (disch := omega) only [go_sem, reqD_of, dec_t, dec_f, wrap_i64, wrap_u32, wrap_u64, wrap_u8, g0, g1, g2, g3, g4, hgt, ci, cj]
    refine SoP.set h8 (i := I) (by omega) fun w2 h9 => ?_
    simp -dsimp -implicitDefEqProofs (disch := omega) only [go_sem, reqD_of, dec_t, dec_f, wrap_i64, wrap_u32, wrap_u64, wrap_u8, g0, g1, g2, g3, g4]
    refine SoP.set h9 (i := J) (by omega) fun w3 h10 => ?_
    have h10' : St w0 (SoP g o n c (swp d1 I J) * F) w3 := h10
    have hj1 : (J : Int) - 1 = ((J - 1 : Nat) : Int) := by omega
    simp -dsimp -implicitDefEqProofs (disch := omega) only [go_sem, reqD_of, dec_t, dec_f, wrap_i64, wrap_u32, wrap_u64, wrap_u8, g0, g1, g2, g3, g4, e10, e11, hj1]
    exact ⟨⟨I + 1, J - 1, swp d1 I J, by omega, by omega, by omega, by omega, rfl, hp, h10'⟩, by omega⟩

end
section
attribute [local go_sem] F85.t4_eq F85.t6_eq F85.t14_eq F85.t16_eq F85.t18_eq F85.t17_eq F85.t15_eq F85.t21_eq F85.t7_eq F85.t5_eq
theorem partition_any {w0 w : World} {F : HP} {g o n c a b p : Nat} {d : Array Int} (h : St w0 (SoP g o n c d * F) w) (hb : b ≤ n) (hap : a ≤ p) (hpb : p < b) (hn : n < 2305843009213693951) :
    Calls Try.prog 85 #[soV g o n c, .int .i64 a, .int .i64 b, .int .i64 p] w fun e w' => St w0 (SoP g o n c (Sort.partition ltInt d a b p).2.2 * F) w' ∧ e = .returned (.tuple #[.int .i64 (Sort.partition ltInt d a b p).1, .bool (Sort.partition ltInt d a b p).2.1]) := by
  refine F85.calls (by simp) ?_
  unfold F85.code
  have h2 := h.drew
  have ci := SoP.get h2 (i := a) (by omega)
  have cj := SoP.get h2 (i := p) (by omega)
  simp -dsimp -implicitDefEqProofs (disch := omega) only [go_sem, reqD_of, dec_t, dec_f, wrap_i64, wrap_u32, wrap_u64, wrap_u8, ci, cj]
  refine SoP.set h2 (i := a) (by omega) fun w2 h3 => ?_
  simp -dsimp -implicitDefEqProofs (disch := omega) only [go_sem, reqD_of, dec_t, dec_f, wrap_i64, wrap_u32, wrap_u64, wrap_u8]
  refine SoP.set h3 (i := p) (by omega) fun w3 h4 => ?_
  have h4' : St w0 (SoP g o n c (swp d a p) * F) w3 := h4
  have ha1 : (a : Int) + 1 = ((a + 1 : Nat) : Int) := by omega
  have hb1 : (b : Int) - 1 = ((b - 1 : Nat) : Int) := by omega
  simp -dsimp -implicitDefEqProofs (disch := omega) only [go_sem, reqD_of, dec_t, dec_f, wrap_i64, wrap_u32, wrap_u64, wrap_u8, ha1, hb1]
  unfold Sort.partition
  simp only
  generalize swp d a p = d1 at h4'
  refine up85a (a := a) (i := a + 1) (j := b - 1) h4' (by omega) (by omega) (by omega) (by omega) hn (by simp -dsimp -implicitDefEqProofs only [go_sem]) (by simp -dsimp -implicitDefEqProofs only [go_sem]) (by simp -dsimp -implicitDefEqProofs only [go_sem]) (by simp -dsimp -implicitDefEqProofs only [go_sem]) (by simp -dsimp -implicitDefEqProofs only [go_sem]) ?_
  intro e' w5 f0 f1 f2 f3 f4 h6
  have hup := scanUp_spec (fun x => ltInt x d1[a]!) d1 (b - 1) _ (a + 1) rfl
  generalize hI : scanUp (fun x => ltInt x d1[a]!) d1 (b - 1) (a + 1) = I at f4 hup
  simp -dsimp -implicitDefEqProofs (disch := omega) only [go_sem, reqD_of, dec_t, dec_f, wrap_i64, wrap_u32, wrap_u64, wrap_u8, f0, f1, f2, f3, f4]
  refine down85a (a := a) (i := I) (j := b - 1) h6 (by omega) (by omega) (by omega) (by omega) hn f0 f1 f2 f4 f3 ?_
  intro e'' w6 g0 g1 g2 g3 g4 h7
  have hdn := scanDown_le (fun x => !ltInt x d1[a]!) d1 I (b - 1)
  generalize hJ : scanDown (fun x => !ltInt x d1[a]!) d1 I (b - 1) = J at g4 hdn
  by_cases hgt : (J : Int) < I
  · have hgt' : I > J := by omega
    have h8 := h7.drew
    have ci := SoP.get h8 (i := J) (by omega)
    have cj := SoP.get h8 (i := a) (by omega)
    simp -dsimp -implicitDefEqProofs (disch := omega) only [go_sem, reqD_of, dec_t, dec_f, wrap_i64, wrap_u32, wrap_u64, wrap_u8, g0, g1, g2, g3, g4, hgt, ci, cj]
    refine SoP.set h8 (i := J) (by omega) fun w2 h9 => ?_
    simp -dsimp -implicitDefEqProofs (disch := omega) only [go_sem, reqD_of, dec_t, dec_f, wrap_i64, wrap_u32, wrap_u64, wrap_u8, g0, g1, g2, g3, g4]
    refine SoP.set h9 (i := a) (by omega) fun w3 h10 => ?_
    have h10' : St w0 (SoP g o n c (swp d1 J a) * F) w3 := h10
    simp -dsimp -implicitDefEqProofs (disch := omega) only [go_sem, reqD_of, dec_t, dec_f, wrap_i64, wrap_u32, wrap_u64, wrap_u8, g0, g1, g2, g3, g4]
    rw [if_pos hgt']
    exact ⟨h10', rfl⟩
  · have hle : ¬ I > J := by omega
    simp -dsimp -implicitDefEqProofs (disch := omega) only [go_sem, reqD_of, dec_t, dec_f, wrap_i64, wrap_u32, wrap_u64, wrap_u8, g0, g1, g2, g3, g4, hgt]
    rw [if_neg hle]
    exact part10 (a := a) (i := I) (j := J) h7 (by omega) (by omega) (by omega) (by omega) hn rfl rfl (by simp -dsimp -implicitDefEqProofs only [go_sem, g0]) (by simp -dsimp -implicitDefEqProofs only [go_sem, g1]) (by simp -dsimp -implicitDefEqProofs only [go_sem, g2]) (by simp -dsimp -implicitDefEqProofs only [go_sem, g3]) (by simp -dsimp -implicitDefEqProofs only [go_sem, g4])

end
section
attribute [local go_sem] F84.t4_eq F84.t6_eq F84.t8_eq F84.t7_eq F84.t5_eq F84.t11_eq
theorem partEq_any {w0 w : World} {F : HP} {g o n c a b p : Nat} {d : Array Int} (h : St w0 (SoP g o n c d * F) w) (hb : b ≤ n) (hap : a ≤ p) (hpb : p < b) (hn : n < 2305843009213693951) :
    Calls Try.prog 84 #[soV g o n c, .int .i64 a, .int .i64 b, .int .i64 p] w fun e w' => St w0 (SoP g o n c (partitionEqual ltInt d a b p).2 * F) w' ∧ e = .returned (.int .i64 (partitionEqual ltInt d a b p).1) := by
  refine F84.calls (by simp) ?_
  unfold F84.code
  have h2 := h.drew
  have ci := SoP.get h2 (i := a) (by omega)
  have cj := SoP.get h2 (i := p) (by omega)
  simp -dsimp -implicitDefEqProofs (disch := omega) only [go_sem, reqD_of, dec_t, dec_f, wrap_i64, wrap_u32, wrap_u64, wrap_u8, ci, cj]
  refine SoP.set h2 (i := a) (by omega) fun w2 h3 => ?_
  simp -dsimp -implicitDefEqProofs (disch := omega) only [go_sem, reqD_of, dec_t, dec_f, wrap_i64, wrap_u32, wrap_u64, wrap_u8]
  refine SoP.set h3 (i := p) (by omega) fun w3 h4 => ?_
  have h4' : St w0 (SoP g o n c (swp d a p) * F) w3 := h4
  have ha1 : (a : Int) + 1 = ((a + 1 : Nat) : Int) := by omega
  have hb1 : (b : Int) - 1 = ((b - 1 : Nat) : Int) := by omega
  simp -dsimp -implicitDefEqProofs (disch := omega) only [go_sem, reqD_of, dec_t, dec_f, wrap_i64, wrap_u32, wrap_u64, wrap_u8, ha1, hb1]
  unfold partitionEqual
  generalize hR : partEqLoop ltInt a (a + 1) (b - 1) (swp d a p) = R
  refine loop_intro (fun e w' => e.ds = [] ∧ e.ρ 0 = soV g o n c ∧ e.ρ 1 = .int .i64 a ∧ ∃ (i j : Nat) (d' : Array Int), 1 ≤ i ∧ i ≤ n + 1 ∧ j < n ∧ e.ρ 9 = .int .i64 i ∧ e.ρ 10 = .int .i64 j ∧ partEqLoop ltInt a i j d' = R ∧ St w0 (SoP g o n c d' * F) w')
    (fun e _ => match e.ρ 9, e.ρ 10 with | .int _ i, .int _ j => (j + 1 - i).toNat | _, _ => 0) ?_ ?_
  · exact ⟨rfl, by simp -dsimp -implicitDefEqProofs only [go_sem], by simp -dsimp -implicitDefEqProofs only [go_sem], a + 1, b - 1, swp d a p, by omega, by omega, by omega, by simp -dsimp -implicitDefEqProofs only [go_sem], by simp -dsimp -implicitDefEqProofs only [go_sem], hR, h4'⟩
  rintro e w4 ⟨hd, e0, e1, i, j, d1, hi, hin, hj, e9, e10, hp, h5⟩
  have ha : a < n := by omega
  simp -dsimp -implicitDefEqProofs (disch := omega) only [go_sem, reqD_of, dec_t, dec_f, wrap_i64, wrap_u32, wrap_u64, wrap_u8, hd, e0, e1, e9, e10]
  refine up84 (i := i) (j := j) h5 ha hj hi hin hn hd e0 e1 e9 e10 ?_
  intro e' w5 f0 f1 f2 f3 f4 h6
  have hup := scanUp_spec (fun x => !ltInt d1[a]! x) d1 j _ i rfl
  have htop := scanUp_top (p := fun x => !ltInt d1[a]! x) (d := d1) hin hj
  rw [partEqLoop_eq] at hp
  generalize hI : scanUp (fun x => !ltInt d1[a]! x) d1 j i = I at f4 hup hp htop
  simp -dsimp -implicitDefEqProofs (disch := omega) only [go_sem, reqD_of, dec_t, dec_f, wrap_i64, wrap_u32, wrap_u64, wrap_u8, f0, f1, f2, f3, f4]
  refine down84 (i := I) (j := j) h6 ha hj (by omega) (by omega) hn f0 f1 f2 f4 f3 ?_
  intro e'' w6 g0 g1 g2 g3 g4 h7
  have hdn := scanDown_le (fun x => ltInt d1[a]! x) d1 I j
  generalize hJ : scanDown (fun x => ltInt d1[a]! x) d1 I j = J at g4 hdn hp
  by_cases hgt : (J : Int) < I
  · have hgt' : I > J := by omega
    rw [if_pos hgt'] at hp
    simp -dsimp -implicitDefEqProofs (disch := omega) only [go_sem, reqD_of, dec_t, dec_f, wrap_i64, wrap_u32, wrap_u64, wrap_u8, g0, g1, g2, g3, g4, hgt]
    subst hp
    exact ⟨h7, rfl⟩
  · have hle : ¬ I > J := by omega
    rw [if_neg hle] at hp
    have h8 := h7.drew
    have ci := SoP.get h8 (i := I) (by omega)
    have cj := SoP.get h8 (i := J) (by omega)
    simp -dsimp -implicitDefEqProofs (disch := omega) only [go_sem, reqD_of, dec_t, dec_f, wrap_i64, wrap_u32, wrap_u64, wrap_u8, g0, g1, g2, g3, g4, hgt, ci, cj]
    refine SoP.set h8 (i := I) (by omega) fun w2 h9 => ?_
    simp -dsimp -implicitDefEqProofs (disch := omega) only [go_sem, reqD_of, dec_t, dec_f, wrap_i64, wrap_u32, wrap_u64, wrap_u8, g0, g1, g2, g3, g4]
    refine SoP.set h9 (i := J) (by omega) fun w3 h10 => ?_
    have h10' : St w0 (SoP g o n c (swp d1 I J) * F) w3 := h10
    have hj1 : (J : Int) - 1 = ((J - 1 : Nat) : Int) := by omega
    simp -dsimp -implicitDefEqProofs (disch := omega) only [go_sem, reqD_of, dec_t, dec_f, wrap_i64, wrap_u32, wrap_u64, wrap_u8, g0, g1, g2, g3, g4, e9, e10, hj1]
    exact ⟨⟨I + 1, J - 1, swp d1 I J, by omega, by omega, by omega, by omega, rfl, hp, h10'⟩, by omega⟩

end
end Go.Proofs.Ytljndiligbaljaa
