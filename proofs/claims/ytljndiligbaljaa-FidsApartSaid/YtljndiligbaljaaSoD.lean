/- slices.Sort at uint32: the two partitions. -/
import Derived.Test.YtljndiligbaljaaSoC
import Derived.Sort.LotC
namespace Go.Proofs.Ytljndiligbaljaa
open Go Go.Sort
set_option linter.unusedSimpArgs false
set_option linter.unusedVariables false
set_option maxRecDepth 100000

theorem scanUp_go {p : Int → Bool} {d : Array Int} {i j : Nat} (h : i ≤ j) (hp : p d[i]! = true) : scanUp p d j i = scanUp p d j (i + 1) := by rw [scanUp, if_pos (by simp [h, hp])]
theorem scanUp_no {p : Int → Bool} {d : Array Int} {i j : Nat} (h : i ≤ j → p d[i]! = false) : scanUp p d j i = i := by
  rw [scanUp, if_neg (by simp only [Bool.and_eq_true, decide_eq_true_eq, not_and, Bool.not_eq_true]; exact h)]
theorem scanDown_go {p : Int → Bool} {d : Array Int} {i j : Nat} (h : i ≤ j + 1) (hp : p d[j + 1]! = true) : scanDown p d i (j + 1) = scanDown p d i j := by rw [scanDown, if_pos (by simp [h, hp])]
theorem scanDown_no {p : Int → Bool} {d : Array Int} {i j : Nat} (h : i ≤ j → p d[j]! = false) : scanDown p d i j = j := by
  cases j with
  | zero => rfl
  | succ j => rw [scanDown, if_neg (by simp only [Bool.and_eq_true, decide_eq_true_eq, not_and, Bool.not_eq_true]; exact h)]

section
attribute [local go_sem] F85.t4_eq F85.t6_eq F85.t14_eq F85.t16_eq F85.t18_eq F85.t17_eq F85.t15_eq F85.t21_eq F85.t10_eq F85.t7_eq F85.t5_eq
theorem up85a {w0 w : World} {F : HP} {g o n c a i j : Nat} {d : Array Int} {Q : Post} {e : FA} {θ : Tag ((.loop (.seq (.seq (.region 3 F85.r3.toArray true) (.cond (.tmp 43) .skip (.exit 0))) F85.t4) : Cd), Q, e, w)} (h : St w0 (SoP g o n c d * F) w) (ha : a < n) (hj : j < n) (hi : 1 ≤ i) (hin : i ≤ n + 1) (hn : n < 2305843009213693951)
    (hd : e.ds = []) (e0 : e.ρ 0 = soV g o n c) (e1 : e.ρ 1 = .int .i64 a) (eI : e.ρ 10 = .int .i64 i) (eJ : e.ρ 11 = .int .i64 j)
    (hQ : ∀ (e' : FA) (w' : World), e'.ds = [] → e'.ρ 0 = soV g o n c → e'.ρ 1 = .int .i64 a → e'.ρ 11 = .int .i64 j → e'.ρ 10 = .int .i64 (scanUp (fun x => ltInt x d[a]!) d j i : Nat) → St w0 (SoP g o n c d * F) w' → Q (.exit 0) e' w') :
    cwE Try.prog (.loop (.seq (.seq (.region 3 F85.r3.toArray true) (.cond (.tmp 43) .skip (.exit 0))) F85.t4)) Q e w θ := by
  refine loop_intro (fun e w' => e.ds = [] ∧ e.ρ 0 = soV g o n c ∧ e.ρ 1 = .int .i64 a ∧ e.ρ 11 = .int .i64 j ∧ ∃ k : Nat, k ≤ n + 1 ∧ e.ρ 10 = .int .i64 k ∧ scanUp (fun x => ltInt x d[a]!) d j k = scanUp (fun x => ltInt x d[a]!) d j i ∧ St w0 (SoP g o n c d * F) w')
    (fun e _ => match e.ρ 10 with | .int _ k => (j + 1 - k).toNat | _ => 0) ?_ ?_
  · exact ⟨by simp -dsimp -implicitDefEqProofs only [go_sem, hd], by simp -dsimp -implicitDefEqProofs only [go_sem, e0], by simp -dsimp -implicitDefEqProofs only [go_sem, e1], by simp -dsimp -implicitDefEqProofs only [go_sem, eJ], i, hin, by simp -dsimp -implicitDefEqProofs only [go_sem, eI], rfl, h⟩
  clear h hd e0 e1 eI eJ
  rintro e w1 ⟨hd, e0, e1, eJ, k, hk, eI, hs, h1⟩
  by_cases hlt : (k : Int) ≤ j
  case neg =>
    simp -dsimp -implicitDefEqProofs (disch := omega) only [go_sem, reqD_of, dec_t, dec_f, wrap_i64, wrap_u32, wrap_u64, wrap_u8, hd, e0, e1, eI, eJ, hlt]
    rw [scanUp_no (fun hx => by omega)] at hs
    rw [hs] at eI
    exact hQ _ _ (by simp -dsimp -implicitDefEqProofs only [go_sem, hd]) (by simp -dsimp -implicitDefEqProofs only [go_sem, e0]) (by simp -dsimp -implicitDefEqProofs only [go_sem, e1]) (by simp -dsimp -implicitDefEqProofs only [go_sem, eJ]) (by simp -dsimp -implicitDefEqProofs only [go_sem, eI]) h1.drew
  have h2 := h1.drew
  have ck := SoP.get h2 (i := k) (by omega)
  have ca := SoP.get h2 (i := a) ha
  simp -dsimp -implicitDefEqProofs (disch := omega) only [go_sem, reqD_of, dec_t, dec_f, wrap_i64, wrap_u32, wrap_u64, wrap_u8, hd, e0, e1, eI, eJ, hlt, ck, ca]
  refine (lessW_any h2).mono ?_
  rintro e' w3 ⟨h3, rfl⟩
  cases hl : ltInt d[k]! d[a]!
  · simp -dsimp -implicitDefEqProofs (disch := omega) only [go_sem, reqD_of, dec_t, dec_f, wrap_i64, wrap_u32, wrap_u64, wrap_u8, hd, e0, e1, eI, eJ]
    rw [scanUp_no (fun _ => by simp only [hl, Bool.not_false, Bool.not_true])] at hs
    rw [hs] at eI
    exact hQ _ _ (by simp -dsimp -implicitDefEqProofs only [go_sem, hd]) (by simp -dsimp -implicitDefEqProofs only [go_sem, e0]) (by simp -dsimp -implicitDefEqProofs only [go_sem, e1]) (by simp -dsimp -implicitDefEqProofs only [go_sem, eJ]) (by simp -dsimp -implicitDefEqProofs only [go_sem, eI]) h3
  · simp -dsimp -implicitDefEqProofs (disch := omega) only [go_sem, reqD_of, dec_t, dec_f, wrap_i64, wrap_u32, wrap_u64, wrap_u8, hd, e0, e1, eI, eJ]
    rw [scanUp_go (by omega) (by simp only [hl, Bool.not_false, Bool.not_true])] at hs
    exact ⟨⟨k + 1, by omega, by omega, hs, h3⟩, by omega⟩

end
section
attribute [local go_sem] F85.t4_eq F85.t6_eq F85.t14_eq F85.t16_eq F85.t18_eq F85.t17_eq F85.t15_eq F85.t21_eq F85.t10_eq F85.t7_eq F85.t5_eq
theorem down85a {w0 w : World} {F : HP} {g o n c a i j : Nat} {d : Array Int} {Q : Post} {e : FA} {θ : Tag ((.loop (.seq (.seq (.region 5 F85.r5.toArray true) (.cond (.tmp 60) .skip (.exit 2))) F85.t6) : Cd), Q, e, w)} (h : St w0 (SoP g o n c d * F) w) (ha : a < n) (hj : j < n) (hi : 1 ≤ i) (hin : i ≤ n + 1) (hn : n < 2305843009213693951)
    (hd : e.ds = []) (e0 : e.ρ 0 = soV g o n c) (e1 : e.ρ 1 = .int .i64 a) (eI : e.ρ 10 = .int .i64 i) (eJ : e.ρ 11 = .int .i64 j)
    (hQ : ∀ (e' : FA) (w' : World), e'.ds = [] → e'.ρ 0 = soV g o n c → e'.ρ 1 = .int .i64 a → e'.ρ 10 = .int .i64 i → e'.ρ 11 = .int .i64 (scanDown (fun x => !ltInt x d[a]!) d i j : Nat) → St w0 (SoP g o n c d * F) w' → Q (.exit 2) e' w') :
    cwE Try.prog (.loop (.seq (.seq (.region 5 F85.r5.toArray true) (.cond (.tmp 60) .skip (.exit 2))) F85.t6)) Q e w θ := by
  refine loop_intro (fun e w' => e.ds = [] ∧ e.ρ 0 = soV g o n c ∧ e.ρ 1 = .int .i64 a ∧ e.ρ 10 = .int .i64 i ∧ ∃ k : Nat, k ≤ j ∧ e.ρ 11 = .int .i64 k ∧ scanDown (fun x => !ltInt x d[a]!) d i k = scanDown (fun x => !ltInt x d[a]!) d i j ∧ St w0 (SoP g o n c d * F) w')
    (fun e _ => match e.ρ 11 with | .int _ k => k.toNat | _ => 0) ?_ ?_
  · exact ⟨by simp -dsimp -implicitDefEqProofs only [go_sem, hd], by simp -dsimp -implicitDefEqProofs only [go_sem, e0], by simp -dsimp -implicitDefEqProofs only [go_sem, e1], by simp -dsimp -implicitDefEqProofs only [go_sem, eI], j, Nat.le_refl _, by simp -dsimp -implicitDefEqProofs only [go_sem, eJ], rfl, h⟩
  clear h hd e0 e1 eI eJ
  rintro e w1 ⟨hd, e0, e1, eI, k, hk, eJ, hs, h1⟩
  by_cases hlt : (i : Int) ≤ k
  case neg =>
    simp -dsimp -implicitDefEqProofs (disch := omega) only [go_sem, reqD_of, dec_t, dec_f, wrap_i64, wrap_u32, wrap_u64, wrap_u8, hd, e0, e1, eI, eJ, hlt]
    rw [scanDown_no (fun hx => by omega)] at hs
    rw [hs] at eJ
    exact hQ _ _ (by simp -dsimp -implicitDefEqProofs only [go_sem, hd]) (by simp -dsimp -implicitDefEqProofs only [go_sem, e0]) (by simp -dsimp -implicitDefEqProofs only [go_sem, e1]) (by simp -dsimp -implicitDefEqProofs only [go_sem, eI]) (by simp -dsimp -implicitDefEqProofs only [go_sem, eJ]) h1.drew
  have h2 := h1.drew
  have ck := SoP.get h2 (i := k) (by omega)
  have ca := SoP.get h2 (i := a) ha
  simp -dsimp -implicitDefEqProofs (disch := omega) only [go_sem, reqD_of, dec_t, dec_f, wrap_i64, wrap_u32, wrap_u64, wrap_u8, hd, e0, e1, eI, eJ, hlt, ck, ca]
  refine (lessW_any h2).mono ?_
  rintro e' w3 ⟨h3, rfl⟩
  cases hl : ltInt d[k]! d[a]!
  · simp -dsimp -implicitDefEqProofs (disch := omega) only [go_sem, reqD_of, dec_t, dec_f, wrap_i64, wrap_u32, wrap_u64, wrap_u8, hd, e0, e1, eI, eJ]
    obtain ⟨m, rfl⟩ : ∃ m, k = m + 1 := ⟨k - 1, by omega⟩
    rw [scanDown_go (by omega) (by simp only [hl, Bool.not_false, Bool.not_true])] at hs
    exact ⟨⟨m, by omega, by omega, hs, h3⟩, by omega⟩
  · simp -dsimp -implicitDefEqProofs (disch := omega) only [go_sem, reqD_of, dec_t, dec_f, wrap_i64, wrap_u32, wrap_u64, wrap_u8, hd, e0, e1, eI, eJ]
    rw [scanDown_no (fun _ => by simp only [hl, Bool.not_false, Bool.not_true])] at hs
    rw [hs] at eJ
    exact hQ _ _ (by simp -dsimp -implicitDefEqProofs only [go_sem, hd]) (by simp -dsimp -implicitDefEqProofs only [go_sem, e0]) (by simp -dsimp -implicitDefEqProofs only [go_sem, e1]) (by simp -dsimp -implicitDefEqProofs only [go_sem, eI]) (by simp -dsimp -implicitDefEqProofs only [go_sem, eJ]) h3

end
section
attribute [local go_sem] F85.t4_eq F85.t6_eq F85.t14_eq F85.t16_eq F85.t18_eq F85.t17_eq F85.t15_eq F85.t21_eq F85.t10_eq F85.t7_eq F85.t5_eq
theorem up85b {w0 w : World} {F : HP} {g o n c a i j : Nat} {d : Array Int} {Q : Post} {e : FA} {θ : Tag ((.loop (.seq (.seq (.region 13 F85.r13.toArray true) (.cond (.tmp 112) .skip (.exit 6))) F85.t14) : Cd), Q, e, w)} (h : St w0 (SoP g o n c d * F) w) (ha : a < n) (hj : j < n) (hi : 1 ≤ i) (hin : i ≤ n + 1) (hn : n < 2305843009213693951)
    (hd : e.ds = []) (e0 : e.ρ 0 = soV g o n c) (e1 : e.ρ 1 = .int .i64 a) (eI : e.ρ 10 = .int .i64 i) (eJ : e.ρ 11 = .int .i64 j)
    (hQ : ∀ (e' : FA) (w' : World), e'.ds = [] → e'.ρ 0 = soV g o n c → e'.ρ 1 = .int .i64 a → e'.ρ 11 = .int .i64 j → e'.ρ 10 = .int .i64 (scanUp (fun x => ltInt x d[a]!) d j i : Nat) → St w0 (SoP g o n c d * F) w' → Q (.exit 6) e' w') :
    cwE Try.prog (.loop (.seq (.seq (.region 13 F85.r13.toArray true) (.cond (.tmp 112) .skip (.exit 6))) F85.t14)) Q e w θ := by
  refine loop_intro (fun e w' => e.ds = [] ∧ e.ρ 0 = soV g o n c ∧ e.ρ 1 = .int .i64 a ∧ e.ρ 11 = .int .i64 j ∧ ∃ k : Nat, k ≤ n + 1 ∧ e.ρ 10 = .int .i64 k ∧ scanUp (fun x => ltInt x d[a]!) d j k = scanUp (fun x => ltInt x d[a]!) d j i ∧ St w0 (SoP g o n c d * F) w')
    (fun e _ => match e.ρ 10 with | .int _ k => (j + 1 - k).toNat | _ => 0) ?_ ?_
  · exact ⟨by simp -dsimp -implicitDefEqProofs only [go_sem, hd], by simp -dsimp -implicitDefEqProofs only [go_sem, e0], by simp -dsimp -implicitDefEqProofs only [go_sem, e1], by simp -dsimp -implicitDefEqProofs only [go_sem, eJ], i, hin, by simp -dsimp -implicitDefEqProofs only [go_sem, eI], rfl, h⟩
  clear h hd e0 e1 eI eJ
  rintro e w1 ⟨hd, e0, e1, eJ, k, hk, eI, hs, h1⟩
  by_cases hlt : (k : Int) ≤ j
  case neg =>
    simp -dsimp -implicitDefEqProofs (disch := omega) only [go_sem, reqD_of, dec_t, dec_f, wrap_i64, wrap_u32, wrap_u64, wrap_u8, hd, e0, e1, eI, eJ, hlt]
    rw [scanUp_no (fun hx => by omega)] at hs
    rw [hs] at eI
    exact hQ _ _ (by simp -dsimp -implicitDefEqProofs only [go_sem, hd]) (by simp -dsimp -implicitDefEqProofs only [go_sem, e0]) (by simp -dsimp -implicitDefEqProofs only [go_sem, e1]) (by simp -dsimp -implicitDefEqProofs only [go_sem, eJ]) (by simp -dsimp -implicitDefEqProofs only [go_sem, eI]) h1.drew
  have h2 := h1.drew
  have ck := SoP.get h2 (i := k) (by omega)
  have ca := SoP.get h2 (i := a) ha
  simp -dsimp -implicitDefEqProofs (disch := omega) only [go_sem, reqD_of, dec_t, dec_f, wrap_i64, wrap_u32, wrap_u64, wrap_u8, hd, e0, e1, eI, eJ, hlt, ck, ca]
  refine (lessW_any h2).mono ?_
  rintro e' w3 ⟨h3, rfl⟩
  cases hl : ltInt d[k]! d[a]!
  · simp -dsimp -implicitDefEqProofs (disch := omega) only [go_sem, reqD_of, dec_t, dec_f, wrap_i64, wrap_u32, wrap_u64, wrap_u8, hd, e0, e1, eI, eJ]
    rw [scanUp_no (fun _ => by simp only [hl, Bool.not_false, Bool.not_true])] at hs
    rw [hs] at eI
    exact hQ _ _ (by simp -dsimp -implicitDefEqProofs only [go_sem, hd]) (by simp -dsimp -implicitDefEqProofs only [go_sem, e0]) (by simp -dsimp -implicitDefEqProofs only [go_sem, e1]) (by simp -dsimp -implicitDefEqProofs only [go_sem, eJ]) (by simp -dsimp -implicitDefEqProofs only [go_sem, eI]) h3
  · simp -dsimp -implicitDefEqProofs (disch := omega) only [go_sem, reqD_of, dec_t, dec_f, wrap_i64, wrap_u32, wrap_u64, wrap_u8, hd, e0, e1, eI, eJ]
    rw [scanUp_go (by omega) (by simp only [hl, Bool.not_false, Bool.not_true])] at hs
    exact ⟨⟨k + 1, by omega, by omega, hs, h3⟩, by omega⟩

end
section
attribute [local go_sem] F85.t4_eq F85.t6_eq F85.t14_eq F85.t16_eq F85.t18_eq F85.t17_eq F85.t15_eq F85.t21_eq F85.t10_eq F85.t7_eq F85.t5_eq
theorem down85b {w0 w : World} {F : HP} {g o n c a i j : Nat} {d : Array Int} {Q : Post} {e : FA} {θ : Tag ((.loop (.seq (.seq (.region 15 F85.r15.toArray true) (.cond (.tmp 129) .skip (.exit 8))) F85.t16) : Cd), Q, e, w)} (h : St w0 (SoP g o n c d * F) w) (ha : a < n) (hj : j < n) (hi : 1 ≤ i) (hin : i ≤ n + 1) (hn : n < 2305843009213693951)
    (hd : e.ds = []) (e0 : e.ρ 0 = soV g o n c) (e1 : e.ρ 1 = .int .i64 a) (eI : e.ρ 10 = .int .i64 i) (eJ : e.ρ 11 = .int .i64 j)
    (hQ : ∀ (e' : FA) (w' : World), e'.ds = [] → e'.ρ 0 = soV g o n c → e'.ρ 1 = .int .i64 a → e'.ρ 10 = .int .i64 i → e'.ρ 11 = .int .i64 (scanDown (fun x => !ltInt x d[a]!) d i j : Nat) → St w0 (SoP g o n c d * F) w' → Q (.exit 8) e' w') :
    cwE Try.prog (.loop (.seq (.seq (.region 15 F85.r15.toArray true) (.cond (.tmp 129) .skip (.exit 8))) F85.t16)) Q e w θ := by
  refine loop_intro (fun e w' => e.ds = [] ∧ e.ρ 0 = soV g o n c ∧ e.ρ 1 = .int .i64 a ∧ e.ρ 10 = .int .i64 i ∧ ∃ k : Nat, k ≤ j ∧ e.ρ 11 = .int .i64 k ∧ scanDown (fun x => !ltInt x d[a]!) d i k = scanDown (fun x => !ltInt x d[a]!) d i j ∧ St w0 (SoP g o n c d * F) w')
    (fun e _ => match e.ρ 11 with | .int _ k => k.toNat | _ => 0) ?_ ?_
  · exact ⟨by simp -dsimp -implicitDefEqProofs only [go_sem, hd], by simp -dsimp -implicitDefEqProofs only [go_sem, e0], by simp -dsimp -implicitDefEqProofs only [go_sem, e1], by simp -dsimp -implicitDefEqProofs only [go_sem, eI], j, Nat.le_refl _, by simp -dsimp -implicitDefEqProofs only [go_sem, eJ], rfl, h⟩
  clear h hd e0 e1 eI eJ
  rintro e w1 ⟨hd, e0, e1, eI, k, hk, eJ, hs, h1⟩
  by_cases hlt : (i : Int) ≤ k
  case neg =>
    simp -dsimp -implicitDefEqProofs (disch := omega) only [go_sem, reqD_of, dec_t, dec_f, wrap_i64, wrap_u32, wrap_u64, wrap_u8, hd, e0, e1, eI, eJ, hlt]
    rw [scanDown_no (fun hx => by omega)] at hs
    rw [hs] at eJ
    exact hQ _ _ (by simp -dsimp -implicitDefEqProofs only [go_sem, hd]) (by simp -dsimp -implicitDefEqProofs only [go_sem, e0]) (by simp -dsimp -implicitDefEqProofs only [go_sem, e1]) (by simp -dsimp -implicitDefEqProofs only [go_sem, eI]) (by simp -dsimp -implicitDefEqProofs only [go_sem, eJ]) h1.drew
  have h2 := h1.drew
  have ck := SoP.get h2 (i := k) (by omega)
  have ca := SoP.get h2 (i := a) ha
  simp -dsimp -implicitDefEqProofs (disch := omega) only [go_sem, reqD_of, dec_t, dec_f, wrap_i64, wrap_u32, wrap_u64, wrap_u8, hd, e0, e1, eI, eJ, hlt, ck, ca]
  refine (lessW_any h2).mono ?_
  rintro e' w3 ⟨h3, rfl⟩
  cases hl : ltInt d[k]! d[a]!
  · simp -dsimp -implicitDefEqProofs (disch := omega) only [go_sem, reqD_of, dec_t, dec_f, wrap_i64, wrap_u32, wrap_u64, wrap_u8, hd, e0, e1, eI, eJ]
    obtain ⟨m, rfl⟩ : ∃ m, k = m + 1 := ⟨k - 1, by omega⟩
    rw [scanDown_go (by omega) (by simp only [hl, Bool.not_false, Bool.not_true])] at hs
    exact ⟨⟨m, by omega, by omega, hs, h3⟩, by omega⟩
  · simp -dsimp -implicitDefEqProofs (disch := omega) only [go_sem, reqD_of, dec_t, dec_f, wrap_i64, wrap_u32, wrap_u64, wrap_u8, hd, e0, e1, eI, eJ]
    rw [scanDown_no (fun _ => by simp only [hl, Bool.not_false, Bool.not_true])] at hs
    rw [hs] at eJ
    exact hQ _ _ (by simp -dsimp -implicitDefEqProofs only [go_sem, hd]) (by simp -dsimp -implicitDefEqProofs only [go_sem, e0]) (by simp -dsimp -implicitDefEqProofs only [go_sem, e1]) (by simp -dsimp -implicitDefEqProofs only [go_sem, eI]) (by simp -dsimp -implicitDefEqProofs only [go_sem, eJ]) h3

end
section
attribute [local go_sem] F84.t4_eq F84.t6_eq F84.t8_eq F84.t7_eq F84.t5_eq F84.t11_eq
theorem up84 {w0 w : World} {F : HP} {g o n c a i j : Nat} {d : Array Int} {Q : Post} {e : FA} {θ : Tag ((.loop (.seq (.seq (.region 3 F84.r3.toArray true) (.cond (.tmp 43) .skip (.exit 2))) F84.t4) : Cd), Q, e, w)} (h : St w0 (SoP g o n c d * F) w) (ha : a < n) (hj : j < n) (hi : 1 ≤ i) (hin : i ≤ n + 1) (hn : n < 2305843009213693951)
    (hd : e.ds = []) (e0 : e.ρ 0 = soV g o n c) (e1 : e.ρ 1 = .int .i64 a) (eI : e.ρ 9 = .int .i64 i) (eJ : e.ρ 10 = .int .i64 j)
    (hQ : ∀ (e' : FA) (w' : World), e'.ds = [] → e'.ρ 0 = soV g o n c → e'.ρ 1 = .int .i64 a → e'.ρ 10 = .int .i64 j → e'.ρ 9 = .int .i64 (scanUp (fun x => !ltInt d[a]! x) d j i : Nat) → St w0 (SoP g o n c d * F) w' → Q (.exit 2) e' w') :
    cwE Try.prog (.loop (.seq (.seq (.region 3 F84.r3.toArray true) (.cond (.tmp 43) .skip (.exit 2))) F84.t4)) Q e w θ := by
  refine loop_intro (fun e w' => e.ds = [] ∧ e.ρ 0 = soV g o n c ∧ e.ρ 1 = .int .i64 a ∧ e.ρ 10 = .int .i64 j ∧ ∃ k : Nat, k ≤ n + 1 ∧ e.ρ 9 = .int .i64 k ∧ scanUp (fun x => !ltInt d[a]! x) d j k = scanUp (fun x => !ltInt d[a]! x) d j i ∧ St w0 (SoP g o n c d * F) w')
    (fun e _ => match e.ρ 9 with | .int _ k => (j + 1 - k).toNat | _ => 0) ?_ ?_
  · exact ⟨by simp -dsimp -implicitDefEqProofs only [go_sem, hd], by simp -dsimp -implicitDefEqProofs only [go_sem, e0], by simp -dsimp -implicitDefEqProofs only [go_sem, e1], by simp -dsimp -implicitDefEqProofs only [go_sem, eJ], i, hin, by simp -dsimp -implicitDefEqProofs only [go_sem, eI], rfl, h⟩
  clear h hd e0 e1 eI eJ
  rintro e w1 ⟨hd, e0, e1, eJ, k, hk, eI, hs, h1⟩
  by_cases hlt : (k : Int) ≤ j
  case neg =>
    simp -dsimp -implicitDefEqProofs (disch := omega) only [go_sem, reqD_of, dec_t, dec_f, wrap_i64, wrap_u32, wrap_u64, wrap_u8, hd, e0, e1, eI, eJ, hlt]
    rw [scanUp_no (fun hx => by omega)] at hs
    rw [hs] at eI
    exact hQ _ _ (by simp -dsimp -implicitDefEqProofs only [go_sem, hd]) (by simp -dsimp -implicitDefEqProofs only [go_sem, e0]) (by simp -dsimp -implicitDefEqProofs only [go_sem, e1]) (by simp -dsimp -implicitDefEqProofs only [go_sem, eJ]) (by simp -dsimp -implicitDefEqProofs only [go_sem, eI]) h1.drew
  have h2 := h1.drew
  have ck := SoP.get h2 (i := k) (by omega)
  have ca := SoP.get h2 (i := a) ha
  simp -dsimp -implicitDefEqProofs (disch := omega) only [go_sem, reqD_of, dec_t, dec_f, wrap_i64, wrap_u32, wrap_u64, wrap_u8, hd, e0, e1, eI, eJ, hlt, ck, ca]
  refine (lessW_any h2).mono ?_
  rintro e' w3 ⟨h3, rfl⟩
  cases hl : ltInt d[a]! d[k]!
  · simp -dsimp -implicitDefEqProofs (disch := omega) only [go_sem, reqD_of, dec_t, dec_f, wrap_i64, wrap_u32, wrap_u64, wrap_u8, hd, e0, e1, eI, eJ]
    rw [scanUp_go (by omega) (by simp only [hl, Bool.not_false, Bool.not_true])] at hs
    exact ⟨⟨k + 1, by omega, by omega, hs, h3⟩, by omega⟩
  · simp -dsimp -implicitDefEqProofs (disch := omega) only [go_sem, reqD_of, dec_t, dec_f, wrap_i64, wrap_u32, wrap_u64, wrap_u8, hd, e0, e1, eI, eJ]
    rw [scanUp_no (fun _ => by simp only [hl, Bool.not_false, Bool.not_true])] at hs
    rw [hs] at eI
    exact hQ _ _ (by simp -dsimp -implicitDefEqProofs only [go_sem, hd]) (by simp -dsimp -implicitDefEqProofs only [go_sem, e0]) (by simp -dsimp -implicitDefEqProofs only [go_sem, e1]) (by simp -dsimp -implicitDefEqProofs only [go_sem, eJ]) (by simp -dsimp -implicitDefEqProofs only [go_sem, eI]) h3

end
section
attribute [local go_sem] F84.t4_eq F84.t6_eq F84.t8_eq F84.t7_eq F84.t5_eq F84.t11_eq
theorem down84 {w0 w : World} {F : HP} {g o n c a i j : Nat} {d : Array Int} {Q : Post} {e : FA} {θ : Tag ((.loop (.seq (.seq (.region 5 F84.r5.toArray true) (.cond (.tmp 59) .skip (.exit 4))) F84.t6) : Cd), Q, e, w)} (h : St w0 (SoP g o n c d * F) w) (ha : a < n) (hj : j < n) (hi : 1 ≤ i) (hin : i ≤ n + 1) (hn : n < 2305843009213693951)
    (hd : e.ds = []) (e0 : e.ρ 0 = soV g o n c) (e1 : e.ρ 1 = .int .i64 a) (eI : e.ρ 9 = .int .i64 i) (eJ : e.ρ 10 = .int .i64 j)
    (hQ : ∀ (e' : FA) (w' : World), e'.ds = [] → e'.ρ 0 = soV g o n c → e'.ρ 1 = .int .i64 a → e'.ρ 9 = .int .i64 i → e'.ρ 10 = .int .i64 (scanDown (fun x => ltInt d[a]! x) d i j : Nat) → St w0 (SoP g o n c d * F) w' → Q (.exit 4) e' w') :
    cwE Try.prog (.loop (.seq (.seq (.region 5 F84.r5.toArray true) (.cond (.tmp 59) .skip (.exit 4))) F84.t6)) Q e w θ := by
  refine loop_intro (fun e w' => e.ds = [] ∧ e.ρ 0 = soV g o n c ∧ e.ρ 1 = .int .i64 a ∧ e.ρ 9 = .int .i64 i ∧ ∃ k : Nat, k ≤ j ∧ e.ρ 10 = .int .i64 k ∧ scanDown (fun x => ltInt d[a]! x) d i k = scanDown (fun x => ltInt d[a]! x) d i j ∧ St w0 (SoP g o n c d * F) w')
    (fun e _ => match e.ρ 10 with | .int _ k => k.toNat | _ => 0) ?_ ?_
  · exact ⟨by simp -dsimp -implicitDefEqProofs only [go_sem, hd], by simp -dsimp -implicitDefEqProofs only [go_sem, e0], by simp -dsimp -implicitDefEqProofs only [go_sem, e1], by simp -dsimp -implicitDefEqProofs only [go_sem, eI], j, Nat.le_refl _, by simp -dsimp -implicitDefEqProofs only [go_sem, eJ], rfl, h⟩
  clear h hd e0 e1 eI eJ
  rintro e w1 ⟨hd, e0, e1, eI, k, hk, eJ, hs, h1⟩
  by_cases hlt : (i : Int) ≤ k
  case neg =>
    simp -dsimp -implicitDefEqProofs (disch := omega) only [go_sem, reqD_of, dec_t, dec_f, wrap_i64, wrap_u32, wrap_u64, wrap_u8, hd, e0, e1, eI, eJ, hlt]
    rw [scanDown_no (fun hx => by omega)] at hs
    rw [hs] at eJ
    exact hQ _ _ (by simp -dsimp -implicitDefEqProofs only [go_sem, hd]) (by simp -dsimp -implicitDefEqProofs only [go_sem, e0]) (by simp -dsimp -implicitDefEqProofs only [go_sem, e1]) (by simp -dsimp -implicitDefEqProofs only [go_sem, eI]) (by simp -dsimp -implicitDefEqProofs only [go_sem, eJ]) h1.drew
  have h2 := h1.drew
  have ck := SoP.get h2 (i := k) (by omega)
  have ca := SoP.get h2 (i := a) ha
  simp -dsimp -implicitDefEqProofs (disch := omega) only [go_sem, reqD_of, dec_t, dec_f, wrap_i64, wrap_u32, wrap_u64, wrap_u8, hd, e0, e1, eI, eJ, hlt, ck, ca]
  refine (lessW_any h2).mono ?_
  rintro e' w3 ⟨h3, rfl⟩
  cases hl : ltInt d[a]! d[k]!
  · simp -dsimp -implicitDefEqProofs (disch := omega) only [go_sem, reqD_of, dec_t, dec_f, wrap_i64, wrap_u32, wrap_u64, wrap_u8, hd, e0, e1, eI, eJ]
    rw [scanDown_no (fun _ => by simp only [hl, Bool.not_false, Bool.not_true])] at hs
    rw [hs] at eJ
    exact hQ _ _ (by simp -dsimp -implicitDefEqProofs only [go_sem, hd]) (by simp -dsimp -implicitDefEqProofs only [go_sem, e0]) (by simp -dsimp -implicitDefEqProofs only [go_sem, e1]) (by simp -dsimp -implicitDefEqProofs only [go_sem, eI]) (by simp -dsimp -implicitDefEqProofs only [go_sem, eJ]) h3
  · simp -dsimp -implicitDefEqProofs (disch := omega) only [go_sem, reqD_of, dec_t, dec_f, wrap_i64, wrap_u32, wrap_u64, wrap_u8, hd, e0, e1, eI, eJ]
    obtain ⟨m, rfl⟩ : ∃ m, k = m + 1 := ⟨k - 1, by omega⟩
    rw [scanDown_go (by omega) (by simp only [hl, Bool.not_false, Bool.not_true])] at hs
    exact ⟨⟨m, by omega, by omega, hs, h3⟩, by omega⟩

end
end Go.Proofs.Ytljndiligbaljaa
