/- The reference's characters. -/
import Derived.Test.YtlnlomjdooobdaaDoorNlH
import Derived.Test.YtlnlomjdooobdaaDoorNaV
namespace Go.Proofs.YtlnlomjdooobdaaDoor
open Go
set_option linter.unusedVariables false
set_option linter.unusedSimpArgs false
set_option maxRecDepth 100000

section
attribute [local go_sem] F17.t11_eq F17.t9_eq F17.t7_eq F17.t4_eq F17.t15_eq
theorem chars_step {w0 w : World} {A : HP} {l : List UInt8} {acc : List (List UInt8)} {v : Value} {k m : Nat} {e : FA} {Q : Post} {θ : Tag (F17.t13, Q, e, w)}
    (hd : e.ds = []) (e0 : e.ρ 0 = .string (strOf l)) (e3 : e.ρ 3 = v) (e4 : e.ρ 4 = .int .i64 k) (e5 : e.ρ 5 = .int .i64 m) (hl : l.length ≤ 268435456) (hkm : k + m ≤ l.length) (hac : acc.length ≤ 268435456)
    (h : St w0 (RowO 9 1 v acc.length (acc.map sv) * A) w)
    (hQ : ∀ (e' : FA) (w' : World), e'.ds = [] → e'.ρ 0 = e.ρ 0 → e'.ρ 4 = .int .i64 (k + m : Nat) →
      St w0 (RowO 9 1 (e'.ρ 3) (acc ++ [(l.drop k).take m]).length ((acc ++ [(l.drop k).take m]).map sv) * A) w' → Q .normal e' w') :
    cwE Tryd.prog F17.t13 Q e w θ := by
  obtain ⟨a, c, rfl, _, hcc, _⟩ := h.rowForm v
  rw [F17.t13_eq]
  have g1 : (k : Int) + m ≤ l.length := by omega
  have g2 : ((k : Int) + m).toNat = k + m := by omega
  have g3 : k + m - k = m := by omega
  simp -dsimp -implicitDefEqProofs (disch := omega) only [go_sem, reqD_of, dec_t, dec_f, wrap_i64, wrap_u32, wrap_u64, wrap_u8, hd, e0, e3, e4, e5, g1, g2, g3]
  refine h.lit (t := 24) (cells := [sv ((l.drop k).take m)]) fact_rowTy_24 rfl (by decide) (by decide) fun v1 w1 h1 => ?_
  obtain ⟨a1, c1, rfl, _⟩ := h1.rowForm v1
  simp -dsimp -implicitDefEqProofs (disch := omega) only [go_sem, reqD_of, dec_t, dec_f, wrap_i64, wrap_u32, wrap_u64, wrap_u8, hd, e0, e3, e4, e5]
  refine h1.appR (v := .slice a acc.length c) (x := .slice a1 1 c1) fact_rowTy_24 Tryd.underlying24 (fun u hu => by simp at hu; subst hu; rfl) (by simp) (show _ ≤ 9223372036854775807 by omega) (by omega) fun v2 w2 h2 => ?_
  simp -dsimp -implicitDefEqProofs (disch := omega) only [go_sem, reqD_of, dec_t, dec_f, wrap_i64, wrap_u32, wrap_u64, wrap_u8, hd, e0, e3, e4, e5]
  refine hQ _ w2 (by simp -dsimp -implicitDefEqProofs only [go_sem, hd]) (by simp -dsimp -implicitDefEqProofs only [go_sem]) (by simp -dsimp -implicitDefEqProofs only [go_sem]; simp) ?_
  simp -dsimp -implicitDefEqProofs only [go_sem]
  rw [show (acc ++ [(l.drop k).take m]).length = acc.length + 1 by simp, List.map_append]
  exact h2.right
theorem chars_any {w0 w : World} {A : HP} (h : St w0 A w) (l : List UInt8) (hl : l.length ≤ 268435456) :
    Calls Tryd.prog 17 #[.string (strOf l)] w fun e w' => ∃ v, St w0 (RowO 9 1 v (chr l).length ((chr l).map sv) * A) w' ∧ e = .returned v := by
  refine F17.calls (by simp) ?_
  unfold F17.code
  simp -dsimp -implicitDefEqProofs (disch := omega) only [go_sem, reqD_of, dec_t, dec_f, wrap_i64, wrap_u32, wrap_u64, wrap_u8]
  refine loop_intro (fun e w' => e.ds = [] ∧ e.ρ 0 = .string (strOf l) ∧ ∃ (k : Nat) (acc : List (List UInt8)) (v : Value), k ≤ l.length ∧ e.ρ 4 = .int .i64 k ∧ e.ρ 3 = v ∧ acc.length ≤ k ∧ chr l = acc ++ chr (l.drop k) ∧
      St w0 (RowO 9 1 v acc.length (acc.map sv) * A) w')
    (fun e _ => match e.ρ 4 with | .int _ n => (l.length - n).toNat | _ => 0) ?_ ?_
  · exact ⟨by simp -dsimp -implicitDefEqProofs only [go_sem], by simp -dsimp -implicitDefEqProofs only [go_sem], 0, [], .slice none 0 0, by omega, by simp -dsimp -implicitDefEqProofs only [go_sem], by simp -dsimp -implicitDefEqProofs only [go_sem], by simp, by simp, h.nilR 9 1⟩
  clear h
  rintro e w1 ⟨hd, e0, k, acc, v, hk, e4, e3, hac, hch, h1⟩
  by_cases hlt : (k : Int) < l.length
  case neg =>
    rw [List.drop_of_length_le (by omega), chr_nil, List.append_nil] at hch
    rw [hch]
    simp -dsimp -implicitDefEqProofs (disch := omega) only [go_sem, reqD_of, dec_t, dec_f, wrap_i64, wrap_u32, wrap_u64, wrap_u8, hd, e0, e3, e4, hlt]
    exact ⟨v, h1, rfl⟩
  have hkl : k < l.length := by omega
  have hne : l.drop k ≠ [] := fun e => by
    have := congrArg List.length e
    simp at this
    omega
  have hsp := stepN_pos hne
  have hst : stepN (l.drop k) = min (leadN (l.getD k 0).toNat) (l.length - k) := by
    unfold stepN
    simp [List.getD]
  rw [chr_cons hne, List.drop_drop] at hch
  simp only [List.length_drop] at hsp
  obtain ⟨c, hc⟩ : ∃ c, c = (l.getD k 0).toNat := ⟨_, rfl⟩
  rw [← hc] at hst
  have fin : ∀ (e' : FA) (w' : World), e'.ds = [] → e'.ρ 0 = .string (strOf l) → e'.ρ 4 = .int .i64 ((k + stepN (l.drop k) : Nat)) →
      St w0 (RowO 9 1 (e'.ρ 3) (acc ++ [(l.drop k).take (stepN (l.drop k))]).length ((acc ++ [(l.drop k).take (stepN (l.drop k))]).map sv) * A) w' →
      (∃ (k' : Nat) (acc' : List (List UInt8)) (v : Value), k' ≤ l.length ∧ (((k + stepN (l.drop k) : Nat)) : Int) = k' ∧ e'.ρ 3 = v ∧ acc'.length ≤ k' ∧ chr l = acc' ++ chr (l.drop k') ∧
        St w0 (RowO 9 1 v acc'.length (acc'.map sv) * A) w') ∧ ((l.length : Int) - ((k + stepN (l.drop k) : Nat) : Int)).toNat < ((l.length : Int) - k).toNat := by
    intro e' w' d' k0 k4 h'
    refine ⟨⟨k + stepN (l.drop k), _, _, by omega, rfl, rfl, ?_, ?_, h'⟩, by omega⟩
    · simp; omega
    · rw [hch]; simp
  have hcases : (c < 192 ∧ leadN c = 1) ∨ (192 ≤ c ∧ c < 224 ∧ leadN c = 2) ∨ (224 ≤ c ∧ c < 240 ∧ leadN c = 3) ∨ (240 ≤ c ∧ leadN c = 4) := by
    unfold leadN
    split
    · omega
    · split
      · omega
      · split <;> omega
  rcases hcases with ⟨q1, q2⟩ | ⟨q0, q1, q2⟩ | ⟨q0, q1, q2⟩ | ⟨q0, q2⟩
  · have z1 : ¬ (192 : Int) ≤ c := by omega
    have z2 : ¬ (224 : Int) ≤ c := by omega
    have z3 : ¬ (240 : Int) ≤ c := by omega
    by_cases z4 : (l.length : Int) < k + 1
    case neg =>
      have hm : ((stepN (l.drop k) : Nat) : Int) = 1 := by omega
      simp -dsimp -implicitDefEqProofs (disch := omega) only [go_sem, reqD_of, dec_t, dec_f, wrap_i64, wrap_u32, wrap_u64, wrap_u8, hd, e0, e3, e4, hlt, ← hc, z1, z2, z3, z4]
      refine chars_step (l := l) (acc := acc) (v := v) (k := k) (m := stepN (l.drop k)) (by simp -dsimp -implicitDefEqProofs only [go_sem, hd]) (by simp -dsimp -implicitDefEqProofs only [go_sem, e0]) (by simp -dsimp -implicitDefEqProofs only [go_sem, e3]) (by simp -dsimp -implicitDefEqProofs only [go_sem, e4]) (by simp -dsimp -implicitDefEqProofs only [go_sem, hm]) hl (by omega) (by omega) h1 ?_
      intro e' w' d' k0 k4 h'
      have k0 : e'.ρ 0 = .string (strOf l) := k0.trans (by simp -dsimp -implicitDefEqProofs only [go_sem, e0])
      simp -dsimp -implicitDefEqProofs (disch := omega) only [go_sem, reqD_of, dec_t, dec_f, wrap_i64, wrap_u32, wrap_u64, wrap_u8, d', k0, k4, e4]
      exact fin e' w' d' k0 k4 h'
    have hm : ((stepN (l.drop k) : Nat) : Int) = (l.length : Int) - k := by omega
    simp -dsimp -implicitDefEqProofs (disch := omega) only [go_sem, reqD_of, dec_t, dec_f, wrap_i64, wrap_u32, wrap_u64, wrap_u8, hd, e0, e3, e4, hlt, ← hc, z1, z2, z3, z4]
    refine chars_step (l := l) (acc := acc) (v := v) (k := k) (m := stepN (l.drop k)) (by simp -dsimp -implicitDefEqProofs only [go_sem, hd]) (by simp -dsimp -implicitDefEqProofs only [go_sem, e0]) (by simp -dsimp -implicitDefEqProofs only [go_sem, e3]) (by simp -dsimp -implicitDefEqProofs only [go_sem, e4]) (by simp -dsimp -implicitDefEqProofs only [go_sem, hm]) hl (by omega) (by omega) h1 ?_
    intro e' w' d' k0 k4 h'
    have k0 : e'.ρ 0 = .string (strOf l) := k0.trans (by simp -dsimp -implicitDefEqProofs only [go_sem, e0])
    simp -dsimp -implicitDefEqProofs (disch := omega) only [go_sem, reqD_of, dec_t, dec_f, wrap_i64, wrap_u32, wrap_u64, wrap_u8, d', k0, k4, e4]
    exact fin e' w' d' k0 k4 h'
  · have z1 : (192 : Int) ≤ c := by omega
    have z2 : ¬ (224 : Int) ≤ c := by omega
    have z3 : ¬ (240 : Int) ≤ c := by omega
    by_cases z4 : (l.length : Int) < k + 2
    case neg =>
      have hm : ((stepN (l.drop k) : Nat) : Int) = 2 := by omega
      simp -dsimp -implicitDefEqProofs (disch := omega) only [go_sem, reqD_of, dec_t, dec_f, wrap_i64, wrap_u32, wrap_u64, wrap_u8, hd, e0, e3, e4, hlt, ← hc, z1, z2, z3, z4]
      refine chars_step (l := l) (acc := acc) (v := v) (k := k) (m := stepN (l.drop k)) (by simp -dsimp -implicitDefEqProofs only [go_sem, hd]) (by simp -dsimp -implicitDefEqProofs only [go_sem, e0]) (by simp -dsimp -implicitDefEqProofs only [go_sem, e3]) (by simp -dsimp -implicitDefEqProofs only [go_sem, e4]) (by simp -dsimp -implicitDefEqProofs only [go_sem, hm]) hl (by omega) (by omega) h1 ?_
      intro e' w' d' k0 k4 h'
      have k0 : e'.ρ 0 = .string (strOf l) := k0.trans (by simp -dsimp -implicitDefEqProofs only [go_sem, e0])
      simp -dsimp -implicitDefEqProofs (disch := omega) only [go_sem, reqD_of, dec_t, dec_f, wrap_i64, wrap_u32, wrap_u64, wrap_u8, d', k0, k4, e4]
      exact fin e' w' d' k0 k4 h'
    have hm : ((stepN (l.drop k) : Nat) : Int) = (l.length : Int) - k := by omega
    simp -dsimp -implicitDefEqProofs (disch := omega) only [go_sem, reqD_of, dec_t, dec_f, wrap_i64, wrap_u32, wrap_u64, wrap_u8, hd, e0, e3, e4, hlt, ← hc, z1, z2, z3, z4]
    refine chars_step (l := l) (acc := acc) (v := v) (k := k) (m := stepN (l.drop k)) (by simp -dsimp -implicitDefEqProofs only [go_sem, hd]) (by simp -dsimp -implicitDefEqProofs only [go_sem, e0]) (by simp -dsimp -implicitDefEqProofs only [go_sem, e3]) (by simp -dsimp -implicitDefEqProofs only [go_sem, e4]) (by simp -dsimp -implicitDefEqProofs only [go_sem, hm]) hl (by omega) (by omega) h1 ?_
    intro e' w' d' k0 k4 h'
    have k0 : e'.ρ 0 = .string (strOf l) := k0.trans (by simp -dsimp -implicitDefEqProofs only [go_sem, e0])
    simp -dsimp -implicitDefEqProofs (disch := omega) only [go_sem, reqD_of, dec_t, dec_f, wrap_i64, wrap_u32, wrap_u64, wrap_u8, d', k0, k4, e4]
    exact fin e' w' d' k0 k4 h'
  · have z1 : (192 : Int) ≤ c := by omega
    have z2 : (224 : Int) ≤ c := by omega
    have z3 : ¬ (240 : Int) ≤ c := by omega
    by_cases z4 : (l.length : Int) < k + 3
    case neg =>
      have hm : ((stepN (l.drop k) : Nat) : Int) = 3 := by omega
      simp -dsimp -implicitDefEqProofs (disch := omega) only [go_sem, reqD_of, dec_t, dec_f, wrap_i64, wrap_u32, wrap_u64, wrap_u8, hd, e0, e3, e4, hlt, ← hc, z1, z2, z3, z4]
      refine chars_step (l := l) (acc := acc) (v := v) (k := k) (m := stepN (l.drop k)) (by simp -dsimp -implicitDefEqProofs only [go_sem, hd]) (by simp -dsimp -implicitDefEqProofs only [go_sem, e0]) (by simp -dsimp -implicitDefEqProofs only [go_sem, e3]) (by simp -dsimp -implicitDefEqProofs only [go_sem, e4]) (by simp -dsimp -implicitDefEqProofs only [go_sem, hm]) hl (by omega) (by omega) h1 ?_
      intro e' w' d' k0 k4 h'
      have k0 : e'.ρ 0 = .string (strOf l) := k0.trans (by simp -dsimp -implicitDefEqProofs only [go_sem, e0])
      simp -dsimp -implicitDefEqProofs (disch := omega) only [go_sem, reqD_of, dec_t, dec_f, wrap_i64, wrap_u32, wrap_u64, wrap_u8, d', k0, k4, e4]
      exact fin e' w' d' k0 k4 h'
    have hm : ((stepN (l.drop k) : Nat) : Int) = (l.length : Int) - k := by omega
    simp -dsimp -implicitDefEqProofs (disch := omega) only [go_sem, reqD_of, dec_t, dec_f, wrap_i64, wrap_u32, wrap_u64, wrap_u8, hd, e0, e3, e4, hlt, ← hc, z1, z2, z3, z4]
    refine chars_step (l := l) (acc := acc) (v := v) (k := k) (m := stepN (l.drop k)) (by simp -dsimp -implicitDefEqProofs only [go_sem, hd]) (by simp -dsimp -implicitDefEqProofs only [go_sem, e0]) (by simp -dsimp -implicitDefEqProofs only [go_sem, e3]) (by simp -dsimp -implicitDefEqProofs only [go_sem, e4]) (by simp -dsimp -implicitDefEqProofs only [go_sem, hm]) hl (by omega) (by omega) h1 ?_
    intro e' w' d' k0 k4 h'
    have k0 : e'.ρ 0 = .string (strOf l) := k0.trans (by simp -dsimp -implicitDefEqProofs only [go_sem, e0])
    simp -dsimp -implicitDefEqProofs (disch := omega) only [go_sem, reqD_of, dec_t, dec_f, wrap_i64, wrap_u32, wrap_u64, wrap_u8, d', k0, k4, e4]
    exact fin e' w' d' k0 k4 h'
  · have z1 : (192 : Int) ≤ c := by omega
    have z2 : (224 : Int) ≤ c := by omega
    have z3 : (240 : Int) ≤ c := by omega
    by_cases z4 : (l.length : Int) < k + 4
    case neg =>
      have hm : ((stepN (l.drop k) : Nat) : Int) = 4 := by omega
      simp -dsimp -implicitDefEqProofs (disch := omega) only [go_sem, reqD_of, dec_t, dec_f, wrap_i64, wrap_u32, wrap_u64, wrap_u8, hd, e0, e3, e4, hlt, ← hc, z1, z2, z3, z4]
      refine chars_step (l := l) (acc := acc) (v := v) (k := k) (m := stepN (l.drop k)) (by simp -dsimp -implicitDefEqProofs only [go_sem, hd]) (by simp -dsimp -implicitDefEqProofs only [go_sem, e0]) (by simp -dsimp -implicitDefEqProofs only [go_sem, e3]) (by simp -dsimp -implicitDefEqProofs only [go_sem, e4]) (by simp -dsimp -implicitDefEqProofs only [go_sem, hm]) hl (by omega) (by omega) h1 ?_
      intro e' w' d' k0 k4 h'
      have k0 : e'.ρ 0 = .string (strOf l) := k0.trans (by simp -dsimp -implicitDefEqProofs only [go_sem, e0])
      simp -dsimp -implicitDefEqProofs (disch := omega) only [go_sem, reqD_of, dec_t, dec_f, wrap_i64, wrap_u32, wrap_u64, wrap_u8, d', k0, k4, e4]
      exact fin e' w' d' k0 k4 h'
    have hm : ((stepN (l.drop k) : Nat) : Int) = (l.length : Int) - k := by omega
    simp -dsimp -implicitDefEqProofs (disch := omega) only [go_sem, reqD_of, dec_t, dec_f, wrap_i64, wrap_u32, wrap_u64, wrap_u8, hd, e0, e3, e4, hlt, ← hc, z1, z2, z3, z4]
    refine chars_step (l := l) (acc := acc) (v := v) (k := k) (m := stepN (l.drop k)) (by simp -dsimp -implicitDefEqProofs only [go_sem, hd]) (by simp -dsimp -implicitDefEqProofs only [go_sem, e0]) (by simp -dsimp -implicitDefEqProofs only [go_sem, e3]) (by simp -dsimp -implicitDefEqProofs only [go_sem, e4]) (by simp -dsimp -implicitDefEqProofs only [go_sem, hm]) hl (by omega) (by omega) h1 ?_
    intro e' w' d' k0 k4 h'
    have k0 : e'.ρ 0 = .string (strOf l) := k0.trans (by simp -dsimp -implicitDefEqProofs only [go_sem, e0])
    simp -dsimp -implicitDefEqProofs (disch := omega) only [go_sem, reqD_of, dec_t, dec_f, wrap_i64, wrap_u32, wrap_u64, wrap_u8, d', k0, k4, e4]
    exact fin e' w' d' k0 k4 h'
end
end Go.Proofs.YtlnlomjdooobdaaDoor
