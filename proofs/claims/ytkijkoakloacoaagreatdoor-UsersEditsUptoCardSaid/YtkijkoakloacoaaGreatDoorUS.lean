/- law06: tells. -/
import Derived.Test.YtkijkoakloacoaaGreatDoorUR
namespace Go.Proofs.YtkijkoakloacoaaGreatDoor
open Go
set_option linter.unusedVariables false
set_option linter.unusedSimpArgs false
set_option maxRecDepth 100000

section
variable {w0 w : World} {A : HP} {T m U Bk : Nat} {x : UT} {y : RT} {e : FA}
section
attribute [local go_sem] F10.t10_eq F10.t11_eq F10.t17_eq F10.t18_eq F10.t14_eq F10.t15_eq F10.t21_eq

theorem tells_t12 {R : Ending → World → Prop} {θ : Tag (F10.t12, fnP Tryz.prog #[.tmp 8] R, e, w)} {n : Nat} {vn : Value} {N : List (List UInt8)} (ok : x.Ok) (oky : y.Ok) (he : accs x.L = accs y.L) (hn : n + 1000 < 100000000) (hN : N.length ≤ 20) (hd : e.ds = []) (e0 : e.ρ 0 = .pointer (some ⟨T, 0, none⟩)) (e1 : e.ρ 1 = .pointer (some ⟨U, 0, none⟩)) (e3 : e.ρ 3 = .pointer (some ⟨Bk, 0, none⟩)) (e13 : e.ρ 13 = vn)
    (h : St w0 (BookP Bk n * (TabW T m x * (RefW U y * (rowT vn N * A)))) w)
    (hQ : ∀ w', St w0 (BookP Bk (n + 500) * (TabW T m x * (RefW U y * A))) w' → R (.returned (.bool true)) w') :
    cwE Tryz.prog F10.t12 (fnP Tryz.prog #[.tmp 8] R) e w θ := by
  rw [F10.t12_eq]
  obtain ⟨an, cn, rfl, _⟩ := h.rowForm vn
  simp -dsimp -implicitDefEqProofs (disch := omega) only [go_sem, reqD_of, dec_t, dec_f, wrap_i64, wrap_u32, wrap_u64, wrap_u8, hd, e0, e1, e3, e13]
  refine loop_intro (fun e w' => e.ds = [] ∧ e.ρ 0 = .pointer (some ⟨T, 0, none⟩) ∧ e.ρ 1 = .pointer (some ⟨U, 0, none⟩) ∧ e.ρ 3 = .pointer (some ⟨Bk, 0, none⟩) ∧ e.ρ 13 = .slice an N.length cn ∧ ∃ i : Nat, i ≤ N.length ∧ e.ρ 15 = .int .i64 i ∧ St w0 (BookP Bk (n + 20 * i) * (TabW T m x * (RefW U y * (rowT (.slice an N.length cn) N * A)))) w')
    (fun e _ => match e.ρ 15 with | .int _ n => (N.length - n).toNat | _ => 0) ?_ ?_
  · exact ⟨by simp -dsimp -implicitDefEqProofs only [go_sem, hd], by simp -dsimp -implicitDefEqProofs only [go_sem, e0], by simp -dsimp -implicitDefEqProofs only [go_sem, e1], by simp -dsimp -implicitDefEqProofs only [go_sem, e3], by simp -dsimp -implicitDefEqProofs only [go_sem, e13], 0, by omega, by simp -dsimp -implicitDefEqProofs only [go_sem], h⟩
  clear h hd e0 e1 e3 e13
  rintro e w ⟨hd, e0, e1, e3, e13, i, hi, e15, h⟩
  by_cases hlt : (i : Int) < (N.length : Int)
  case neg =>
    simp -dsimp -implicitDefEqProofs (disch := omega) only [go_sem, reqD_of, dec_t, dec_f, wrap_i64, wrap_u32, wrap_u64, wrap_u8, hd, e0, e1, e3, e13, e15, hlt]
    have h1 := h.ent (Ent.sep (BookP.mono (m := n + 500) (by omega)) (Ent.rfl' _))
    refine (turn_any (by omega) h1).mono ?_
    rintro e' w1 ⟨h2, rfl⟩
    simp -dsimp -implicitDefEqProofs (disch := omega) only [go_sem, reqD_of, dec_t, dec_f, wrap_i64, wrap_u32, wrap_u64, wrap_u8, hd]
    exact hQ _ (h2.ac (by ac_rfl : _ = rowT (.slice an N.length cn) N * (BookP Bk (n + 500) * (TabW T m x * (RefW U y * A))))).right
  have hi1 : i < N.length := by omega
  simp -dsimp -implicitDefEqProofs (disch := omega) only [go_sem, reqD_of, dec_t, dec_f, wrap_i64, wrap_u32, wrap_u64, wrap_u8, hd, e0, e1, e3, e13, e15, hlt]
  refine loop_intro (fun e w' => e.ds = [] ∧ e.ρ 0 = .pointer (some ⟨T, 0, none⟩) ∧ e.ρ 1 = .pointer (some ⟨U, 0, none⟩) ∧ e.ρ 3 = .pointer (some ⟨Bk, 0, none⟩) ∧ e.ρ 13 = .slice an N.length cn ∧ e.ρ 15 = .int .i64 i ∧ ∃ k : Nat, k ≤ i + 1 ∧ e.ρ 16 = .int .i64 k ∧ St w0 (BookP Bk (n + 20 * i + k) * (TabW T m x * (RefW U y * (rowT (.slice an N.length cn) N * A)))) w')
    (fun e _ => match e.ρ 16 with | .int _ n => (i + 1 - n).toNat | _ => 0) ?_ ?_
  · exact ⟨by simp -dsimp -implicitDefEqProofs only [go_sem, hd], by simp -dsimp -implicitDefEqProofs only [go_sem, e0], by simp -dsimp -implicitDefEqProofs only [go_sem, e1], by simp -dsimp -implicitDefEqProofs only [go_sem, e3], by simp -dsimp -implicitDefEqProofs only [go_sem, e13], by simp -dsimp -implicitDefEqProofs only [go_sem, e15], 0, by omega, by simp -dsimp -implicitDefEqProofs only [go_sem], h⟩
  clear h
  rintro e2 w2 ⟨hd2, e0', e1', e3', e13', e15', k, hk, e16, h⟩
  by_cases hki : (k : Int) ≤ (i : Int)
  case neg =>
    have h1 := h.ent (Ent.sep (BookP.mono (m := n + 20 * (i + 1)) (by omega)) (Ent.rfl' _))
    simp -dsimp -implicitDefEqProofs (disch := omega) only [go_sem, reqD_of, dec_t, dec_f, wrap_i64, wrap_u32, wrap_u64, wrap_u8, hd2, e0', e1', e3', e13', e15', e15, e16, hki]
    exact ⟨⟨i + 1, by omega, by omega, h1⟩, by omega⟩
  have hk1 : k < N.length := by omega
  have hkl : (k : Int) < (N.length : Int) := by omega
  have rd : Ent (BookP Bk (n + 20 * i + k) * (TabW T m x * (RefW U y * (rowT (.slice an N.length cn) N * A)))) (ReadsT (.slice an N.length cn) N) := (Ent.right _ _).trans ((Ent.right _ _).trans ((Ent.right _ _).trans ((Ent.left _ _).trans (RowO.reads _ _ _ _ _))))
  obtain ⟨b, o, rfl, c1⟩ := h.textAt rd hi1
  obtain ⟨_, _, e9, c2⟩ := h.textAt rd hk1
  simp only [Option.some.injEq, Addr.mk.injEq, and_true] at e9
  obtain ⟨rfl, rfl⟩ := e9
  have d1 : w2.drew.cell? _ = _ := c1
  have d2 : w2.drew.cell? _ = _ := c2
  simp -dsimp -implicitDefEqProofs (disch := omega) only [go_sem, reqD_of, dec_t, dec_f, wrap_i64, wrap_u32, wrap_u64, wrap_u8, hd2, e0', e1', e3', e13', e15', e16, hki, hlt, hkl, c1, c2, d1, d2]
  refine (asks_any ok oky he (by omega) N[i] N[k] h.drew).mono ?_
  rintro e' w3 ⟨h3, rfl⟩
  simp -dsimp -implicitDefEqProofs (disch := omega) only [go_sem, reqD_of, dec_t, dec_f, wrap_i64, wrap_u32, wrap_u64, wrap_u8, hd2, e0', e1', e3', e13', e15', e16]
  exact ⟨⟨k + 1, by omega, by omega, h3⟩, by omega⟩

theorem tells_t6 {R : Ending → World → Prop} {θ : Tag (F10.t6, fnP Tryz.prog #[.tmp 8] R, e, w)} {n : Nat} {vt vw : Value} {ts : List (List UInt8)} {L2 : List AV} (ok : x.Ok) (oky : y.Ok) (he : accs x.L = accs y.L) (hn : n + 1000 < 100000000) (hts : ts.length ≤ 12) (hL2 : L2.length ≤ 65536) (ht : Ent A (ReadsT vt ts)) (hd : e.ds = []) (e0 : e.ρ 0 = .pointer (some ⟨T, 0, none⟩)) (e1 : e.ρ 1 = .pointer (some ⟨U, 0, none⟩)) (e2 : e.ρ 2 = vt) (e3 : e.ρ 3 = .pointer (some ⟨Bk, 0, none⟩)) (e11 : e.ρ 11 = vw)
    (h : St w0 (rowA vw L2 * (BookP Bk n * (TabW T m x * (RefW U y * A)))) w)
    (hQ : ∀ w', St w0 (BookP Bk (n + 500) * (TabW T m x * (RefW U y * A))) w' → R (.returned (.bool true)) w') :
    cwE Tryz.prog F10.t6 (fnP Tryz.prog #[.tmp 8] R) e w θ := by
  rw [F10.t6_eq]
  obtain ⟨aw, cw, rfl, _⟩ := h.rowForm vw
  have ht' : ∀ {X : HP}, Ent X (rowA (.slice aw L2.length cw) L2 * (BookP Bk n * (TabW T m x * (RefW U y * A)))) → Ent X (ReadsT vt ts) := fun hX => hX.trans ((Ent.right _ _).trans ((Ent.right _ _).trans ((Ent.right _ _).trans ((Ent.right _ _).trans ht))))
  obtain ⟨a2, c2, rfl, _⟩ := h.texts (ht' (Ent.rfl' _))
  simp -dsimp -implicitDefEqProofs (disch := omega) only [go_sem, reqD_of, dec_t, dec_f, wrap_i64, wrap_u32, wrap_u64, wrap_u8, hd, e0, e1, e2, e3, e11]
  have h1 := h.nilR 9 1
  refine h1.app (v := .slice none 0 0) (x := .slice a2 ts.length c2) (m := ts.length) (news := ts.map sv) fact_rowTy_22 (ht' (Ent.right _ _)) Tryz.underlying22 (texts_cells ts) (fun h => by simpa using h) (by simp only [Go.maxLen]; omega) (by omega) fun v3 w3 h3 => ?_
  simp only [Nat.zero_add, List.nil_append] at h3
  obtain ⟨a3, c3, rfl, _⟩ := h3.rowForm v3
  simp -dsimp -implicitDefEqProofs (disch := omega) only [go_sem, reqD_of, dec_t, dec_f, wrap_i64, wrap_u32, wrap_u64, wrap_u8, hd, e0, e1, e2, e3, e11]
  refine loop_intro (fun e w' => e.ds = [] ∧ e.ρ 0 = .pointer (some ⟨T, 0, none⟩) ∧ e.ρ 1 = .pointer (some ⟨U, 0, none⟩) ∧ e.ρ 3 = .pointer (some ⟨Bk, 0, none⟩) ∧ e.ρ 11 = .slice aw L2.length cw ∧ ∃ (i : Nat) (vn : Value) (N : List (List UInt8)), i ≤ L2.length ∧ i ≤ 8 ∧ N.length = ts.length + i ∧ e.ρ 14 = .int .i64 i ∧ e.ρ 13 = vn ∧ St w0 (rowT vn N * (rowA (.slice aw L2.length cw) L2 * (BookP Bk n * (TabW T m x * (RefW U y * A))))) w')
    (fun e _ => match e.ρ 14 with | .int _ n => (8 - n).toNat | _ => 0) ?_ ?_
  · exact ⟨by simp -dsimp -implicitDefEqProofs only [go_sem, hd], by simp -dsimp -implicitDefEqProofs only [go_sem, e0], by simp -dsimp -implicitDefEqProofs only [go_sem, e1], by simp -dsimp -implicitDefEqProofs only [go_sem, e3], by simp -dsimp -implicitDefEqProofs only [go_sem, e11], 0, _, ts, by omega, by omega, by omega, by simp -dsimp -implicitDefEqProofs only [go_sem], by simp -dsimp -implicitDefEqProofs only [go_sem], h3⟩
  clear h h1 h3 hd e0 e1 e2 e3 e11
  rintro e w ⟨hd, e0, e1, e3, e11, i, vn, N, hi, hi8, hN, e14, e13, h⟩
  obtain ⟨an, cn, rfl, _⟩ := h.rowForm vn
  by_cases hlt : (i : Int) < (L2.length : Int)
  case neg =>
    simp -dsimp -implicitDefEqProofs (disch := omega) only [go_sem, reqD_of, dec_t, dec_f, wrap_i64, wrap_u32, wrap_u64, wrap_u8, hd, e0, e1, e3, e11, e13, e14, hlt]
    exact tells_t12 ok oky he hn (by omega) (by simp -dsimp -implicitDefEqProofs only [go_sem, hd]) (by simp -dsimp -implicitDefEqProofs only [go_sem, e0]) (by simp -dsimp -implicitDefEqProofs only [go_sem, e1]) (by simp -dsimp -implicitDefEqProofs only [go_sem, e3]) (by simp -dsimp -implicitDefEqProofs only [go_sem, e13]) (h.ac (by ac_rfl : _ = rowA (.slice aw L2.length cw) L2 * (BookP Bk n * (TabW T m x * (RefW U y * (rowT (.slice an N.length cn) N * A)))))).right hQ
  by_cases hl8 : (i : Int) < 8
  case neg =>
    simp -dsimp -implicitDefEqProofs (disch := omega) only [go_sem, reqD_of, dec_t, dec_f, wrap_i64, wrap_u32, wrap_u64, wrap_u8, hd, e0, e1, e3, e11, e13, e14, hlt, hl8]
    exact tells_t12 ok oky he hn (by omega) (by simp -dsimp -implicitDefEqProofs only [go_sem, hd]) (by simp -dsimp -implicitDefEqProofs only [go_sem, e0]) (by simp -dsimp -implicitDefEqProofs only [go_sem, e1]) (by simp -dsimp -implicitDefEqProofs only [go_sem, e3]) (by simp -dsimp -implicitDefEqProofs only [go_sem, e13]) (h.ac (by ac_rfl : _ = rowA (.slice aw L2.length cw) L2 * (BookP Bk n * (TabW T m x * (RefW U y * (rowT (.slice an N.length cn) N * A)))))).right hQ
  have hi1 : i < L2.length := by omega
  have rd : Ent (rowT (.slice an N.length cn) N * (rowA (.slice aw L2.length cw) L2 * (BookP Bk n * (TabW T m x * (RefW U y * A))))) (ReadsA (.slice aw L2.length cw) L2) := (Ent.right _ _).trans ((Ent.left _ _).trans (RowO.reads _ _ _ _ _))
  obtain ⟨_, _, e9, hoa⟩ := rdA_form h rd
  simp only [Value.slice.injEq, true_and] at e9
  obtain ⟨rfl, rfl⟩ := e9
  obtain ⟨b, o, rfl⟩ := hoa i hi1
  have cc := (rdA_cells h rd hi1).1.1
  simp -dsimp -implicitDefEqProofs (disch := omega) only [go_sem, reqD_of, dec_t, dec_f, wrap_i64, wrap_u32, wrap_u64, wrap_u8, hd, e0, e1, e3, e11, e13, e14, hlt, hl8, cc]
  refine h.lit (t := 22) (n := 1) (cells := [sv L2[i].1.name]) fact_rowTy_22 rfl (by decide) (by decide) fun v4 w4 h4 => ?_
  obtain ⟨a4, c4, rfl, _⟩ := h4.rowForm v4
  simp -dsimp -implicitDefEqProofs (disch := omega) only [go_sem, reqD_of, dec_t, dec_f, wrap_i64, wrap_u32, wrap_u64, wrap_u8, hd, e0, e1, e3, e11, e13, e14]
  refine h4.appR (v := .slice an N.length cn) (x := .slice a4 1 c4) fact_rowTy_22 Tryz.underlying22 (fun u hu => by simp at hu; subst hu; rfl) (by simp) (show _ ≤ 9223372036854775807 by omega) (by omega) fun v5 w5 h5 => ?_
  obtain ⟨a5, c5, rfl, _⟩ := h5.rowForm v5
  simp -dsimp -implicitDefEqProofs (disch := omega) only [go_sem, reqD_of, dec_t, dec_f, wrap_i64, wrap_u32, wrap_u64, wrap_u8, hd, e0, e1, e3, e11, e14]
  have e9 : rowT (.slice a5 (N.length + 1) c5) (N ++ [L2[i].1.name]) = RowO 9 1 (.slice a5 (N.length + 1) c5) (N.length + 1) (N.map sv ++ [sv L2[i].1.name]) := by simp [rowT]
  refine ⟨⟨i + 1, .slice a5 (N.length + 1) c5, N ++ [L2[i].1.name], by omega, by omega, by simp; omega, by omega, rfl, ?_⟩, by omega⟩
  rw [e9]
  exact h5.sub
end
end

section
attribute [local go_sem] F10.t10_eq F10.t11_eq F10.t17_eq F10.t18_eq F10.t14_eq F10.t15_eq F10.t21_eq
theorem tells_any {w0 w : World} {A : HP} {T m U Bk n : Nat} {x : UT} {y : RT} {vt : Value} {ts : List (List UInt8)} (ok : x.Ok) (oky : y.Ok) (he : accs x.L = accs y.L) (hn : n + 70000 < 100000000) (hts : ts.length ≤ 12) (ht : Ent A (ReadsT vt ts))
    (h : St w0 (BookP Bk n * (TabW T m x * (RefW U y * A))) w) :
    Calls Tryz.prog 10 #[.pointer (some ⟨T, 0, none⟩), .pointer (some ⟨U, 0, none⟩), vt, .pointer (some ⟨Bk, 0, none⟩)] w fun e w' => St w0 (BookP Bk (n + 70000) * (TabW T m x * (RefW U y * A))) w' ∧ e = .returned (.bool true) := by
  have hf := oky.few
  have htx := oky.txt
  have hxl : x.L.length = y.L.length := by have := congrArg List.length he; simpa using this
  have ht' : Ent (BookP Bk n * (TabW T m x * (RefW U y * A))) (ReadsT vt ts) := (Ent.right _ _).trans ((Ent.right _ _).trans ((Ent.right _ _).trans ht))
  obtain ⟨a2, c2, rfl, _⟩ := h.texts ht'
  refine F10.calls (by simp) ?_
  unfold F10.code
  simp -dsimp -implicitDefEqProofs (disch := omega) only [go_sem, reqD_of, dec_t, dec_f, wrap_i64, wrap_u32, wrap_u64, wrap_u8]
  refine (told_any (most := 0) ok (by omega) (by omega) h.sw2).mono ?_
  rintro e w1 ⟨vo, L', B, hL', hB, h1, rfl⟩
  have hst : stopAt 0 x.L.length = x.L.length := by unfold stopAt; rw [if_neg (by omega)]
  rw [hst] at h1 hL'
  rw [List.take_of_length_le (by simp)] at hL'
  have hl' : L'.length = x.L.length := by have := congrArg List.length hL'; simpa using this
  obtain ⟨ao, co, rfl, _⟩ := h1.rowForm vo
  simp -dsimp -implicitDefEqProofs (disch := omega) only [go_sem, reqD_of, dec_t, dec_f, wrap_i64, wrap_u32, wrap_u64, wrap_u8]
  have h2 : St w0 (RefW U y * (rowA (.slice ao L'.length co) L' * (B * (BookP Bk (n + x.L.length) * (TabW T m x * A))))) w1 := h1.ac (by ac_rfl)
  refine (raccounts_any oky h2).mono ?_
  rintro e w2 ⟨vw, L2, B2, hL2, hB2, h3, rfl⟩
  have hl2 : L2.length = y.L.length := by have := congrArg List.length hL2; simpa using this
  obtain ⟨aw, cw, rfl, _⟩ := h3.rowForm vw
  simp -dsimp -implicitDefEqProofs (disch := omega) only [go_sem, reqD_of, dec_t, dec_f, wrap_i64, wrap_u32, wrap_u64, wrap_u8]
  have gR : Ent (rowA (.slice aw L2.length cw) L2 * (B2 * (RefW U y * (rowA (.slice ao L'.length co) L' * (B * (BookP Bk (n + x.L.length) * (TabW T m x * A))))))) (rowA (.slice ao L'.length co) L' * (B * (BookP Bk (n + x.L.length) * (TabW T m x * A)))) := (Ent.right _ _).trans ((Ent.right _ _).trans (Ent.right _ _))
  refine (sameAccounts_any h3 (gR.trans ((Ent.left _ _).trans (RowO.reads _ _ _ _ _))) ((Ent.left _ _).trans (RowO.reads _ _ _ _ _)) (fun z hz => gR.trans ((Ent.right _ _).trans ((Ent.left _ _).trans (hB z hz).1))) (fun z hz => (Ent.right _ _).trans ((Ent.left _ _).trans (hB2 z hz).1)) (by rw [hL', hL2, he]) (by omega) (fun z hz => by
    rw [hL', he] at hz
    have := members_text hz
    omega)).mono ?_
  rintro e w3 ⟨h4, rfl⟩
  have h5 : St w0 (TabQ T m x.vl (.map (some x.mi)) x.L * ((MapP encPr x.mi x.inl * x.B) * (rowA (.slice aw L2.length cw) L2 * (B2 * (RefW U y * (rowA (.slice ao L'.length co) L' * (B * (BookP Bk (n + x.L.length) * A)))))))) w3 := h4.ac (by unfold TabW TabQ; ac_rfl)
  simp -dsimp -implicitDefEqProofs (disch := omega) only [go_sem, reqD_of, dec_t, dec_f, wrap_i64, wrap_u32, wrap_u64, wrap_u8]
  refine (text_any h5 (ok.ms.weak ((Ent.left _ _).trans (Ent.right _ _))) (by rw [he]; omega) (by omega)).mono ?_
  rw [he]
  rintro e w4 ⟨h6, rfl⟩
  have h7 : St w0 (RefW U y * (rowA (.slice aw L2.length cw) L2 * (BookP Bk (n + x.L.length) * (TabW T m x * (B2 * (rowA (.slice ao L'.length co) L' * (B * A))))))) w4 := h6.ac (by unfold TabW TabQ; ac_rfl)
  simp -dsimp -implicitDefEqProofs (disch := omega) only [go_sem, reqD_of, dec_t, dec_f, wrap_i64, wrap_u32, wrap_u64, wrap_u8]
  refine (rtextT_any oky h7).mono ?_
  rintro e w5 ⟨h8, rfl⟩
  have q1 : decide (textF (accs y.L) = textF (accs y.L)) = true := decide_eq_true rfl
  simp -dsimp -implicitDefEqProofs (disch := omega) only [go_sem, reqD_of, dec_t, dec_f, wrap_i64, wrap_u32, wrap_u64, wrap_u8, q1]
  have h9 : St w0 (rowA (.slice aw L2.length cw) L2 * (BookP Bk (n + x.L.length) * (TabW T m x * (RefW U y * (B2 * (rowA (.slice ao L'.length co) L' * (B * A))))))) w5 := h8.ac (by ac_rfl)
  have ht9 : Ent (B2 * (rowA (.slice ao L'.length co) L' * (B * A))) (ReadsT (.slice a2 ts.length c2) ts) := (Ent.right _ _).trans ((Ent.right _ _).trans ((Ent.right _ _).trans ht))
  refine tells_t6 (n := n + x.L.length) (A := B2 * (rowA (.slice ao L'.length co) L' * (B * A))) ok oky he (by omega) hts (by omega) ht9 (by simp -dsimp -implicitDefEqProofs only [go_sem]) (by simp -dsimp -implicitDefEqProofs only [go_sem]) (by simp -dsimp -implicitDefEqProofs only [go_sem]) (by simp -dsimp -implicitDefEqProofs only [go_sem]) (by simp -dsimp -implicitDefEqProofs only [go_sem]) (by simp -dsimp -implicitDefEqProofs only [go_sem]) h9 fun w6 h10 => ⟨?_, rfl⟩
  have h11 := (h10.ac (by ac_rfl : _ = B2 * (rowA (.slice ao L'.length co) L' * (B * (BookP Bk (n + x.L.length + 500) * (TabW T m x * (RefW U y * A))))))).right.right.right
  exact h11.ent (Ent.sep (BookP.mono (by omega)) (Ent.rfl' _))
end
end Go.Proofs.YtkijkoakloacoaaGreatDoor
