/- msg.kinds (printed by gentrf.py). -/
import Derived.Test.YtonajgmamdeohaaGreatDoorTrE
namespace Go.Proofs.YtonajgmamdeohaaGreatDoor
open Go
set_option linter.unusedVariables false
set_option linter.unusedSimpArgs false
set_option maxRecDepth 100000

abbrev KRow := Int × ByteArray × Value
abbrev kC (x : KRow) : List Value := [.int .u8 x.1, .string x.2.1, x.2.2]
def kNums : List Int := [100, 101, 102, 103, 104, 105, 107, 108, 109, 110, 111, 112, 113, 114, 115, 116, 117, 118, 119, 120, 121, 122, 123, 124, 125, 126, 127]
section
variable {w0 w : World} {F : HP}

theorem kinds_any (h0 : St w0 F w) :
    Calls Tryz.prog 39 #[] w fun e w' => ∃ (v vr : Value) (rows : List KRow), rows.map (·.1) = kNums ∧ rows[24]? = some (125, ⟨#[82, 115, 116, 97, 116]⟩, vr) ∧ (∀ x ∈ rows, isCell x.2.2 = true) ∧
      St w0 (RowO 61 3 v 27 (rows.flatMap kC) * (RowO 64 1 vr 1 [.int .u8 19] * F)) w' ∧ e = .returned v := by
  refine F39.calls (by simp) ?_
  unfold F39.code
  simp -dsimp -implicitDefEqProofs (disch := omega) only [go_sem, reqD_of, dec_t, dec_f, wrap_i64, wrap_u32, wrap_u64, wrap_u8]
  refine h0.lit (n := 2) (cells := [.int .u8 0, .int .u8 1]) fact_rowTy_59 (by kernel_rfl) (by decide) (by decide) fun v1 w1 k1 => ?_
  obtain ⟨a1, c1, rfl, _⟩ := k1.rowForm v1
  have h1 := k1.right
  simp -dsimp -implicitDefEqProofs (disch := omega) only [go_sem, reqD_of, dec_t, dec_f, wrap_i64, wrap_u32, wrap_u64, wrap_u8]
  refine onV_of (v := .agg #[.int .u8 100, .string ⟨#[84, 118, 101, 114, 115, 105, 111, 110]⟩, .slice a1 2 c1]) (by kernel_rfl) ?_
  simp -dsimp -implicitDefEqProofs (disch := omega) only [go_sem, reqD_of, dec_t, dec_f, wrap_i64, wrap_u32, wrap_u64, wrap_u8]
  refine h1.lit (n := 2) (cells := [.int .u8 0, .int .u8 1]) fact_rowTy_59 (by kernel_rfl) (by decide) (by decide) fun v3 w2 k2 => ?_
  obtain ⟨a3, c3, rfl, _⟩ := k2.rowForm v3
  have h2 := k2.right
  simp -dsimp -implicitDefEqProofs (disch := omega) only [go_sem, reqD_of, dec_t, dec_f, wrap_i64, wrap_u32, wrap_u64, wrap_u8]
  refine onV_of (v := .agg #[.int .u8 101, .string ⟨#[82, 118, 101, 114, 115, 105, 111, 110]⟩, .slice a3 2 c3]) (by kernel_rfl) ?_
  simp -dsimp -implicitDefEqProofs (disch := omega) only [go_sem, reqD_of, dec_t, dec_f, wrap_i64, wrap_u32, wrap_u64, wrap_u8]
  refine h2.lit (n := 3) (cells := [.int .u8 2, .int .u8 3, .int .u8 4]) fact_rowTy_59 (by kernel_rfl) (by decide) (by decide) fun v5 w3 k3 => ?_
  obtain ⟨a5, c5, rfl, _⟩ := k3.rowForm v5
  have h3 := k3.right
  simp -dsimp -implicitDefEqProofs (disch := omega) only [go_sem, reqD_of, dec_t, dec_f, wrap_i64, wrap_u32, wrap_u64, wrap_u8]
  refine onV_of (v := .agg #[.int .u8 102, .string ⟨#[84, 97, 117, 116, 104]⟩, .slice a5 3 c5]) (by kernel_rfl) ?_
  simp -dsimp -implicitDefEqProofs (disch := omega) only [go_sem, reqD_of, dec_t, dec_f, wrap_i64, wrap_u32, wrap_u64, wrap_u8]
  refine h3.lit (n := 1) (cells := [.int .u8 11]) fact_rowTy_59 (by kernel_rfl) (by decide) (by decide) fun v7 w4 k4 => ?_
  obtain ⟨a7, c7, rfl, _⟩ := k4.rowForm v7
  have h4 := k4.right
  simp -dsimp -implicitDefEqProofs (disch := omega) only [go_sem, reqD_of, dec_t, dec_f, wrap_i64, wrap_u32, wrap_u64, wrap_u8]
  refine onV_of (v := .agg #[.int .u8 103, .string ⟨#[82, 97, 117, 116, 104]⟩, .slice a7 1 c7]) (by kernel_rfl) ?_
  simp -dsimp -implicitDefEqProofs (disch := omega) only [go_sem, reqD_of, dec_t, dec_f, wrap_i64, wrap_u32, wrap_u64, wrap_u8]
  refine h4.lit (n := 4) (cells := [.int .u8 7, .int .u8 2, .int .u8 3, .int .u8 4]) fact_rowTy_59 (by kernel_rfl) (by decide) (by decide) fun v9 w5 k5 => ?_
  obtain ⟨a9, c9, rfl, _⟩ := k5.rowForm v9
  have h5 := k5.right
  simp -dsimp -implicitDefEqProofs (disch := omega) only [go_sem, reqD_of, dec_t, dec_f, wrap_i64, wrap_u32, wrap_u64, wrap_u8]
  refine onV_of (v := .agg #[.int .u8 104, .string ⟨#[84, 97, 116, 116, 97, 99, 104]⟩, .slice a9 4 c9]) (by kernel_rfl) ?_
  simp -dsimp -implicitDefEqProofs (disch := omega) only [go_sem, reqD_of, dec_t, dec_f, wrap_i64, wrap_u32, wrap_u64, wrap_u8]
  refine h5.lit (n := 1) (cells := [.int .u8 11]) fact_rowTy_59 (by kernel_rfl) (by decide) (by decide) fun v11 w6 k6 => ?_
  obtain ⟨a11, c11, rfl, _⟩ := k6.rowForm v11
  have h6 := k6.right
  simp -dsimp -implicitDefEqProofs (disch := omega) only [go_sem, reqD_of, dec_t, dec_f, wrap_i64, wrap_u32, wrap_u64, wrap_u8]
  refine onV_of (v := .agg #[.int .u8 105, .string ⟨#[82, 97, 116, 116, 97, 99, 104]⟩, .slice a11 1 c11]) (by kernel_rfl) ?_
  simp -dsimp -implicitDefEqProofs (disch := omega) only [go_sem, reqD_of, dec_t, dec_f, wrap_i64, wrap_u32, wrap_u64, wrap_u8]
  refine h6.lit (n := 1) (cells := [.int .u8 5]) fact_rowTy_59 (by kernel_rfl) (by decide) (by decide) fun v13 w7 k7 => ?_
  obtain ⟨a13, c13, rfl, _⟩ := k7.rowForm v13
  have h7 := k7.right
  simp -dsimp -implicitDefEqProofs (disch := omega) only [go_sem, reqD_of, dec_t, dec_f, wrap_i64, wrap_u32, wrap_u64, wrap_u8]
  refine onV_of (v := .agg #[.int .u8 107, .string ⟨#[82, 101, 114, 114, 111, 114]⟩, .slice a13 1 c13]) (by kernel_rfl) ?_
  simp -dsimp -implicitDefEqProofs (disch := omega) only [go_sem, reqD_of, dec_t, dec_f, wrap_i64, wrap_u32, wrap_u64, wrap_u8]
  refine h7.lit (n := 1) (cells := [.int .u8 6]) fact_rowTy_59 (by kernel_rfl) (by decide) (by decide) fun v15 w8 k8 => ?_
  obtain ⟨a15, c15, rfl, _⟩ := k8.rowForm v15
  have h8 := k8.right
  simp -dsimp -implicitDefEqProofs (disch := omega) only [go_sem, reqD_of, dec_t, dec_f, wrap_i64, wrap_u32, wrap_u64, wrap_u8]
  refine onV_of (v := .agg #[.int .u8 108, .string ⟨#[84, 102, 108, 117, 115, 104]⟩, .slice a15 1 c15]) (by kernel_rfl) ?_
  simp -dsimp -implicitDefEqProofs (disch := omega) only [go_sem, reqD_of, dec_t, dec_f, wrap_i64, wrap_u32, wrap_u64, wrap_u8]
  refine onV_of (v := .agg #[.int .u8 109, .string ⟨#[82, 102, 108, 117, 115, 104]⟩, .slice none 0 0]) (by kernel_rfl) ?_
  simp -dsimp -implicitDefEqProofs (disch := omega) only [go_sem, reqD_of, dec_t, dec_f, wrap_i64, wrap_u32, wrap_u64, wrap_u8]
  refine h8.lit (n := 3) (cells := [.int .u8 7, .int .u8 8, .int .u8 9]) fact_rowTy_59 (by kernel_rfl) (by decide) (by decide) fun v18 w9 k9 => ?_
  obtain ⟨a18, c18, rfl, _⟩ := k9.rowForm v18
  have h9 := k9.right
  simp -dsimp -implicitDefEqProofs (disch := omega) only [go_sem, reqD_of, dec_t, dec_f, wrap_i64, wrap_u32, wrap_u64, wrap_u8]
  refine onV_of (v := .agg #[.int .u8 110, .string ⟨#[84, 119, 97, 108, 107]⟩, .slice a18 3 c18]) (by kernel_rfl) ?_
  simp -dsimp -implicitDefEqProofs (disch := omega) only [go_sem, reqD_of, dec_t, dec_f, wrap_i64, wrap_u32, wrap_u64, wrap_u8]
  refine h9.lit (n := 1) (cells := [.int .u8 10]) fact_rowTy_59 (by kernel_rfl) (by decide) (by decide) fun v20 w10 k10 => ?_
  obtain ⟨a20, c20, rfl, _⟩ := k10.rowForm v20
  have h10 := k10.right
  simp -dsimp -implicitDefEqProofs (disch := omega) only [go_sem, reqD_of, dec_t, dec_f, wrap_i64, wrap_u32, wrap_u64, wrap_u8]
  refine onV_of (v := .agg #[.int .u8 111, .string ⟨#[82, 119, 97, 108, 107]⟩, .slice a20 1 c20]) (by kernel_rfl) ?_
  simp -dsimp -implicitDefEqProofs (disch := omega) only [go_sem, reqD_of, dec_t, dec_f, wrap_i64, wrap_u32, wrap_u64, wrap_u8]
  refine h10.lit (n := 2) (cells := [.int .u8 7, .int .u8 12]) fact_rowTy_59 (by kernel_rfl) (by decide) (by decide) fun v22 w11 k11 => ?_
  obtain ⟨a22, c22, rfl, _⟩ := k11.rowForm v22
  have h11 := k11.right
  simp -dsimp -implicitDefEqProofs (disch := omega) only [go_sem, reqD_of, dec_t, dec_f, wrap_i64, wrap_u32, wrap_u64, wrap_u8]
  refine onV_of (v := .agg #[.int .u8 112, .string ⟨#[84, 111, 112, 101, 110]⟩, .slice a22 2 c22]) (by kernel_rfl) ?_
  simp -dsimp -implicitDefEqProofs (disch := omega) only [go_sem, reqD_of, dec_t, dec_f, wrap_i64, wrap_u32, wrap_u64, wrap_u8]
  refine h11.lit (n := 2) (cells := [.int .u8 11, .int .u8 13]) fact_rowTy_59 (by kernel_rfl) (by decide) (by decide) fun v24 w12 k12 => ?_
  obtain ⟨a24, c24, rfl, _⟩ := k12.rowForm v24
  have h12 := k12.right
  simp -dsimp -implicitDefEqProofs (disch := omega) only [go_sem, reqD_of, dec_t, dec_f, wrap_i64, wrap_u32, wrap_u64, wrap_u8]
  refine onV_of (v := .agg #[.int .u8 113, .string ⟨#[82, 111, 112, 101, 110]⟩, .slice a24 2 c24]) (by kernel_rfl) ?_
  simp -dsimp -implicitDefEqProofs (disch := omega) only [go_sem, reqD_of, dec_t, dec_f, wrap_i64, wrap_u32, wrap_u64, wrap_u8]
  refine h12.lit (n := 4) (cells := [.int .u8 7, .int .u8 14, .int .u8 15, .int .u8 12]) fact_rowTy_59 (by kernel_rfl) (by decide) (by decide) fun v26 w13 k13 => ?_
  obtain ⟨a26, c26, rfl, _⟩ := k13.rowForm v26
  have h13 := k13.right
  simp -dsimp -implicitDefEqProofs (disch := omega) only [go_sem, reqD_of, dec_t, dec_f, wrap_i64, wrap_u32, wrap_u64, wrap_u8]
  refine onV_of (v := .agg #[.int .u8 114, .string ⟨#[84, 99, 114, 101, 97, 116, 101]⟩, .slice a26 4 c26]) (by kernel_rfl) ?_
  simp -dsimp -implicitDefEqProofs (disch := omega) only [go_sem, reqD_of, dec_t, dec_f, wrap_i64, wrap_u32, wrap_u64, wrap_u8]
  refine h13.lit (n := 2) (cells := [.int .u8 11, .int .u8 13]) fact_rowTy_59 (by kernel_rfl) (by decide) (by decide) fun v28 w14 k14 => ?_
  obtain ⟨a28, c28, rfl, _⟩ := k14.rowForm v28
  have h14 := k14.right
  simp -dsimp -implicitDefEqProofs (disch := omega) only [go_sem, reqD_of, dec_t, dec_f, wrap_i64, wrap_u32, wrap_u64, wrap_u8]
  refine onV_of (v := .agg #[.int .u8 115, .string ⟨#[82, 99, 114, 101, 97, 116, 101]⟩, .slice a28 2 c28]) (by kernel_rfl) ?_
  simp -dsimp -implicitDefEqProofs (disch := omega) only [go_sem, reqD_of, dec_t, dec_f, wrap_i64, wrap_u32, wrap_u64, wrap_u8]
  refine h14.lit (n := 3) (cells := [.int .u8 7, .int .u8 16, .int .u8 17]) fact_rowTy_59 (by kernel_rfl) (by decide) (by decide) fun v30 w15 k15 => ?_
  obtain ⟨a30, c30, rfl, _⟩ := k15.rowForm v30
  have h15 := k15.right
  simp -dsimp -implicitDefEqProofs (disch := omega) only [go_sem, reqD_of, dec_t, dec_f, wrap_i64, wrap_u32, wrap_u64, wrap_u8]
  refine onV_of (v := .agg #[.int .u8 116, .string ⟨#[84, 114, 101, 97, 100]⟩, .slice a30 3 c30]) (by kernel_rfl) ?_
  simp -dsimp -implicitDefEqProofs (disch := omega) only [go_sem, reqD_of, dec_t, dec_f, wrap_i64, wrap_u32, wrap_u64, wrap_u8]
  refine h15.lit (n := 1) (cells := [.int .u8 18]) fact_rowTy_59 (by kernel_rfl) (by decide) (by decide) fun v32 w16 k16 => ?_
  obtain ⟨a32, c32, rfl, _⟩ := k16.rowForm v32
  have h16 := k16.right
  simp -dsimp -implicitDefEqProofs (disch := omega) only [go_sem, reqD_of, dec_t, dec_f, wrap_i64, wrap_u32, wrap_u64, wrap_u8]
  refine onV_of (v := .agg #[.int .u8 117, .string ⟨#[82, 114, 101, 97, 100]⟩, .slice a32 1 c32]) (by kernel_rfl) ?_
  simp -dsimp -implicitDefEqProofs (disch := omega) only [go_sem, reqD_of, dec_t, dec_f, wrap_i64, wrap_u32, wrap_u64, wrap_u8]
  refine h16.lit (n := 3) (cells := [.int .u8 7, .int .u8 16, .int .u8 18]) fact_rowTy_59 (by kernel_rfl) (by decide) (by decide) fun v34 w17 k17 => ?_
  obtain ⟨a34, c34, rfl, _⟩ := k17.rowForm v34
  have h17 := k17.right
  simp -dsimp -implicitDefEqProofs (disch := omega) only [go_sem, reqD_of, dec_t, dec_f, wrap_i64, wrap_u32, wrap_u64, wrap_u8]
  refine onV_of (v := .agg #[.int .u8 118, .string ⟨#[84, 119, 114, 105, 116, 101]⟩, .slice a34 3 c34]) (by kernel_rfl) ?_
  simp -dsimp -implicitDefEqProofs (disch := omega) only [go_sem, reqD_of, dec_t, dec_f, wrap_i64, wrap_u32, wrap_u64, wrap_u8]
  refine h17.lit (n := 1) (cells := [.int .u8 17]) fact_rowTy_59 (by kernel_rfl) (by decide) (by decide) fun v36 w18 k18 => ?_
  obtain ⟨a36, c36, rfl, _⟩ := k18.rowForm v36
  have h18 := k18.right
  simp -dsimp -implicitDefEqProofs (disch := omega) only [go_sem, reqD_of, dec_t, dec_f, wrap_i64, wrap_u32, wrap_u64, wrap_u8]
  refine onV_of (v := .agg #[.int .u8 119, .string ⟨#[82, 119, 114, 105, 116, 101]⟩, .slice a36 1 c36]) (by kernel_rfl) ?_
  simp -dsimp -implicitDefEqProofs (disch := omega) only [go_sem, reqD_of, dec_t, dec_f, wrap_i64, wrap_u32, wrap_u64, wrap_u8]
  refine h18.lit (n := 1) (cells := [.int .u8 7]) fact_rowTy_59 (by kernel_rfl) (by decide) (by decide) fun v38 w19 k19 => ?_
  obtain ⟨a38, c38, rfl, _⟩ := k19.rowForm v38
  have h19 := k19.right
  simp -dsimp -implicitDefEqProofs (disch := omega) only [go_sem, reqD_of, dec_t, dec_f, wrap_i64, wrap_u32, wrap_u64, wrap_u8]
  refine onV_of (v := .agg #[.int .u8 120, .string ⟨#[84, 99, 108, 117, 110, 107]⟩, .slice a38 1 c38]) (by kernel_rfl) ?_
  simp -dsimp -implicitDefEqProofs (disch := omega) only [go_sem, reqD_of, dec_t, dec_f, wrap_i64, wrap_u32, wrap_u64, wrap_u8]
  refine onV_of (v := .agg #[.int .u8 121, .string ⟨#[82, 99, 108, 117, 110, 107]⟩, .slice none 0 0]) (by kernel_rfl) ?_
  simp -dsimp -implicitDefEqProofs (disch := omega) only [go_sem, reqD_of, dec_t, dec_f, wrap_i64, wrap_u32, wrap_u64, wrap_u8]
  refine h19.lit (n := 1) (cells := [.int .u8 7]) fact_rowTy_59 (by kernel_rfl) (by decide) (by decide) fun v41 w20 k20 => ?_
  obtain ⟨a41, c41, rfl, _⟩ := k20.rowForm v41
  have h20 := k20.right
  simp -dsimp -implicitDefEqProofs (disch := omega) only [go_sem, reqD_of, dec_t, dec_f, wrap_i64, wrap_u32, wrap_u64, wrap_u8]
  refine onV_of (v := .agg #[.int .u8 122, .string ⟨#[84, 114, 101, 109, 111, 118, 101]⟩, .slice a41 1 c41]) (by kernel_rfl) ?_
  simp -dsimp -implicitDefEqProofs (disch := omega) only [go_sem, reqD_of, dec_t, dec_f, wrap_i64, wrap_u32, wrap_u64, wrap_u8]
  refine onV_of (v := .agg #[.int .u8 123, .string ⟨#[82, 114, 101, 109, 111, 118, 101]⟩, .slice none 0 0]) (by kernel_rfl) ?_
  simp -dsimp -implicitDefEqProofs (disch := omega) only [go_sem, reqD_of, dec_t, dec_f, wrap_i64, wrap_u32, wrap_u64, wrap_u8]
  refine h20.lit (n := 1) (cells := [.int .u8 7]) fact_rowTy_59 (by kernel_rfl) (by decide) (by decide) fun v44 w21 k21 => ?_
  obtain ⟨a44, c44, rfl, _⟩ := k21.rowForm v44
  have h21 := k21.right
  simp -dsimp -implicitDefEqProofs (disch := omega) only [go_sem, reqD_of, dec_t, dec_f, wrap_i64, wrap_u32, wrap_u64, wrap_u8]
  refine onV_of (v := .agg #[.int .u8 124, .string ⟨#[84, 115, 116, 97, 116]⟩, .slice a44 1 c44]) (by kernel_rfl) ?_
  simp -dsimp -implicitDefEqProofs (disch := omega) only [go_sem, reqD_of, dec_t, dec_f, wrap_i64, wrap_u32, wrap_u64, wrap_u8]
  refine h21.lit (n := 1) (cells := [.int .u8 19]) fact_rowTy_59 (by kernel_rfl) (by decide) (by decide) fun v46 w22 k22 => ?_
  obtain ⟨a46, c46, rfl, _⟩ := k22.rowForm v46
  have h22 := k22
  simp -dsimp -implicitDefEqProofs (disch := omega) only [go_sem, reqD_of, dec_t, dec_f, wrap_i64, wrap_u32, wrap_u64, wrap_u8]
  refine onV_of (v := .agg #[.int .u8 125, .string ⟨#[82, 115, 116, 97, 116]⟩, .slice a46 1 c46]) (by kernel_rfl) ?_
  simp -dsimp -implicitDefEqProofs (disch := omega) only [go_sem, reqD_of, dec_t, dec_f, wrap_i64, wrap_u32, wrap_u64, wrap_u8]
  refine h22.lit (n := 2) (cells := [.int .u8 7, .int .u8 19]) fact_rowTy_59 (by kernel_rfl) (by decide) (by decide) fun v48 w23 k23 => ?_
  obtain ⟨a48, c48, rfl, _⟩ := k23.rowForm v48
  have h23 := k23.right
  simp -dsimp -implicitDefEqProofs (disch := omega) only [go_sem, reqD_of, dec_t, dec_f, wrap_i64, wrap_u32, wrap_u64, wrap_u8]
  refine onV_of (v := .agg #[.int .u8 126, .string ⟨#[84, 119, 115, 116, 97, 116]⟩, .slice a48 2 c48]) (by kernel_rfl) ?_
  simp -dsimp -implicitDefEqProofs (disch := omega) only [go_sem, reqD_of, dec_t, dec_f, wrap_i64, wrap_u32, wrap_u64, wrap_u8]
  refine onV_of (v := .agg #[.int .u8 127, .string ⟨#[82, 119, 115, 116, 97, 116]⟩, .slice none 0 0]) (by kernel_rfl) ?_
  simp -dsimp -implicitDefEqProofs (disch := omega) only [go_sem, reqD_of, dec_t, dec_f, wrap_i64, wrap_u32, wrap_u64, wrap_u8]
  obtain ⟨rows, hrows⟩ : ∃ rows : List KRow, rows = [(100, ⟨#[84, 118, 101, 114, 115, 105, 111, 110]⟩, .slice a1 2 c1), (101, ⟨#[82, 118, 101, 114, 115, 105, 111, 110]⟩, .slice a3 2 c3), (102, ⟨#[84, 97, 117, 116, 104]⟩, .slice a5 3 c5), (103, ⟨#[82, 97, 117, 116, 104]⟩, .slice a7 1 c7), (104, ⟨#[84, 97, 116, 116, 97, 99, 104]⟩, .slice a9 4 c9), (105, ⟨#[82, 97, 116, 116, 97, 99, 104]⟩, .slice a11 1 c11), (107, ⟨#[82, 101, 114, 114, 111, 114]⟩, .slice a13 1 c13), (108, ⟨#[84, 102, 108, 117, 115, 104]⟩, .slice a15 1 c15), (109, ⟨#[82, 102, 108, 117, 115, 104]⟩, .slice none 0 0), (110, ⟨#[84, 119, 97, 108, 107]⟩, .slice a18 3 c18), (111, ⟨#[82, 119, 97, 108, 107]⟩, .slice a20 1 c20), (112, ⟨#[84, 111, 112, 101, 110]⟩, .slice a22 2 c22), (113, ⟨#[82, 111, 112, 101, 110]⟩, .slice a24 2 c24), (114, ⟨#[84, 99, 114, 101, 97, 116, 101]⟩, .slice a26 4 c26), (115, ⟨#[82, 99, 114, 101, 97, 116, 101]⟩, .slice a28 2 c28), (116, ⟨#[84, 114, 101, 97, 100]⟩, .slice a30 3 c30), (117, ⟨#[82, 114, 101, 97, 100]⟩, .slice a32 1 c32), (118, ⟨#[84, 119, 114, 105, 116, 101]⟩, .slice a34 3 c34), (119, ⟨#[82, 119, 114, 105, 116, 101]⟩, .slice a36 1 c36), (120, ⟨#[84, 99, 108, 117, 110, 107]⟩, .slice a38 1 c38), (121, ⟨#[82, 99, 108, 117, 110, 107]⟩, .slice none 0 0), (122, ⟨#[84, 114, 101, 109, 111, 118, 101]⟩, .slice a41 1 c41), (123, ⟨#[82, 114, 101, 109, 111, 118, 101]⟩, .slice none 0 0), (124, ⟨#[84, 115, 116, 97, 116]⟩, .slice a44 1 c44), (125, ⟨#[82, 115, 116, 97, 116]⟩, .slice a46 1 c46), (126, ⟨#[84, 119, 115, 116, 97, 116]⟩, .slice a48 2 c48), (127, ⟨#[82, 119, 115, 116, 97, 116]⟩, .slice none 0 0)] := ⟨_, rfl⟩
  refine h23.lit (n := 27) (cells := rows.flatMap kC) fact_rowTy_96 (by rw [hrows]; kernel_rfl) (by decide) (by decide) fun v w24 hz => ?_
  simp -dsimp -implicitDefEqProofs (disch := omega) only [go_sem, reqD_of, dec_t, dec_f, wrap_i64, wrap_u32, wrap_u64, wrap_u8]
  refine ⟨v, .slice a46 1 c46, rows, by rw [hrows]; rfl, by rw [hrows]; rfl, ?_, hz, rfl⟩
  intro x hx
  rw [hrows] at hx
  simp only [List.mem_cons, List.not_mem_nil, or_false] at hx
  rcases hx with rfl | rfl | rfl | rfl | rfl | rfl | rfl | rfl | rfl | rfl | rfl | rfl | rfl | rfl | rfl | rfl | rfl | rfl | rfl | rfl | rfl | rfl | rfl | rfl | rfl | rfl | rfl <;> rfl
end
end Go.Proofs.YtonajgmamdeohaaGreatDoor
