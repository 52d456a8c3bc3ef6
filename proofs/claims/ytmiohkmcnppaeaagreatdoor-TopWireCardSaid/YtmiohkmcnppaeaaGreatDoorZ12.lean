/- msg.kinds, msg.rowOf (printed by gentw6.py). · A kind's row. · Cutters (out of the fourth chapter's texts, by genfr.py). · Cutters: Next and Feed (out of the fourth chapter's texts, by genfr.py). · Cutters: the plain law (out of the fourth chapter's texts, by genfr.py). · Cutters, in the plain law's terms (out of the fourth chapter's texts, by genfr.py). · Cutters: chunks (out of the fourth chapter's texts, by genfr.py). · msg.Encode. · msg.Encode, whole. · msg.Size, msg.Clean. · msg.Decode. · TopWire: two lists, two messages, the same. · TopWire: the weight, what is beyond, the first message. · TopWire: the plain law of frames and messages; what is wanted. · TopWire: frames are fed, and come out again. · TopWire: messages are encoded. · TopWire, whole. · Arguments that are rows of structs with slices in them, as rows that are read. -/
import Derived.Test.YtmiohkmcnppaeaaGreatDoorZ1
import Derived.Test.YtmiohkmcnppaeaaGreatDoorZ2
import Derived.Test.YtmiohkmcnppaeaaGreatDoorZ3
import Derived.Test.YtmiohkmcnppaeaaGreatDoorZ4
import Derived.Test.YtmiohkmcnppaeaaGreatDoorZ5
import Derived.Test.YtmiohkmcnppaeaaGreatDoorZ6
import Derived.Test.YtmiohkmcnppaeaaGreatDoorZ7
import Derived.Test.YtmiohkmcnppaeaaGreatDoorZ8
import Derived.Test.YtmiohkmcnppaeaaGreatDoorZ9
import Derived.Test.YtmiohkmcnppaeaaGreatDoorZ10
import Derived.Test.YtmiohkmcnppaeaaGreatDoorZ11
namespace Go.Proofs.YtmiohkmcnppaeaaGreatDoor
open Go
set_option linter.unusedVariables false
set_option linter.unusedSimpArgs false
set_option maxRecDepth 100000

abbrev fC (n : Nat) : Value := .int .u8 n
abbrev KRow := Nat × ByteArray × Value
abbrev kC (x : KRow) : List Value := [.int .u8 x.1, .string x.2.1, x.2.2]
def kNums : List Nat := [100, 101, 102, 103, 104, 105, 107, 108, 109, 110, 111, 112, 113, 114, 115, 116, 117, 118, 119, 120, 121, 122, 123, 124, 125, 126, 127]
theorem fieldsOf_none {k : Nat} (h : k ∉ kNums) : fieldsOf k = none := by
  unfold fieldsOf
  split <;> first | rfl | exact absurd (by decide) h
/-- Lists of fields' names, one behind the other, ahead of F. -/
def LstP (F : HP) : List (Value × List Nat) → HP
  | [] => F
  | x :: l => RowO 63 1 x.1 x.2.length (x.2.map fC) * LstP F l
theorem LstP.rest (F : HP) : ∀ l, Ent (LstP F l) F
  | [] => Ent.rfl' _
  | x :: l => (Ent.right _ _).trans (LstP.rest F l)
theorem LstP.get {F : HP} {x : Value × List Nat} : ∀ {l}, x ∈ l → Ent (LstP F l) (RowO 63 1 x.1 x.2.length (x.2.map fC) * F)
  | y :: l, h => by
    rcases List.mem_cons.1 h with rfl | h
    · exact Ent.sep (Ent.rfl' _) (LstP.rest F l)
    · exact (Ent.right _ _).trans (LstP.get h)
theorem LstP.no {F : HP} {l} : Ent (LstP F l) (RowO 63 1 (.slice none 0 0) ([] : List Nat).length (([] : List Nat).map fC) * F) := (LstP.rest F l).trans (Ent.nilRowO 63 1 F)
section
variable {w0 w : World} {F : HP}

theorem kinds_any (h0 : St w0 F w) :
    Calls Tryz.prog 32 #[] w fun e w' => ∃ (v : Value) (A : HP) (rows : List KRow), rows.map (·.1) = kNums ∧ Ent A F ∧ (∀ x ∈ rows, isCell x.2.2 = true ∧ ∃ fs, fieldsOf x.1 = some fs ∧ Ent A (RowO 63 1 x.2.2 fs.length (fs.map fC) * F)) ∧
      St w0 (RowO 60 3 v 27 (rows.flatMap kC) * A) w' ∧ e = .returned v := by
  refine F32.calls (by simp) ?_
  unfold F32.code
  simp -dsimp -implicitDefEqProofs (disch := omega) only [go_sem, reqD_of, dec_t, dec_f, wrap_i64, wrap_u32, wrap_u64, wrap_u8]
  have l0 : St w0 (LstP F []) w := h0
  refine l0.lit (n := 2) (cells := ([0, 1] : List Nat).map fC) fact_rowTy_58 (by kernel_rfl) (by decide) (by decide) fun v1 w1 k1 => ?_
  obtain ⟨a1, c1, rfl, _⟩ := k1.rowForm v1
  have l1 : St w0 (LstP F [(.slice a1 2 c1, [0, 1])]) w1 := k1
  simp -dsimp -implicitDefEqProofs (disch := omega) only [go_sem, reqD_of, dec_t, dec_f, wrap_i64, wrap_u32, wrap_u64, wrap_u8]
  refine onV_of (v := .agg #[.int .u8 100, .string ⟨#[84, 118, 101, 114, 115, 105, 111, 110]⟩, .slice a1 2 c1]) (by kernel_rfl) ?_
  simp -dsimp -implicitDefEqProofs (disch := omega) only [go_sem, reqD_of, dec_t, dec_f, wrap_i64, wrap_u32, wrap_u64, wrap_u8]
  refine l1.lit (n := 2) (cells := ([0, 1] : List Nat).map fC) fact_rowTy_58 (by kernel_rfl) (by decide) (by decide) fun v3 w2 k2 => ?_
  obtain ⟨a3, c3, rfl, _⟩ := k2.rowForm v3
  have l2 : St w0 (LstP F [(.slice a3 2 c3, [0, 1]), (.slice a1 2 c1, [0, 1])]) w2 := k2
  simp -dsimp -implicitDefEqProofs (disch := omega) only [go_sem, reqD_of, dec_t, dec_f, wrap_i64, wrap_u32, wrap_u64, wrap_u8]
  refine onV_of (v := .agg #[.int .u8 101, .string ⟨#[82, 118, 101, 114, 115, 105, 111, 110]⟩, .slice a3 2 c3]) (by kernel_rfl) ?_
  simp -dsimp -implicitDefEqProofs (disch := omega) only [go_sem, reqD_of, dec_t, dec_f, wrap_i64, wrap_u32, wrap_u64, wrap_u8]
  refine l2.lit (n := 3) (cells := ([2, 3, 4] : List Nat).map fC) fact_rowTy_58 (by kernel_rfl) (by decide) (by decide) fun v5 w3 k3 => ?_
  obtain ⟨a5, c5, rfl, _⟩ := k3.rowForm v5
  have l3 : St w0 (LstP F [(.slice a5 3 c5, [2, 3, 4]), (.slice a3 2 c3, [0, 1]), (.slice a1 2 c1, [0, 1])]) w3 := k3
  simp -dsimp -implicitDefEqProofs (disch := omega) only [go_sem, reqD_of, dec_t, dec_f, wrap_i64, wrap_u32, wrap_u64, wrap_u8]
  refine onV_of (v := .agg #[.int .u8 102, .string ⟨#[84, 97, 117, 116, 104]⟩, .slice a5 3 c5]) (by kernel_rfl) ?_
  simp -dsimp -implicitDefEqProofs (disch := omega) only [go_sem, reqD_of, dec_t, dec_f, wrap_i64, wrap_u32, wrap_u64, wrap_u8]
  refine l3.lit (n := 1) (cells := ([11] : List Nat).map fC) fact_rowTy_58 (by kernel_rfl) (by decide) (by decide) fun v7 w4 k4 => ?_
  obtain ⟨a7, c7, rfl, _⟩ := k4.rowForm v7
  have l4 : St w0 (LstP F [(.slice a7 1 c7, [11]), (.slice a5 3 c5, [2, 3, 4]), (.slice a3 2 c3, [0, 1]), (.slice a1 2 c1, [0, 1])]) w4 := k4
  simp -dsimp -implicitDefEqProofs (disch := omega) only [go_sem, reqD_of, dec_t, dec_f, wrap_i64, wrap_u32, wrap_u64, wrap_u8]
  refine onV_of (v := .agg #[.int .u8 103, .string ⟨#[82, 97, 117, 116, 104]⟩, .slice a7 1 c7]) (by kernel_rfl) ?_
  simp -dsimp -implicitDefEqProofs (disch := omega) only [go_sem, reqD_of, dec_t, dec_f, wrap_i64, wrap_u32, wrap_u64, wrap_u8]
  refine l4.lit (n := 4) (cells := ([7, 2, 3, 4] : List Nat).map fC) fact_rowTy_58 (by kernel_rfl) (by decide) (by decide) fun v9 w5 k5 => ?_
  obtain ⟨a9, c9, rfl, _⟩ := k5.rowForm v9
  have l5 : St w0 (LstP F [(.slice a9 4 c9, [7, 2, 3, 4]), (.slice a7 1 c7, [11]), (.slice a5 3 c5, [2, 3, 4]), (.slice a3 2 c3, [0, 1]), (.slice a1 2 c1, [0, 1])]) w5 := k5
  simp -dsimp -implicitDefEqProofs (disch := omega) only [go_sem, reqD_of, dec_t, dec_f, wrap_i64, wrap_u32, wrap_u64, wrap_u8]
  refine onV_of (v := .agg #[.int .u8 104, .string ⟨#[84, 97, 116, 116, 97, 99, 104]⟩, .slice a9 4 c9]) (by kernel_rfl) ?_
  simp -dsimp -implicitDefEqProofs (disch := omega) only [go_sem, reqD_of, dec_t, dec_f, wrap_i64, wrap_u32, wrap_u64, wrap_u8]
  refine l5.lit (n := 1) (cells := ([11] : List Nat).map fC) fact_rowTy_58 (by kernel_rfl) (by decide) (by decide) fun v11 w6 k6 => ?_
  obtain ⟨a11, c11, rfl, _⟩ := k6.rowForm v11
  have l6 : St w0 (LstP F [(.slice a11 1 c11, [11]), (.slice a9 4 c9, [7, 2, 3, 4]), (.slice a7 1 c7, [11]), (.slice a5 3 c5, [2, 3, 4]), (.slice a3 2 c3, [0, 1]), (.slice a1 2 c1, [0, 1])]) w6 := k6
  simp -dsimp -implicitDefEqProofs (disch := omega) only [go_sem, reqD_of, dec_t, dec_f, wrap_i64, wrap_u32, wrap_u64, wrap_u8]
  refine onV_of (v := .agg #[.int .u8 105, .string ⟨#[82, 97, 116, 116, 97, 99, 104]⟩, .slice a11 1 c11]) (by kernel_rfl) ?_
  simp -dsimp -implicitDefEqProofs (disch := omega) only [go_sem, reqD_of, dec_t, dec_f, wrap_i64, wrap_u32, wrap_u64, wrap_u8]
  refine l6.lit (n := 1) (cells := ([5] : List Nat).map fC) fact_rowTy_58 (by kernel_rfl) (by decide) (by decide) fun v13 w7 k7 => ?_
  obtain ⟨a13, c13, rfl, _⟩ := k7.rowForm v13
  have l7 : St w0 (LstP F [(.slice a13 1 c13, [5]), (.slice a11 1 c11, [11]), (.slice a9 4 c9, [7, 2, 3, 4]), (.slice a7 1 c7, [11]), (.slice a5 3 c5, [2, 3, 4]), (.slice a3 2 c3, [0, 1]), (.slice a1 2 c1, [0, 1])]) w7 := k7
  simp -dsimp -implicitDefEqProofs (disch := omega) only [go_sem, reqD_of, dec_t, dec_f, wrap_i64, wrap_u32, wrap_u64, wrap_u8]
  refine onV_of (v := .agg #[.int .u8 107, .string ⟨#[82, 101, 114, 114, 111, 114]⟩, .slice a13 1 c13]) (by kernel_rfl) ?_
  simp -dsimp -implicitDefEqProofs (disch := omega) only [go_sem, reqD_of, dec_t, dec_f, wrap_i64, wrap_u32, wrap_u64, wrap_u8]
  refine l7.lit (n := 1) (cells := ([6] : List Nat).map fC) fact_rowTy_58 (by kernel_rfl) (by decide) (by decide) fun v15 w8 k8 => ?_
  obtain ⟨a15, c15, rfl, _⟩ := k8.rowForm v15
  have l8 : St w0 (LstP F [(.slice a15 1 c15, [6]), (.slice a13 1 c13, [5]), (.slice a11 1 c11, [11]), (.slice a9 4 c9, [7, 2, 3, 4]), (.slice a7 1 c7, [11]), (.slice a5 3 c5, [2, 3, 4]), (.slice a3 2 c3, [0, 1]), (.slice a1 2 c1, [0, 1])]) w8 := k8
  simp -dsimp -implicitDefEqProofs (disch := omega) only [go_sem, reqD_of, dec_t, dec_f, wrap_i64, wrap_u32, wrap_u64, wrap_u8]
  refine onV_of (v := .agg #[.int .u8 108, .string ⟨#[84, 102, 108, 117, 115, 104]⟩, .slice a15 1 c15]) (by kernel_rfl) ?_
  simp -dsimp -implicitDefEqProofs (disch := omega) only [go_sem, reqD_of, dec_t, dec_f, wrap_i64, wrap_u32, wrap_u64, wrap_u8]
  refine onV_of (v := .agg #[.int .u8 109, .string ⟨#[82, 102, 108, 117, 115, 104]⟩, .slice none 0 0]) (by kernel_rfl) ?_
  simp -dsimp -implicitDefEqProofs (disch := omega) only [go_sem, reqD_of, dec_t, dec_f, wrap_i64, wrap_u32, wrap_u64, wrap_u8]
  refine l8.lit (n := 3) (cells := ([7, 8, 9] : List Nat).map fC) fact_rowTy_58 (by kernel_rfl) (by decide) (by decide) fun v18 w9 k9 => ?_
  obtain ⟨a18, c18, rfl, _⟩ := k9.rowForm v18
  have l9 : St w0 (LstP F [(.slice a18 3 c18, [7, 8, 9]), (.slice a15 1 c15, [6]), (.slice a13 1 c13, [5]), (.slice a11 1 c11, [11]), (.slice a9 4 c9, [7, 2, 3, 4]), (.slice a7 1 c7, [11]), (.slice a5 3 c5, [2, 3, 4]), (.slice a3 2 c3, [0, 1]), (.slice a1 2 c1, [0, 1])]) w9 := k9
  simp -dsimp -implicitDefEqProofs (disch := omega) only [go_sem, reqD_of, dec_t, dec_f, wrap_i64, wrap_u32, wrap_u64, wrap_u8]
  refine onV_of (v := .agg #[.int .u8 110, .string ⟨#[84, 119, 97, 108, 107]⟩, .slice a18 3 c18]) (by kernel_rfl) ?_
  simp -dsimp -implicitDefEqProofs (disch := omega) only [go_sem, reqD_of, dec_t, dec_f, wrap_i64, wrap_u32, wrap_u64, wrap_u8]
  refine l9.lit (n := 1) (cells := ([10] : List Nat).map fC) fact_rowTy_58 (by kernel_rfl) (by decide) (by decide) fun v20 w10 k10 => ?_
  obtain ⟨a20, c20, rfl, _⟩ := k10.rowForm v20
  have l10 : St w0 (LstP F [(.slice a20 1 c20, [10]), (.slice a18 3 c18, [7, 8, 9]), (.slice a15 1 c15, [6]), (.slice a13 1 c13, [5]), (.slice a11 1 c11, [11]), (.slice a9 4 c9, [7, 2, 3, 4]), (.slice a7 1 c7, [11]), (.slice a5 3 c5, [2, 3, 4]), (.slice a3 2 c3, [0, 1]), (.slice a1 2 c1, [0, 1])]) w10 := k10
  simp -dsimp -implicitDefEqProofs (disch := omega) only [go_sem, reqD_of, dec_t, dec_f, wrap_i64, wrap_u32, wrap_u64, wrap_u8]
  refine onV_of (v := .agg #[.int .u8 111, .string ⟨#[82, 119, 97, 108, 107]⟩, .slice a20 1 c20]) (by kernel_rfl) ?_
  simp -dsimp -implicitDefEqProofs (disch := omega) only [go_sem, reqD_of, dec_t, dec_f, wrap_i64, wrap_u32, wrap_u64, wrap_u8]
  refine l10.lit (n := 2) (cells := ([7, 12] : List Nat).map fC) fact_rowTy_58 (by kernel_rfl) (by decide) (by decide) fun v22 w11 k11 => ?_
  obtain ⟨a22, c22, rfl, _⟩ := k11.rowForm v22
  have l11 : St w0 (LstP F [(.slice a22 2 c22, [7, 12]), (.slice a20 1 c20, [10]), (.slice a18 3 c18, [7, 8, 9]), (.slice a15 1 c15, [6]), (.slice a13 1 c13, [5]), (.slice a11 1 c11, [11]), (.slice a9 4 c9, [7, 2, 3, 4]), (.slice a7 1 c7, [11]), (.slice a5 3 c5, [2, 3, 4]), (.slice a3 2 c3, [0, 1]), (.slice a1 2 c1, [0, 1])]) w11 := k11
  simp -dsimp -implicitDefEqProofs (disch := omega) only [go_sem, reqD_of, dec_t, dec_f, wrap_i64, wrap_u32, wrap_u64, wrap_u8]
  refine onV_of (v := .agg #[.int .u8 112, .string ⟨#[84, 111, 112, 101, 110]⟩, .slice a22 2 c22]) (by kernel_rfl) ?_
  simp -dsimp -implicitDefEqProofs (disch := omega) only [go_sem, reqD_of, dec_t, dec_f, wrap_i64, wrap_u32, wrap_u64, wrap_u8]
  refine l11.lit (n := 2) (cells := ([11, 13] : List Nat).map fC) fact_rowTy_58 (by kernel_rfl) (by decide) (by decide) fun v24 w12 k12 => ?_
  obtain ⟨a24, c24, rfl, _⟩ := k12.rowForm v24
  have l12 : St w0 (LstP F [(.slice a24 2 c24, [11, 13]), (.slice a22 2 c22, [7, 12]), (.slice a20 1 c20, [10]), (.slice a18 3 c18, [7, 8, 9]), (.slice a15 1 c15, [6]), (.slice a13 1 c13, [5]), (.slice a11 1 c11, [11]), (.slice a9 4 c9, [7, 2, 3, 4]), (.slice a7 1 c7, [11]), (.slice a5 3 c5, [2, 3, 4]), (.slice a3 2 c3, [0, 1]), (.slice a1 2 c1, [0, 1])]) w12 := k12
  simp -dsimp -implicitDefEqProofs (disch := omega) only [go_sem, reqD_of, dec_t, dec_f, wrap_i64, wrap_u32, wrap_u64, wrap_u8]
  refine onV_of (v := .agg #[.int .u8 113, .string ⟨#[82, 111, 112, 101, 110]⟩, .slice a24 2 c24]) (by kernel_rfl) ?_
  simp -dsimp -implicitDefEqProofs (disch := omega) only [go_sem, reqD_of, dec_t, dec_f, wrap_i64, wrap_u32, wrap_u64, wrap_u8]
  refine l12.lit (n := 4) (cells := ([7, 14, 15, 12] : List Nat).map fC) fact_rowTy_58 (by kernel_rfl) (by decide) (by decide) fun v26 w13 k13 => ?_
  obtain ⟨a26, c26, rfl, _⟩ := k13.rowForm v26
  have l13 : St w0 (LstP F [(.slice a26 4 c26, [7, 14, 15, 12]), (.slice a24 2 c24, [11, 13]), (.slice a22 2 c22, [7, 12]), (.slice a20 1 c20, [10]), (.slice a18 3 c18, [7, 8, 9]), (.slice a15 1 c15, [6]), (.slice a13 1 c13, [5]), (.slice a11 1 c11, [11]), (.slice a9 4 c9, [7, 2, 3, 4]), (.slice a7 1 c7, [11]), (.slice a5 3 c5, [2, 3, 4]), (.slice a3 2 c3, [0, 1]), (.slice a1 2 c1, [0, 1])]) w13 := k13
  simp -dsimp -implicitDefEqProofs (disch := omega) only [go_sem, reqD_of, dec_t, dec_f, wrap_i64, wrap_u32, wrap_u64, wrap_u8]
  refine onV_of (v := .agg #[.int .u8 114, .string ⟨#[84, 99, 114, 101, 97, 116, 101]⟩, .slice a26 4 c26]) (by kernel_rfl) ?_
  simp -dsimp -implicitDefEqProofs (disch := omega) only [go_sem, reqD_of, dec_t, dec_f, wrap_i64, wrap_u32, wrap_u64, wrap_u8]
  refine l13.lit (n := 2) (cells := ([11, 13] : List Nat).map fC) fact_rowTy_58 (by kernel_rfl) (by decide) (by decide) fun v28 w14 k14 => ?_
  obtain ⟨a28, c28, rfl, _⟩ := k14.rowForm v28
  have l14 : St w0 (LstP F [(.slice a28 2 c28, [11, 13]), (.slice a26 4 c26, [7, 14, 15, 12]), (.slice a24 2 c24, [11, 13]), (.slice a22 2 c22, [7, 12]), (.slice a20 1 c20, [10]), (.slice a18 3 c18, [7, 8, 9]), (.slice a15 1 c15, [6]), (.slice a13 1 c13, [5]), (.slice a11 1 c11, [11]), (.slice a9 4 c9, [7, 2, 3, 4]), (.slice a7 1 c7, [11]), (.slice a5 3 c5, [2, 3, 4]), (.slice a3 2 c3, [0, 1]), (.slice a1 2 c1, [0, 1])]) w14 := k14
  simp -dsimp -implicitDefEqProofs (disch := omega) only [go_sem, reqD_of, dec_t, dec_f, wrap_i64, wrap_u32, wrap_u64, wrap_u8]
  refine onV_of (v := .agg #[.int .u8 115, .string ⟨#[82, 99, 114, 101, 97, 116, 101]⟩, .slice a28 2 c28]) (by kernel_rfl) ?_
  simp -dsimp -implicitDefEqProofs (disch := omega) only [go_sem, reqD_of, dec_t, dec_f, wrap_i64, wrap_u32, wrap_u64, wrap_u8]
  refine l14.lit (n := 3) (cells := ([7, 16, 17] : List Nat).map fC) fact_rowTy_58 (by kernel_rfl) (by decide) (by decide) fun v30 w15 k15 => ?_
  obtain ⟨a30, c30, rfl, _⟩ := k15.rowForm v30
  have l15 : St w0 (LstP F [(.slice a30 3 c30, [7, 16, 17]), (.slice a28 2 c28, [11, 13]), (.slice a26 4 c26, [7, 14, 15, 12]), (.slice a24 2 c24, [11, 13]), (.slice a22 2 c22, [7, 12]), (.slice a20 1 c20, [10]), (.slice a18 3 c18, [7, 8, 9]), (.slice a15 1 c15, [6]), (.slice a13 1 c13, [5]), (.slice a11 1 c11, [11]), (.slice a9 4 c9, [7, 2, 3, 4]), (.slice a7 1 c7, [11]), (.slice a5 3 c5, [2, 3, 4]), (.slice a3 2 c3, [0, 1]), (.slice a1 2 c1, [0, 1])]) w15 := k15
  simp -dsimp -implicitDefEqProofs (disch := omega) only [go_sem, reqD_of, dec_t, dec_f, wrap_i64, wrap_u32, wrap_u64, wrap_u8]
  refine onV_of (v := .agg #[.int .u8 116, .string ⟨#[84, 114, 101, 97, 100]⟩, .slice a30 3 c30]) (by kernel_rfl) ?_
  simp -dsimp -implicitDefEqProofs (disch := omega) only [go_sem, reqD_of, dec_t, dec_f, wrap_i64, wrap_u32, wrap_u64, wrap_u8]
  refine l15.lit (n := 1) (cells := ([18] : List Nat).map fC) fact_rowTy_58 (by kernel_rfl) (by decide) (by decide) fun v32 w16 k16 => ?_
  obtain ⟨a32, c32, rfl, _⟩ := k16.rowForm v32
  have l16 : St w0 (LstP F [(.slice a32 1 c32, [18]), (.slice a30 3 c30, [7, 16, 17]), (.slice a28 2 c28, [11, 13]), (.slice a26 4 c26, [7, 14, 15, 12]), (.slice a24 2 c24, [11, 13]), (.slice a22 2 c22, [7, 12]), (.slice a20 1 c20, [10]), (.slice a18 3 c18, [7, 8, 9]), (.slice a15 1 c15, [6]), (.slice a13 1 c13, [5]), (.slice a11 1 c11, [11]), (.slice a9 4 c9, [7, 2, 3, 4]), (.slice a7 1 c7, [11]), (.slice a5 3 c5, [2, 3, 4]), (.slice a3 2 c3, [0, 1]), (.slice a1 2 c1, [0, 1])]) w16 := k16
  simp -dsimp -implicitDefEqProofs (disch := omega) only [go_sem, reqD_of, dec_t, dec_f, wrap_i64, wrap_u32, wrap_u64, wrap_u8]
  refine onV_of (v := .agg #[.int .u8 117, .string ⟨#[82, 114, 101, 97, 100]⟩, .slice a32 1 c32]) (by kernel_rfl) ?_
  simp -dsimp -implicitDefEqProofs (disch := omega) only [go_sem, reqD_of, dec_t, dec_f, wrap_i64, wrap_u32, wrap_u64, wrap_u8]
  refine l16.lit (n := 3) (cells := ([7, 16, 18] : List Nat).map fC) fact_rowTy_58 (by kernel_rfl) (by decide) (by decide) fun v34 w17 k17 => ?_
  obtain ⟨a34, c34, rfl, _⟩ := k17.rowForm v34
  have l17 : St w0 (LstP F [(.slice a34 3 c34, [7, 16, 18]), (.slice a32 1 c32, [18]), (.slice a30 3 c30, [7, 16, 17]), (.slice a28 2 c28, [11, 13]), (.slice a26 4 c26, [7, 14, 15, 12]), (.slice a24 2 c24, [11, 13]), (.slice a22 2 c22, [7, 12]), (.slice a20 1 c20, [10]), (.slice a18 3 c18, [7, 8, 9]), (.slice a15 1 c15, [6]), (.slice a13 1 c13, [5]), (.slice a11 1 c11, [11]), (.slice a9 4 c9, [7, 2, 3, 4]), (.slice a7 1 c7, [11]), (.slice a5 3 c5, [2, 3, 4]), (.slice a3 2 c3, [0, 1]), (.slice a1 2 c1, [0, 1])]) w17 := k17
  simp -dsimp -implicitDefEqProofs (disch := omega) only [go_sem, reqD_of, dec_t, dec_f, wrap_i64, wrap_u32, wrap_u64, wrap_u8]
  refine onV_of (v := .agg #[.int .u8 118, .string ⟨#[84, 119, 114, 105, 116, 101]⟩, .slice a34 3 c34]) (by kernel_rfl) ?_
  simp -dsimp -implicitDefEqProofs (disch := omega) only [go_sem, reqD_of, dec_t, dec_f, wrap_i64, wrap_u32, wrap_u64, wrap_u8]
  refine l17.lit (n := 1) (cells := ([17] : List Nat).map fC) fact_rowTy_58 (by kernel_rfl) (by decide) (by decide) fun v36 w18 k18 => ?_
  obtain ⟨a36, c36, rfl, _⟩ := k18.rowForm v36
  have l18 : St w0 (LstP F [(.slice a36 1 c36, [17]), (.slice a34 3 c34, [7, 16, 18]), (.slice a32 1 c32, [18]), (.slice a30 3 c30, [7, 16, 17]), (.slice a28 2 c28, [11, 13]), (.slice a26 4 c26, [7, 14, 15, 12]), (.slice a24 2 c24, [11, 13]), (.slice a22 2 c22, [7, 12]), (.slice a20 1 c20, [10]), (.slice a18 3 c18, [7, 8, 9]), (.slice a15 1 c15, [6]), (.slice a13 1 c13, [5]), (.slice a11 1 c11, [11]), (.slice a9 4 c9, [7, 2, 3, 4]), (.slice a7 1 c7, [11]), (.slice a5 3 c5, [2, 3, 4]), (.slice a3 2 c3, [0, 1]), (.slice a1 2 c1, [0, 1])]) w18 := k18
  simp -dsimp -implicitDefEqProofs (disch := omega) only [go_sem, reqD_of, dec_t, dec_f, wrap_i64, wrap_u32, wrap_u64, wrap_u8]
  refine onV_of (v := .agg #[.int .u8 119, .string ⟨#[82, 119, 114, 105, 116, 101]⟩, .slice a36 1 c36]) (by kernel_rfl) ?_
  simp -dsimp -implicitDefEqProofs (disch := omega) only [go_sem, reqD_of, dec_t, dec_f, wrap_i64, wrap_u32, wrap_u64, wrap_u8]
  refine l18.lit (n := 1) (cells := ([7] : List Nat).map fC) fact_rowTy_58 (by kernel_rfl) (by decide) (by decide) fun v38 w19 k19 => ?_
  obtain ⟨a38, c38, rfl, _⟩ := k19.rowForm v38
  have l19 : St w0 (LstP F [(.slice a38 1 c38, [7]), (.slice a36 1 c36, [17]), (.slice a34 3 c34, [7, 16, 18]), (.slice a32 1 c32, [18]), (.slice a30 3 c30, [7, 16, 17]), (.slice a28 2 c28, [11, 13]), (.slice a26 4 c26, [7, 14, 15, 12]), (.slice a24 2 c24, [11, 13]), (.slice a22 2 c22, [7, 12]), (.slice a20 1 c20, [10]), (.slice a18 3 c18, [7, 8, 9]), (.slice a15 1 c15, [6]), (.slice a13 1 c13, [5]), (.slice a11 1 c11, [11]), (.slice a9 4 c9, [7, 2, 3, 4]), (.slice a7 1 c7, [11]), (.slice a5 3 c5, [2, 3, 4]), (.slice a3 2 c3, [0, 1]), (.slice a1 2 c1, [0, 1])]) w19 := k19
  simp -dsimp -implicitDefEqProofs (disch := omega) only [go_sem, reqD_of, dec_t, dec_f, wrap_i64, wrap_u32, wrap_u64, wrap_u8]
  refine onV_of (v := .agg #[.int .u8 120, .string ⟨#[84, 99, 108, 117, 110, 107]⟩, .slice a38 1 c38]) (by kernel_rfl) ?_
  simp -dsimp -implicitDefEqProofs (disch := omega) only [go_sem, reqD_of, dec_t, dec_f, wrap_i64, wrap_u32, wrap_u64, wrap_u8]
  refine onV_of (v := .agg #[.int .u8 121, .string ⟨#[82, 99, 108, 117, 110, 107]⟩, .slice none 0 0]) (by kernel_rfl) ?_
  simp -dsimp -implicitDefEqProofs (disch := omega) only [go_sem, reqD_of, dec_t, dec_f, wrap_i64, wrap_u32, wrap_u64, wrap_u8]
  refine l19.lit (n := 1) (cells := ([7] : List Nat).map fC) fact_rowTy_58 (by kernel_rfl) (by decide) (by decide) fun v41 w20 k20 => ?_
  obtain ⟨a41, c41, rfl, _⟩ := k20.rowForm v41
  have l20 : St w0 (LstP F [(.slice a41 1 c41, [7]), (.slice a38 1 c38, [7]), (.slice a36 1 c36, [17]), (.slice a34 3 c34, [7, 16, 18]), (.slice a32 1 c32, [18]), (.slice a30 3 c30, [7, 16, 17]), (.slice a28 2 c28, [11, 13]), (.slice a26 4 c26, [7, 14, 15, 12]), (.slice a24 2 c24, [11, 13]), (.slice a22 2 c22, [7, 12]), (.slice a20 1 c20, [10]), (.slice a18 3 c18, [7, 8, 9]), (.slice a15 1 c15, [6]), (.slice a13 1 c13, [5]), (.slice a11 1 c11, [11]), (.slice a9 4 c9, [7, 2, 3, 4]), (.slice a7 1 c7, [11]), (.slice a5 3 c5, [2, 3, 4]), (.slice a3 2 c3, [0, 1]), (.slice a1 2 c1, [0, 1])]) w20 := k20
  simp -dsimp -implicitDefEqProofs (disch := omega) only [go_sem, reqD_of, dec_t, dec_f, wrap_i64, wrap_u32, wrap_u64, wrap_u8]
  refine onV_of (v := .agg #[.int .u8 122, .string ⟨#[84, 114, 101, 109, 111, 118, 101]⟩, .slice a41 1 c41]) (by kernel_rfl) ?_
  simp -dsimp -implicitDefEqProofs (disch := omega) only [go_sem, reqD_of, dec_t, dec_f, wrap_i64, wrap_u32, wrap_u64, wrap_u8]
  refine onV_of (v := .agg #[.int .u8 123, .string ⟨#[82, 114, 101, 109, 111, 118, 101]⟩, .slice none 0 0]) (by kernel_rfl) ?_
  simp -dsimp -implicitDefEqProofs (disch := omega) only [go_sem, reqD_of, dec_t, dec_f, wrap_i64, wrap_u32, wrap_u64, wrap_u8]
  refine l20.lit (n := 1) (cells := ([7] : List Nat).map fC) fact_rowTy_58 (by kernel_rfl) (by decide) (by decide) fun v44 w21 k21 => ?_
  obtain ⟨a44, c44, rfl, _⟩ := k21.rowForm v44
  have l21 : St w0 (LstP F [(.slice a44 1 c44, [7]), (.slice a41 1 c41, [7]), (.slice a38 1 c38, [7]), (.slice a36 1 c36, [17]), (.slice a34 3 c34, [7, 16, 18]), (.slice a32 1 c32, [18]), (.slice a30 3 c30, [7, 16, 17]), (.slice a28 2 c28, [11, 13]), (.slice a26 4 c26, [7, 14, 15, 12]), (.slice a24 2 c24, [11, 13]), (.slice a22 2 c22, [7, 12]), (.slice a20 1 c20, [10]), (.slice a18 3 c18, [7, 8, 9]), (.slice a15 1 c15, [6]), (.slice a13 1 c13, [5]), (.slice a11 1 c11, [11]), (.slice a9 4 c9, [7, 2, 3, 4]), (.slice a7 1 c7, [11]), (.slice a5 3 c5, [2, 3, 4]), (.slice a3 2 c3, [0, 1]), (.slice a1 2 c1, [0, 1])]) w21 := k21
  simp -dsimp -implicitDefEqProofs (disch := omega) only [go_sem, reqD_of, dec_t, dec_f, wrap_i64, wrap_u32, wrap_u64, wrap_u8]
  refine onV_of (v := .agg #[.int .u8 124, .string ⟨#[84, 115, 116, 97, 116]⟩, .slice a44 1 c44]) (by kernel_rfl) ?_
  simp -dsimp -implicitDefEqProofs (disch := omega) only [go_sem, reqD_of, dec_t, dec_f, wrap_i64, wrap_u32, wrap_u64, wrap_u8]
  refine l21.lit (n := 1) (cells := ([19] : List Nat).map fC) fact_rowTy_58 (by kernel_rfl) (by decide) (by decide) fun v46 w22 k22 => ?_
  obtain ⟨a46, c46, rfl, _⟩ := k22.rowForm v46
  have l22 : St w0 (LstP F [(.slice a46 1 c46, [19]), (.slice a44 1 c44, [7]), (.slice a41 1 c41, [7]), (.slice a38 1 c38, [7]), (.slice a36 1 c36, [17]), (.slice a34 3 c34, [7, 16, 18]), (.slice a32 1 c32, [18]), (.slice a30 3 c30, [7, 16, 17]), (.slice a28 2 c28, [11, 13]), (.slice a26 4 c26, [7, 14, 15, 12]), (.slice a24 2 c24, [11, 13]), (.slice a22 2 c22, [7, 12]), (.slice a20 1 c20, [10]), (.slice a18 3 c18, [7, 8, 9]), (.slice a15 1 c15, [6]), (.slice a13 1 c13, [5]), (.slice a11 1 c11, [11]), (.slice a9 4 c9, [7, 2, 3, 4]), (.slice a7 1 c7, [11]), (.slice a5 3 c5, [2, 3, 4]), (.slice a3 2 c3, [0, 1]), (.slice a1 2 c1, [0, 1])]) w22 := k22
  simp -dsimp -implicitDefEqProofs (disch := omega) only [go_sem, reqD_of, dec_t, dec_f, wrap_i64, wrap_u32, wrap_u64, wrap_u8]
  refine onV_of (v := .agg #[.int .u8 125, .string ⟨#[82, 115, 116, 97, 116]⟩, .slice a46 1 c46]) (by kernel_rfl) ?_
  simp -dsimp -implicitDefEqProofs (disch := omega) only [go_sem, reqD_of, dec_t, dec_f, wrap_i64, wrap_u32, wrap_u64, wrap_u8]
  refine l22.lit (n := 2) (cells := ([7, 19] : List Nat).map fC) fact_rowTy_58 (by kernel_rfl) (by decide) (by decide) fun v48 w23 k23 => ?_
  obtain ⟨a48, c48, rfl, _⟩ := k23.rowForm v48
  have l23 : St w0 (LstP F [(.slice a48 2 c48, [7, 19]), (.slice a46 1 c46, [19]), (.slice a44 1 c44, [7]), (.slice a41 1 c41, [7]), (.slice a38 1 c38, [7]), (.slice a36 1 c36, [17]), (.slice a34 3 c34, [7, 16, 18]), (.slice a32 1 c32, [18]), (.slice a30 3 c30, [7, 16, 17]), (.slice a28 2 c28, [11, 13]), (.slice a26 4 c26, [7, 14, 15, 12]), (.slice a24 2 c24, [11, 13]), (.slice a22 2 c22, [7, 12]), (.slice a20 1 c20, [10]), (.slice a18 3 c18, [7, 8, 9]), (.slice a15 1 c15, [6]), (.slice a13 1 c13, [5]), (.slice a11 1 c11, [11]), (.slice a9 4 c9, [7, 2, 3, 4]), (.slice a7 1 c7, [11]), (.slice a5 3 c5, [2, 3, 4]), (.slice a3 2 c3, [0, 1]), (.slice a1 2 c1, [0, 1])]) w23 := k23
  simp -dsimp -implicitDefEqProofs (disch := omega) only [go_sem, reqD_of, dec_t, dec_f, wrap_i64, wrap_u32, wrap_u64, wrap_u8]
  refine onV_of (v := .agg #[.int .u8 126, .string ⟨#[84, 119, 115, 116, 97, 116]⟩, .slice a48 2 c48]) (by kernel_rfl) ?_
  simp -dsimp -implicitDefEqProofs (disch := omega) only [go_sem, reqD_of, dec_t, dec_f, wrap_i64, wrap_u32, wrap_u64, wrap_u8]
  refine onV_of (v := .agg #[.int .u8 127, .string ⟨#[82, 119, 115, 116, 97, 116]⟩, .slice none 0 0]) (by kernel_rfl) ?_
  simp -dsimp -implicitDefEqProofs (disch := omega) only [go_sem, reqD_of, dec_t, dec_f, wrap_i64, wrap_u32, wrap_u64, wrap_u8]
  obtain ⟨A, hA⟩ : ∃ A, A = LstP F [(.slice a48 2 c48, [7, 19]), (.slice a46 1 c46, [19]), (.slice a44 1 c44, [7]), (.slice a41 1 c41, [7]), (.slice a38 1 c38, [7]), (.slice a36 1 c36, [17]), (.slice a34 3 c34, [7, 16, 18]), (.slice a32 1 c32, [18]), (.slice a30 3 c30, [7, 16, 17]), (.slice a28 2 c28, [11, 13]), (.slice a26 4 c26, [7, 14, 15, 12]), (.slice a24 2 c24, [11, 13]), (.slice a22 2 c22, [7, 12]), (.slice a20 1 c20, [10]), (.slice a18 3 c18, [7, 8, 9]), (.slice a15 1 c15, [6]), (.slice a13 1 c13, [5]), (.slice a11 1 c11, [11]), (.slice a9 4 c9, [7, 2, 3, 4]), (.slice a7 1 c7, [11]), (.slice a5 3 c5, [2, 3, 4]), (.slice a3 2 c3, [0, 1]), (.slice a1 2 c1, [0, 1])] := ⟨_, rfl⟩
  rw [← hA] at l23
  obtain ⟨rows, hrows⟩ : ∃ rows : List KRow, rows = [(100, ⟨#[84, 118, 101, 114, 115, 105, 111, 110]⟩, .slice a1 2 c1), (101, ⟨#[82, 118, 101, 114, 115, 105, 111, 110]⟩, .slice a3 2 c3), (102, ⟨#[84, 97, 117, 116, 104]⟩, .slice a5 3 c5), (103, ⟨#[82, 97, 117, 116, 104]⟩, .slice a7 1 c7), (104, ⟨#[84, 97, 116, 116, 97, 99, 104]⟩, .slice a9 4 c9), (105, ⟨#[82, 97, 116, 116, 97, 99, 104]⟩, .slice a11 1 c11), (107, ⟨#[82, 101, 114, 114, 111, 114]⟩, .slice a13 1 c13), (108, ⟨#[84, 102, 108, 117, 115, 104]⟩, .slice a15 1 c15), (109, ⟨#[82, 102, 108, 117, 115, 104]⟩, .slice none 0 0), (110, ⟨#[84, 119, 97, 108, 107]⟩, .slice a18 3 c18), (111, ⟨#[82, 119, 97, 108, 107]⟩, .slice a20 1 c20), (112, ⟨#[84, 111, 112, 101, 110]⟩, .slice a22 2 c22), (113, ⟨#[82, 111, 112, 101, 110]⟩, .slice a24 2 c24), (114, ⟨#[84, 99, 114, 101, 97, 116, 101]⟩, .slice a26 4 c26), (115, ⟨#[82, 99, 114, 101, 97, 116, 101]⟩, .slice a28 2 c28), (116, ⟨#[84, 114, 101, 97, 100]⟩, .slice a30 3 c30), (117, ⟨#[82, 114, 101, 97, 100]⟩, .slice a32 1 c32), (118, ⟨#[84, 119, 114, 105, 116, 101]⟩, .slice a34 3 c34), (119, ⟨#[82, 119, 114, 105, 116, 101]⟩, .slice a36 1 c36), (120, ⟨#[84, 99, 108, 117, 110, 107]⟩, .slice a38 1 c38), (121, ⟨#[82, 99, 108, 117, 110, 107]⟩, .slice none 0 0), (122, ⟨#[84, 114, 101, 109, 111, 118, 101]⟩, .slice a41 1 c41), (123, ⟨#[82, 114, 101, 109, 111, 118, 101]⟩, .slice none 0 0), (124, ⟨#[84, 115, 116, 97, 116]⟩, .slice a44 1 c44), (125, ⟨#[82, 115, 116, 97, 116]⟩, .slice a46 1 c46), (126, ⟨#[84, 119, 115, 116, 97, 116]⟩, .slice a48 2 c48), (127, ⟨#[82, 119, 115, 116, 97, 116]⟩, .slice none 0 0)] := ⟨_, rfl⟩
  refine l23.lit (n := 27) (cells := rows.flatMap kC) fact_rowTy_89 (by rw [hrows]; kernel_rfl) (by decide) (by decide) fun v w24 hz => ?_
  simp -dsimp -implicitDefEqProofs (disch := omega) only [go_sem, reqD_of, dec_t, dec_f, wrap_i64, wrap_u32, wrap_u64, wrap_u8]
  refine ⟨v, A, rows, by rw [hrows]; rfl, by rw [hA]; exact LstP.rest F _, ?_, hz, rfl⟩
  intro x hx
  rw [hrows] at hx
  rw [hA]
  simp only [List.mem_cons, List.not_mem_nil, or_false] at hx
  rcases hx with rfl | rfl | rfl | rfl | rfl | rfl | rfl | rfl | rfl | rfl | rfl | rfl | rfl | rfl | rfl | rfl | rfl | rfl | rfl | rfl | rfl | rfl | rfl | rfl | rfl | rfl | rfl
  · exact ⟨rfl, [0, 1], rfl, LstP.get (x := (.slice a1 2 c1, [0, 1])) (by simp)⟩
  · exact ⟨rfl, [0, 1], rfl, LstP.get (x := (.slice a3 2 c3, [0, 1])) (by simp)⟩
  · exact ⟨rfl, [2, 3, 4], rfl, LstP.get (x := (.slice a5 3 c5, [2, 3, 4])) (by simp)⟩
  · exact ⟨rfl, [11], rfl, LstP.get (x := (.slice a7 1 c7, [11])) (by simp)⟩
  · exact ⟨rfl, [7, 2, 3, 4], rfl, LstP.get (x := (.slice a9 4 c9, [7, 2, 3, 4])) (by simp)⟩
  · exact ⟨rfl, [11], rfl, LstP.get (x := (.slice a11 1 c11, [11])) (by simp)⟩
  · exact ⟨rfl, [5], rfl, LstP.get (x := (.slice a13 1 c13, [5])) (by simp)⟩
  · exact ⟨rfl, [6], rfl, LstP.get (x := (.slice a15 1 c15, [6])) (by simp)⟩
  · exact ⟨rfl, [], rfl, LstP.no⟩
  · exact ⟨rfl, [7, 8, 9], rfl, LstP.get (x := (.slice a18 3 c18, [7, 8, 9])) (by simp)⟩
  · exact ⟨rfl, [10], rfl, LstP.get (x := (.slice a20 1 c20, [10])) (by simp)⟩
  · exact ⟨rfl, [7, 12], rfl, LstP.get (x := (.slice a22 2 c22, [7, 12])) (by simp)⟩
  · exact ⟨rfl, [11, 13], rfl, LstP.get (x := (.slice a24 2 c24, [11, 13])) (by simp)⟩
  · exact ⟨rfl, [7, 14, 15, 12], rfl, LstP.get (x := (.slice a26 4 c26, [7, 14, 15, 12])) (by simp)⟩
  · exact ⟨rfl, [11, 13], rfl, LstP.get (x := (.slice a28 2 c28, [11, 13])) (by simp)⟩
  · exact ⟨rfl, [7, 16, 17], rfl, LstP.get (x := (.slice a30 3 c30, [7, 16, 17])) (by simp)⟩
  · exact ⟨rfl, [18], rfl, LstP.get (x := (.slice a32 1 c32, [18])) (by simp)⟩
  · exact ⟨rfl, [7, 16, 18], rfl, LstP.get (x := (.slice a34 3 c34, [7, 16, 18])) (by simp)⟩
  · exact ⟨rfl, [17], rfl, LstP.get (x := (.slice a36 1 c36, [17])) (by simp)⟩
  · exact ⟨rfl, [7], rfl, LstP.get (x := (.slice a38 1 c38, [7])) (by simp)⟩
  · exact ⟨rfl, [], rfl, LstP.no⟩
  · exact ⟨rfl, [7], rfl, LstP.get (x := (.slice a41 1 c41, [7])) (by simp)⟩
  · exact ⟨rfl, [], rfl, LstP.no⟩
  · exact ⟨rfl, [7], rfl, LstP.get (x := (.slice a44 1 c44, [7])) (by simp)⟩
  · exact ⟨rfl, [19], rfl, LstP.get (x := (.slice a46 1 c46, [19])) (by simp)⟩
  · exact ⟨rfl, [7, 19], rfl, LstP.get (x := (.slice a48 2 c48, [7, 19])) (by simp)⟩
  · exact ⟨rfl, [], rfl, LstP.no⟩
end
end Go.Proofs.YtmiohkmcnppaeaaGreatDoor

namespace Go.Proofs.YtmiohkmcnppaeaaGreatDoor
open Go
set_option linter.unusedVariables false
set_option linter.unusedSimpArgs false
set_option maxRecDepth 100000

theorem fieldsOf_mem {k : Nat} {fs : List Nat} (h : fieldsOf k = some fs) : k ∈ kNums := by
  by_cases hk : k ∈ kNums
  · exact hk
  · rw [fieldsOf_none hk] at h; cases h
abbrev rowV1 (k : Nat) (nm : ByteArray) (vr : Value) : Value := .agg #[.int .u8 k, .string nm, vr]
section
variable {w0 w : World} {F : HP}
section
attribute [local go_sem] F17.t6_eq F17.t3_eq F17.t7_eq
theorem rowOf_any {k : Nat} (h : St w0 F w) :
    Calls Tryz.prog 17 #[.int .u8 k] w fun e w' => (∃ fs nm vr, fieldsOf k = some fs ∧ isCell vr = true ∧ St w0 (RowO 63 1 vr fs.length (fs.map fC) * F) w' ∧ e = .returned (.tuple #[rowV1 k nm vr, .bool true])) ∨
      (fieldsOf k = none ∧ St w0 F w' ∧ e = .returned (.tuple #[rowV1 0 ⟨#[]⟩ (.slice none 0 0), .bool false])) := by
  refine F17.calls (by simp) ?_
  unfold F17.code
  simp -dsimp -implicitDefEqProofs (disch := omega) only [go_sem, reqD_of, dec_t, dec_f, wrap_i64, wrap_u32, wrap_u64, wrap_u8]
  refine h.new fun T2 w1 h1 => ?_
  simp -dsimp -implicitDefEqProofs (disch := omega) only [go_sem, reqD_of, dec_t, dec_f, wrap_i64, wrap_u32, wrap_u64, wrap_u8]
  refine (kinds_any h1).mono ?_
  rintro e w2 ⟨v, A, rows, hnum, hA, hrow, h2, rfl⟩
  obtain ⟨a, c, rfl, _⟩ := h2.rowForm v
  have hlen : rows.length = 27 := by have := congrArg List.length hnum; simpa [kNums] using this
  simp -dsimp -implicitDefEqProofs (disch := omega) only [go_sem, reqD_of, dec_t, dec_f, wrap_i64, wrap_u32, wrap_u64, wrap_u8]
  refine loop_intro (fun e w' => e.ds = [] ∧ e.ρ 0 = .int .u8 k ∧ e.ρ 2 = .pointer (some ⟨T2, 0, none⟩) ∧ e.ρ 6 = .slice a 27 c ∧ e.ρ 7 = .int .i64 27 ∧ ∃ i : Nat, i ≤ 27 ∧ e.ρ 8 = .int .i64 i ∧ (∀ j, j < i → kNums[j]? ≠ some k) ∧
      St w0 (RowO 60 3 (.slice a 27 c) 27 (rows.flatMap kC) * A) w')
    (fun e _ => match e.ρ 8 with | .int _ i => (27 - i).toNat | _ => 0) ?_ ?_
  · exact ⟨rfl, by simp -dsimp -implicitDefEqProofs only [go_sem], by simp -dsimp -implicitDefEqProofs only [go_sem], by simp -dsimp -implicitDefEqProofs only [go_sem], by simp -dsimp -implicitDefEqProofs only [go_sem], 0, by omega, by simp -dsimp -implicitDefEqProofs only [go_sem], fun j hj => absurd hj (by omega), h2⟩
  clear h h1 h2
  rintro e w ⟨hds, e0, e2, e6, e7, i, hi, e8, hno, h⟩
  by_cases hlt : (i : Int) < 27
  · have hil : i < rows.length := by omega
    obtain ⟨_, a', c', hv, _, hcl⟩ := St.rowsAt (k := 3) (l := rows) (fun _ => rfl) (by decide) (h.ent ((Ent.left _ _).trans (RowO.reads _ _ _ _ _)))
    simp only [Value.slice.injEq, true_and] at hv
    obtain ⟨rfl, rfl⟩ := hv
    obtain ⟨g, o, rfl, _, hc⟩ := hcl i hil
    obtain ⟨x, hx⟩ : ∃ x, x = rows[i] := ⟨_, rfl⟩
    obtain ⟨hxc, fs, hfs, hE⟩ := hrow x (by rw [hx]; exact List.getElem_mem hil)
    rw [← hx] at hc
    have c0 := hc 0 (by decide)
    have c1 := hc 1 (by decide)
    have c2 := hc 2 (by decide)
    simp only [kC, Nat.add_zero, List.getElem?_cons_zero, List.getElem?_cons_succ] at c0 c1 c2
    obtain ⟨xk, xn, xv⟩ := x
    simp only at c0 c1 c2 hxc hfs hE
    have hk : kNums[i]? = some xk := by rw [← hnum, List.getElem?_map, List.getElem?_eq_getElem hil, ← hx]; rfl
    simp -dsimp -implicitDefEqProofs (disch := omega) only [go_sem, reqD_of, dec_t, dec_f, wrap_i64, wrap_u32, wrap_u64, wrap_u8, hds, e0, e2, e6, e7, e8, hlt, c0, c1, c2]
    refine h.new fun X w1 h1 => ?_
    simp -dsimp -implicitDefEqProofs (disch := omega) only [go_sem, reqD_of, dec_t, dec_f, wrap_i64, wrap_u32, wrap_u64, wrap_u8]
    refine h1.stoAll (b := X) (n := 3) (cs := [.int .u8 xk, .string xn, xv]) rfl rfl (fun y hy => by simp only [List.mem_cons, List.not_mem_nil, or_false] at hy; rcases hy with rfl | rfl | rfl <;> first | rfl | exact hxc) fun w2 h2 => ?_
    by_cases hek : xk = k
    · subst hek
      simp -dsimp -implicitDefEqProofs (disch := omega) only [go_sem, reqD_of, dec_t, dec_f, wrap_i64, wrap_u32, wrap_u64, wrap_u8, hds, e0, e2, e6, e7, e8, hlt, h2.cl X]
      have h2 := (h2.ent ((Ent.right _ _).trans ((Ent.right _ _).trans hE))).ac (show _ = Blk T2 (.cells #[.int .u8 0, .string ⟨#[]⟩, .slice none 0 0] 60 (0, 0)) * (RowO 63 1 xv fs.length (fs.map fC) * F) by ac_rfl)
      refine h2.stoAll (b := T2) (n := 3) (cs := [.int .u8 xk, .string xn, xv]) rfl rfl (fun y hy => by simp only [List.mem_cons, List.not_mem_nil, or_false] at hy; rcases hy with rfl | rfl | rfl <;> first | rfl | exact hxc) fun w3 h3 => ?_
      simp -dsimp -implicitDefEqProofs (disch := omega) only [go_sem, reqD_of, dec_t, dec_f, wrap_i64, wrap_u32, wrap_u64, wrap_u8, hds]
      have hr : rowV w3 ⟨T2, 0, none⟩ 3 = some (rowV1 xk xn xv) := h3.rowH T2 3 rfl
      refine resC_2 (a := ⟨T2, 0, none⟩) (v := rowV1 xk xn xv) (by simp -dsimp -implicitDefEqProofs only [go_sem, e2]) (run_loadVar_row fact_aggSz_60 hr) ?_
      exact .inl ⟨fs, xn, xv, hfs, hxc, h3.right, by simp -dsimp -implicitDefEqProofs only [go_sem]⟩
    · have hne : ¬ (xk : Int) = k := by omega
      simp -dsimp -implicitDefEqProofs (disch := omega) only [go_sem, reqD_of, dec_t, dec_f, wrap_i64, wrap_u32, wrap_u64, wrap_u8, hds, e0, e2, e6, e7, e8, hlt, h2.cl X, hne]
      refine ⟨⟨i + 1, by omega, by omega, fun j hj => ?_, h2.right⟩, by omega⟩
      rcases Nat.lt_or_eq_of_le (Nat.le_of_lt_succ hj) with hj | rfl
      · exact hno j hj
      · rw [hk]
        exact fun e => hek (Option.some.inj e)
  · obtain rfl : i = 27 := by omega
    have h := h.ent ((Ent.right _ _).trans hA)
    have hkn : k ∉ kNums := fun hm => by
      obtain ⟨j, hj, he⟩ := List.getElem_of_mem hm
      exact hno j (by simpa [kNums] using hj) (by rw [List.getElem?_eq_getElem hj, he])
    simp -dsimp -implicitDefEqProofs (disch := omega) only [go_sem, reqD_of, dec_t, dec_f, wrap_i64, wrap_u32, wrap_u64, wrap_u8, hds, e0, e2, e6, e7, e8, hlt]
    refine onV_of (v := .agg #[.int .u8 0, .string ⟨#[]⟩, .slice none 0 0]) (by kernel_rfl) ?_
    simp -dsimp -implicitDefEqProofs (disch := omega) only [go_sem, reqD_of, dec_t, dec_f, wrap_i64, wrap_u32, wrap_u64, wrap_u8, e2]
    refine h.stoAll (b := T2) (n := 3) (cs := [.int .u8 0, .string ⟨#[]⟩, .slice none 0 0]) rfl rfl (fun y hy => by simp only [List.mem_cons, List.not_mem_nil, or_false] at hy; rcases hy with rfl | rfl | rfl <;> rfl) fun w3 h3 => ?_
    simp -dsimp -implicitDefEqProofs (disch := omega) only [go_sem, reqD_of, dec_t, dec_f, wrap_i64, wrap_u32, wrap_u64, wrap_u8, hds]
    have hr : rowV w3 ⟨T2, 0, none⟩ 3 = some (rowV1 0 ⟨#[]⟩ (.slice none 0 0)) := h3.rowH T2 3 rfl
    refine resC_2 (a := ⟨T2, 0, none⟩) (v := rowV1 0 ⟨#[]⟩ (.slice none 0 0)) (by simp -dsimp -implicitDefEqProofs only [go_sem, e2]) (run_loadVar_row fact_aggSz_60 hr) ?_
    exact .inr ⟨fieldsOf_none hkn, h3.right, by simp -dsimp -implicitDefEqProofs only [go_sem]⟩
end
end
end Go.Proofs.YtmiohkmcnppaeaaGreatDoor

namespace Go.Proofs.YtmiohkmcnppaeaaGreatDoor
open Go
set_option linter.unusedSimpArgs false
set_option linter.unusedVariables false
set_option maxRecDepth 100000

/-- the cells of a cutter -/
def cutCells (limit : Int) (b0 b1 b2 b3 : Int) (heads : Int) (body : Value) (ever taken : Int) (dead : Bool) (ahead : Int) : Array Value :=
  #[.int .u32 limit, .int .u8 b0, .int .u8 b1, .int .u8 b2, .int .u8 b3, .int .i64 heads, body, .int .i64 ever, .int .i64 taken, .bool dead, .int .i64 ahead]

theorem or_shift (s b k : Nat) (hs : s < 2 ^ k) (hb : b < 256) (hk : k + 8 ≤ 32) :
    IntKind.u32.wrap (BitVec.ofInt IntKind.u32.bits (s : Int) ||| BitVec.ofInt IntKind.u32.bits (IntKind.u32.wrap ((b : Int) * 2 ^ k))).toNat = ((s + 2 ^ k * b : Nat) : Int) := by
  have h2 : 2 ^ k * b < 2 ^ (k + 8) := by rw [Nat.pow_add]; exact Nat.mul_lt_mul_of_pos_left (by omega) (Nat.two_pow_pos k)
  have h3 : 2 ^ (k + 8) ≤ 2 ^ 32 := Nat.pow_le_pow_right (by omega) hk
  have h4 : 2 ^ k ≤ 2 ^ 32 := Nat.pow_le_pow_right (by omega) (by omega)
  have e1 : ((b : Int) * 2 ^ k) = ((2 ^ k * b : Nat) : Int) := by push_cast; rw [Int.mul_comm]
  have hb32 : IntKind.u32.bits = 32 := rfl
  rw [e1, wrap_u32 (n := ((2 ^ k * b : Nat) : Int)) (by omega) (by omega), hb32]
  rw [BitVec.ofInt_natCast, BitVec.ofInt_natCast, BitVec.toNat_or, BitVec.toNat_ofNat, BitVec.toNat_ofNat, Nat.mod_eq_of_lt (by omega), Nat.mod_eq_of_lt (by omega), Nat.or_comm, ← Nat.two_pow_add_eq_or_of_lt hs]
  rw [wrap_u32 (by omega) (by
    have : 2 ^ k * b + s < 2 ^ (k + 8) := by
      rw [Nat.pow_add]
      have : 2 ^ k * b + 2 ^ k ≤ 2 ^ k * 2 ^ 8 := by rw [← Nat.mul_succ]; exact Nat.mul_le_mul_left _ (by omega)
      omega
    omega)]
  omega

theorem or_mul (s b : Int) (k : Nat) (m : Int) (hm : m = ((2 ^ k : Nat) : Int)) (hs : 0 ≤ s) (hs' : s < m) (hb : 0 ≤ b) (hb' : b < 256) (hk : k + 8 ≤ 32) :
    IntKind.u32.wrap ((BitVec.ofInt IntKind.u32.bits s ||| BitVec.ofInt IntKind.u32.bits (b * m)).toNat : Int) = s + b * m := by
  obtain ⟨s, rfl⟩ := Int.eq_ofNat_of_zero_le hs
  obtain ⟨b, rfl⟩ := Int.eq_ofNat_of_zero_le hb
  subst hm
  have h2 : 2 ^ k * b < 2 ^ (k + 8) := by rw [Nat.pow_add]; exact Nat.mul_lt_mul_of_pos_left (by omega) (Nat.two_pow_pos k)
  have h3 : 2 ^ (k + 8) ≤ 2 ^ 32 := Nat.pow_le_pow_right (by omega) hk
  have h := or_shift s b k (by omega) (by omega) hk
  have e1 : ((b : Int) * 2 ^ k) = (b : Int) * ((2 ^ k : Nat) : Int) := by push_cast; rfl
  have e2 : (b : Int) * ((2 ^ k : Nat) : Int) = ((2 ^ k * b : Nat) : Int) := by push_cast; rw [Int.mul_comm]
  rw [e1, wrap_u32 (n := (b : Int) * ((2 ^ k : Nat) : Int)) (by rw [e2]; omega) (by rw [e2]; omega)] at h
  rw [h]
  push_cast
  rw [Int.mul_comm]

/-- What the head of a cutter's hand says. -/
def sizeOf4 (b0 b1 b2 b3 : Int) : Int := b0 + b1 * 256 + b2 * 65536 + b3 * 16777216

section
attribute [local go_sem] F25.t6_eq F25.t4_eq F25.t7_eq
theorem size_any {w0 w : World} {F : HP} {c : Nat} {limit heads ever taken ahead b0 b1 b2 b3 : Int} {body : Value} {dead : Bool} {T : TypeId} (h0 : 0 ≤ b0 ∧ b0 < 256) (h1 : 0 ≤ b1 ∧ b1 < 256) (h2 : 0 ≤ b2 ∧ b2 < 256) (h3 : 0 ≤ b3 ∧ b3 < 256)
    (h : St w0 (Blk c (.cells (cutCells limit b0 b1 b2 b3 heads body ever taken dead ahead) T (0, 0)) * F) w) : Calls Tryz.prog 25 #[.pointer (some ⟨c, 0, none⟩)] w
      fun e w' => w = w' ∧ e = .returned (.int .u32 (sizeOf4 b0 b1 b2 b3)) := by
  have hc := h.cells
  unfold cutCells at hc
  refine F25.calls (by simp) ?_
  unfold F25.code
  simp -dsimp -implicitDefEqProofs only [go_sem, hc, rowV_def, cellsFrom_s, cellsFrom_z]
  refine loop_intro (fun e w' => w = w' ∧ e.ds = [] ∧ e.ρ 9 = .agg #[.int .u8 b0, .int .u8 b1, .int .u8 b2, .int .u8 b3] ∧
    (e.ρ 10 = .int .i64 0 ∧ e.ρ 3 = .int .u32 0 ∨ e.ρ 10 = .int .i64 1 ∧ e.ρ 3 = .int .u32 (0 + b0 * 1) ∨ e.ρ 10 = .int .i64 2 ∧ e.ρ 3 = .int .u32 (0 + b0 * 1 + b1 * 256) ∨
      e.ρ 10 = .int .i64 3 ∧ e.ρ 3 = .int .u32 (0 + b0 * 1 + b1 * 256 + b2 * 65536) ∨ e.ρ 10 = .int .i64 4 ∧ e.ρ 3 = .int .u32 (0 + b0 * 1 + b1 * 256 + b2 * 65536 + b3 * 16777216)))
    (fun e _ => match e.ρ 10 with | .int _ n => (4 - n).toNat | _ => 0) ?_ ?_
  · exact ⟨rfl, rfl, rfl, .inl ⟨rfl, rfl⟩⟩
  · rintro e w' ⟨rfl, hd, h9, h | h | h | h | h⟩ <;> obtain ⟨h10, h3⟩ := h
    · simp -dsimp -implicitDefEqProofs (disch := omega) only [go_sem, reqD_of, dec_t, dec_f, wrap_i64, wrap_u32, wrap_u64, wrap_u8, h9, h10, h3, hd, or_mul 0 b0 0 1]
    · simp -dsimp -implicitDefEqProofs (disch := omega) only [go_sem, reqD_of, dec_t, dec_f, wrap_i64, wrap_u32, wrap_u64, wrap_u8, h9, h10, h3, hd, or_mul (0 + b0 * 1) b1 8 256]
    · simp -dsimp -implicitDefEqProofs (disch := omega) only [go_sem, reqD_of, dec_t, dec_f, wrap_i64, wrap_u32, wrap_u64, wrap_u8, h9, h10, h3, hd, or_mul (0 + b0 * 1 + b1 * 256) b2 16 65536]
    · simp -dsimp -implicitDefEqProofs (disch := omega) only [go_sem, reqD_of, dec_t, dec_f, wrap_i64, wrap_u32, wrap_u64, wrap_u8, h9, h10, h3, hd, or_mul (0 + b0 * 1 + b1 * 256 + b2 * 65536) b3 24 16777216]
    · simp -dsimp -implicitDefEqProofs (disch := omega) only [go_sem, reqD_of, dec_t, dec_f, wrap_i64, wrap_u32, wrap_u64, wrap_u8, h9, h10, h3, hd, sizeOf4]
      omega
/-! ### Cutters -/

/-- A cutter, as its cells and its body's bytes tell it. -/
structure Cut where
  limit : Nat
  b0 : UInt8
  b1 : UInt8
  b2 : UInt8
  b3 : UInt8
  heads : Nat
  body : List UInt8
  ever : Nat
  taken : Nat
  dead : Bool
  ahead : Nat

def Cut.size (m : Cut) : Nat := m.b0.toNat + m.b1.toNat * 256 + m.b2.toNat * 65536 + m.b3.toNat * 16777216

theorem Cut.size_lt (m : Cut) : m.size < 4294967296 := by
  have := m.b0.toNat_lt; have := m.b1.toNat_lt; have := m.b2.toNat_lt; have := m.b3.toNat_lt
  unfold Cut.size
  omega

def Cut.cells (m : Cut) (bv : Value) : Array Value := cutCells m.limit m.b0.toNat m.b1.toNat m.b2.toNat m.b3.toNat m.heads bv m.ever m.taken m.dead m.ahead

/-- The cutter's own memory. -/
def CutP (c : Nat) (m : Cut) : HP := HP.ex fun v => Blk c (.cells (m.cells v) 57 (0, 0)) * Row 5 1 v m.body.length (m.body.map bv)

theorem CutP.open {w0 w : World} {c : Nat} {m : Cut} {F : HP} (h : St w0 (CutP c m * F) w) :
    ∃ a cap, St w0 (Blk c (.cells (m.cells (.slice a m.body.length cap)) 57 (0, 0)) * (Row 5 1 (.slice a m.body.length cap) m.body.length (m.body.map bv) * F)) w := by
  obtain ⟨v, h⟩ := h.exF
  have h' := h.ac (show _ = Row 5 1 v m.body.length (m.body.map bv) * (Blk c (.cells (m.cells v) 57 (0, 0)) * F) by ac_rfl)
  obtain ⟨a, cap, rfl, _⟩ := Row.form h'
  exact ⟨a, cap, h.ac (by ac_rfl)⟩

theorem CutP.shut {w0 w : World} {c : Nat} {m : Cut} {F : HP} {v : Value} (h : St w0 (Blk c (.cells (m.cells v) 57 (0, 0)) * (Row 5 1 v m.body.length (m.body.map bv) * F)) w) : St w0 (CutP c m * F) w :=
  (h.ac (show _ = (Blk c (.cells (m.cells v) 57 (0, 0)) * Row 5 1 v m.body.length (m.body.map bv)) * F by ac_rfl)).ent (Ent.sep (Ent.ex (fun v => Blk c (.cells (m.cells v) 57 (0, 0)) * Row 5 1 v m.body.length (m.body.map bv)) v) (Ent.rfl' F))

def Cut.whole (m : Cut) : Bool := !m.dead && decide (m.heads = 4) && decide (4 + m.body.length = m.size)

theorem size_cut {w0 w : World} {F : HP} {c : Nat} {m : Cut} {v : Value} (h : St w0 (Blk c (.cells (m.cells v) 57 (0, 0)) * F) w) :
    Calls Tryz.prog 25 #[.pointer (some ⟨c, 0, none⟩)] w fun e w' => w = w' ∧ e = .returned (.int .u32 (m.size : Int)) := by
  have u : ∀ b : UInt8, (0 : Int) ≤ b.toNat ∧ (b.toNat : Int) < 256 := fun b => by have := b.toNat_lt; omega
  refine (size_any (u _) (u _) (u _) (u _) h).mono ?_
  rintro e w' ⟨rfl, rfl⟩
  refine ⟨rfl, ?_⟩
  simp only [sizeOf4, Cut.size, Int.natCast_add, Int.natCast_mul]
  rfl

end

theorem whole_any {w0 w : World} {F : HP} {c : Nat} {m : Cut} (h : St w0 (CutP c m * F) w) (hb : m.body.length < 4611686018427387904) :
    Calls Tryz.prog 11 #[.pointer (some ⟨c, 0, none⟩)] w fun e w' => St w0 (CutP c m * F) w' ∧ e = .returned (.bool m.whole) := by
  obtain ⟨a, cap, h1⟩ := CutP.open h
  have h2 := h1.drew
  have hc := h2.cells
  unfold Cut.cells cutCells at hc
  have hs := m.size
  refine F11.calls (by simp) ?_
  unfold F11.code
  by_cases hd : m.dead = true
  · simp -dsimp -implicitDefEqProofs (disch := omega) only [go_sem, reqD_of, dec_t, dec_f, wrap_i64, wrap_u32, wrap_u64, wrap_u8, hc, hd]
    exact ⟨CutP.shut h2, by simp [Cut.whole, hd]⟩
  · have hd' : m.dead = false := by simpa using hd
    by_cases hh : (m.heads : Int) = 4
    · have hz := m.size_lt
      simp -dsimp -implicitDefEqProofs (disch := omega) only [go_sem, reqD_of, dec_t, dec_f, wrap_i64, wrap_u32, wrap_u64, wrap_u8, hc, hd', hh]
      refine (size_cut h2).mono ?_
      rintro e w' ⟨rfl, rfl⟩
      by_cases he : (4 + (m.body.length : Int)) = (m.size : Int)
      · simp -dsimp -implicitDefEqProofs (disch := omega) only [go_sem, reqD_of, dec_t, dec_f, wrap_i64, wrap_u32, wrap_u64, wrap_u8, hc, hd', hh, alive_nil]
        exact ⟨CutP.shut h2, by simp [Cut.whole, hd', show m.heads = 4 by omega, show 4 + m.body.length = m.size by omega]⟩
      · simp -dsimp -implicitDefEqProofs (disch := omega) only [go_sem, reqD_of, dec_t, dec_f, wrap_i64, wrap_u32, wrap_u64, wrap_u8, hc, hd', hh]
        exact ⟨CutP.shut h2, by simp [Cut.whole, hd', show ¬ 4 + m.body.length = m.size by omega]⟩
    · simp -dsimp -implicitDefEqProofs (disch := omega) only [go_sem, reqD_of, dec_t, dec_f, wrap_i64, wrap_u32, wrap_u64, wrap_u8, hc, hd', hh]
      exact ⟨CutP.shut h2, by simp [Cut.whole, show m.heads ≠ 4 by omega]⟩


def okLimit (n : Int) : Bool := decide (7 ≤ n) && decide (n ≤ 65536)
theorem limit_any {w0 w : World} {F : HP} (h : St w0 F w) (n : Int) : Calls Tryz.prog 16 #[.int .u32 n] w fun e w' => St w0 F w' ∧ e = .returned (.bool (okLimit n)) := by
  refine F16.calls (by simp) ?_
  unfold F16.code
  by_cases h1 : 7 ≤ n
  · by_cases h2 : n ≤ 65536
    · simp -dsimp -implicitDefEqProofs (disch := omega) only [go_sem, reqD_of, dec_t, dec_f, wrap_i64, wrap_u32, wrap_u64, wrap_u8]
      exact ⟨h, by simp [okLimit, h1, h2]⟩
    · simp -dsimp -implicitDefEqProofs (disch := omega) only [go_sem, reqD_of, dec_t, dec_f, wrap_i64, wrap_u32, wrap_u64, wrap_u8]
      exact ⟨h, by simp [okLimit, h1, h2]⟩
  · simp -dsimp -implicitDefEqProofs (disch := omega) only [go_sem, reqD_of, dec_t, dec_f, wrap_i64, wrap_u32, wrap_u64, wrap_u8]
    exact ⟨h, by simp [okLimit, h1]⟩

def Cut.new (n : Nat) : Cut := { limit := n, b0 := 0, b1 := 0, b2 := 0, b3 := 0, heads := 0, body := [], ever := 0, taken := 0, dead := false, ahead := 0 }

section
attribute [local go_sem] F5.t3_eq
theorem new_no {w0 w : World} {F : HP} (h : St w0 F w) {n : Int} (hn : okLimit n = false) : Calls Tryz.prog 5 #[.int .u32 n] w fun e w' => St w0 F w' ∧ e = .returned (.pointer none) := by
  refine F5.calls (by simp) ?_
  unfold F5.code
  simp -dsimp -implicitDefEqProofs only [go_sem]
  refine (limit_any h n).mono ?_
  rintro e w' ⟨h1, rfl⟩
  simp -dsimp -implicitDefEqProofs only [go_sem, hn]
  exact h1

theorem new_yes {w0 w : World} {F : HP} (h : St w0 F w) {n : Nat} (hn : okLimit n = true) : Calls Tryz.prog 5 #[.int .u32 n] w fun e w' => ∃ c, St w0 (CutP c (Cut.new n) * F) w' ∧ e = .returned (.pointer (some ⟨c, 0, none⟩)) := by
  refine F5.calls (by simp) ?_
  unfold F5.code
  simp -dsimp -implicitDefEqProofs only [go_sem]
  refine (limit_any h n).mono ?_
  rintro e w' ⟨h1, rfl⟩
  simp -dsimp -implicitDefEqProofs only [go_sem, hn]
  refine onV_of (v := .agg ((Cut.new n).cells (.slice none 0 0))) rfl ?_
  simp -dsimp -implicitDefEqProofs only [go_sem]
  refine h1.new fun c w2 h2 => ?_
  simp -dsimp -implicitDefEqProofs only [go_sem]
  refine ⟨c, ?_, rfl⟩
  exact CutP.shut (v := .slice none 0 0) (h2.ent (Ent.sep (Ent.rfl' _) (Ent.nilRow _ _ _)))


end
end Go.Proofs.YtmiohkmcnppaeaaGreatDoor

namespace Go.Proofs.YtmiohkmcnppaeaaGreatDoor
open Go
set_option linter.unusedSimpArgs false
set_option linter.unusedVariables false
set_option maxRecDepth 100000

def Cut.frame (m : Cut) : List UInt8 := m.b0 :: m.b1 :: m.b2 :: m.b3 :: m.body
def Cut.next (m : Cut) : Cut := { m with heads := 0, body := [], taken := m.taken + 1 }

section
attribute [local go_sem] F13.t3_eq
theorem next_no {w0 w : World} {F : HP} {c : Nat} {m : Cut} (h : St w0 (CutP c m * F) w) (hb : m.body.length < 4611686018427387904) (hw : m.whole = false) :
    Calls Tryz.prog 13 #[.pointer (some ⟨c, 0, none⟩)] w fun e w' => St w0 (CutP c m * F) w' ∧ e = .returned (.tuple #[.slice none 0 0, .bool false]) := by
  refine F13.calls (by simp) ?_
  unfold F13.code
  simp -dsimp -implicitDefEqProofs only [go_sem]
  refine (whole_any h hb).mono ?_
  rintro e w' ⟨h1, rfl⟩
  simp -dsimp -implicitDefEqProofs only [go_sem, hw]
  exact h1

theorem next_yes {w0 w : World} {F : HP} {c : Nat} {m : Cut} (h : St w0 (CutP c m * F) w) (hb : m.body.length < 4294967296) (ht : m.taken < 4611686018427387904) (hw : m.whole = true) :
    Calls Tryz.prog 13 #[.pointer (some ⟨c, 0, none⟩)] w fun e w' => ∃ v, St w0 (CutP c m.next * (Row 5 1 v m.frame.length (m.frame.map bv) * F)) w' ∧ e = .returned (.tuple #[v, .bool true]) := by
  refine F13.calls (by simp) ?_
  unfold F13.code
  simp -dsimp -implicitDefEqProofs only [go_sem]
  refine (whole_any h (by omega)).mono ?_
  rintro e w' ⟨h1, rfl⟩
  obtain ⟨a, cap, h2⟩ := CutP.open h1
  have h3 := h2.drew
  have hc := h3.cells
  unfold Cut.cells cutCells at hc
  simp -dsimp -implicitDefEqProofs (disch := omega) only [go_sem, reqD_of, dec_t, dec_f, wrap_i64, wrap_u32, wrap_u64, wrap_u8, hw, hc]
  have h4 := h3.ent (Ent.nilRow 5 1 _)
  refine h4.append fact_rowTy_28 (m := 4) (news := [bv m.b0, bv m.b1, bv m.b2, bv m.b3]) ?_ (by simp [maxLen]) (by omega) fun v1 w1 h5 => ?_
  · refine Src.ofSlice _ Tryz.underlying28 _ 4 4 _ (by simp) (fun j u hu => ?_) (by simp [bv, Value.oneCell'])
    rw [add_lit, hc]
    match j, hu with
    | 0, hu => simpa [bv] using hu
    | 1, hu => simpa [bv] using hu
    | 2, hu => simpa [bv] using hu
    | 3, hu => simpa [bv] using hu
  have hc1 := h5.sw2.cells
  unfold Cut.cells cutCells at hc1
  simp -dsimp -implicitDefEqProofs (disch := omega) only [go_sem, reqD_of, dec_t, dec_f, wrap_i64, wrap_u32, wrap_u64, wrap_u8, hc1]
  have h6 := h5.sw3
  refine h5.append fact_rowTy_28 ((h6.left.ent (Row.reads _ _ _ _ _)).rd.src Tryz.underlying28 (bv_isCell _) (by simp)) (by simp [maxLen]; omega) (by omega) fun v2 w2 h7 => ?_
  have h7 := h7.sw2
  simp -dsimp -implicitDefEqProofs only [go_sem]
  refine h7.store (arr' := Cut.cells { m with heads := 0 } (.slice a m.body.length cap)) rfl (by simp [Cut.cells, cutCells]) rfl fun w3 h8 => ?_
  simp -dsimp -implicitDefEqProofs only [go_sem]
  refine h8.store (arr' := Cut.cells { m with heads := 0, body := [] } (.slice none 0 0)) rfl (by simp [Cut.cells, cutCells]) rfl fun w4 h9 => ?_
  have hc4 := h9.cells
  unfold Cut.cells cutCells at hc4
  simp -dsimp -implicitDefEqProofs (disch := omega) only [go_sem, reqD_of, dec_t, dec_f, wrap_i64, wrap_u32, wrap_u64, wrap_u8, hc4]
  refine h9.store (arr' := Cut.cells m.next (.slice none 0 0)) rfl (by simp [Cut.cells, cutCells]) rfl fun w5 h10 => ?_
  simp -dsimp -implicitDefEqProofs only [go_sem]
  have e1 : 4 + m.body.length = m.frame.length := by simp [Cut.frame]; omega
  have e2 : [] ++ [bv m.b0, bv m.b1, bv m.b2, bv m.b3] ++ m.body.map bv = m.frame.map bv := by simp [Cut.frame]
  rw [e1, e2] at h10
  exact ⟨v2, CutP.shut (m := m.next) ((h10.drop3).ent (Ent.nilRow _ _ _)).sw2, rfl⟩

/-! ### Feed -/

/-- One byte into a hand that has fewer than four. -/
def Cut.setB (m : Cut) (i : Nat) (x : UInt8) : Cut :=
  match i with
  | 0 => { m with b0 := x }
  | 1 => { m with b1 := x }
  | 2 => { m with b2 := x }
  | _ => { m with b3 := x }

/-- What one byte makes of it, the n-th of a call. -/
def Cut.put (m : Cut) (n : Nat) (x : UInt8) : Cut :=
  if m.heads + 1 = 4 ∧ ((m.setB m.heads x).size < 7 ∨ m.limit < (m.setB m.heads x).size) then
    { m.setB m.heads x with heads := m.heads + 1, dead := true, ahead := m.ever + (n + 1) - 4 }
  else { m.setB m.heads x with heads := m.heads + 1 }

/-- The head's bytes out of a call's, the n-th the next one: how many are taken, and what it has become. -/
def Cut.fill (m : Cut) (n : Nat) : List UInt8 → Nat × Cut
  | [] => (n, m)
  | x :: l => if m.heads < 4 ∧ m.dead = false then (m.put n x).fill (n + 1) l else (n, m)

def Cut.finish (m1 : Cut) (n : Nat) (l : List UInt8) : Nat × Cut :=
  if m1.dead = false ∧ m1.heads = 4 then
    (n + min (l.length - n) (m1.size - 4 - m1.body.length), { m1 with body := m1.body ++ (l.drop n).take (min (l.length - n) (m1.size - 4 - m1.body.length)), ever := m1.ever + (n + min (l.length - n) (m1.size - 4 - m1.body.length)) })
  else (n, { m1 with ever := m1.ever + n })

def Cut.feed (m : Cut) (l : List UInt8) : Nat × Cut := (m.fill 0 l).2.finish (m.fill 0 l).1 l

/-- What a cutter keeps. -/
structure Cut.ok (m : Cut) : Prop where
  heads : m.heads ≤ 4
  few : m.heads < 4 → m.dead = false ∧ m.body = []
  whole : m.heads = 4 → m.dead = false → 7 ≤ m.size ∧ 4 + m.body.length ≤ m.size
  ever : m.ever < 1152921504606846976
  cnt : m.heads ≤ m.ever

end
section
attribute [local go_sem] F12.t3_eq F12.t13_eq F12.t9_eq
theorem feed_tail {w0 w : World} {F : HP} {c : Nat} {m : Cut} {pa : Option Addr} {ca n : Nat} {bs : List UInt8} {e : FA} (h : St w0 (CutP c m * F) w) (hr : Ent F (RdB (.slice pa bs.length ca) bs)) (hn : n ≤ bs.length)
    (hb : m.body.length < 4294967296) (hl : bs.length < 1152921504606846976) (hw : m.heads = 4 → m.dead = false → 4 + m.body.length ≤ m.size) (hev : m.ever < 1152921504606846976)
    (hd : e.ds = []) (e0 : e.ρ 0 = .pointer (some ⟨c, 0, none⟩)) (e1 : e.ρ 1 = .slice pa bs.length ca) (e5 : e.ρ 5 = .int .i64 n) :
    cwE Tryz.prog F12.t9 (fnP Tryz.prog #[.tmp 4] fun e w' => St w0 (CutP c (m.finish n bs).2 * F) w' ∧ e = .returned (.int .i64 (m.finish n bs).1)) e w := by
  obtain ⟨a, cap, h1⟩ := CutP.open h
  have hc := h1.cells
  unfold Cut.cells cutCells at hc
  by_cases hx : m.dead = false ∧ (m.heads : Int) = 4
  · obtain ⟨hdd, hh⟩ := hx
    have h2 := h1.drew
    have hc2 := h2.cells
    unfold Cut.cells cutCells at hc2
    have hz := m.size_lt
    have hw' := hw (by omega) hdd
    obtain ⟨k, hk⟩ : ∃ k, k = min (bs.length - n) (m.size - 4 - m.body.length) := ⟨_, rfl⟩
    have hki : (if (m.size : Int) - 4 - m.body.length < (bs.length : Int) - n then (m.size : Int) - 4 - m.body.length else (bs.length : Int) - n) = k := by split <;> omega
    have hkn : n + k ≤ bs.length := by omega
    obtain ⟨pa', ca', hv, hca, hra⟩ := (h2.right.right.ent hr).bytes
    simp only [Value.slice.injEq, true_and] at hv
    obtain ⟨rfl, rfl⟩ := hv
    simp -dsimp -implicitDefEqProofs (disch := omega) only [go_sem, reqD_of, dec_t, dec_f, wrap_i64, wrap_u32, wrap_u64, wrap_u8, hd, e0, e1, e5, hc, hc2, hdd, hh]
    refine (size_cut h2).mono ?_
    rintro e' w' ⟨rfl, rfl⟩
    have h3 := h2.drew
    have hc3 := h3.cells
    unfold Cut.cells cutCells at hc3
    simp -dsimp -implicitDefEqProofs (disch := omega) only [go_sem, reqD_of, dec_t, dec_f, wrap_i64, wrap_u32, wrap_u64, wrap_u8, hd, e0, e1, e5, hc2, hc3, hki]
    have hsub := (h3.right.right.ent hr).ent (RdB.sub (lo := n) (k := k) hkn)
    have hl2 : ((bs.drop n).take k).length = k := by simp; omega
    have hk2 : ((n : Int) + (k : Int)).toNat - n = k := by omega
    rw [hk2]
    have h4 := h3.sw2
    refine h4.append fact_rowTy_28 (hsub.rd.src Tryz.underlying28 (bv_isCell _) (fun h => by simpa using congrArg List.length h)) (by simp [maxLen]; omega) (by rw [hl2]; omega) fun v2 w2 h5 => ?_
    rw [hl2, ← List.map_append] at h5
    obtain ⟨a2, cap2, rfl, _⟩ := Row.form h5
    have h6 := h5.sw2
    simp -dsimp -implicitDefEqProofs only [go_sem]
    refine h6.store (arr' := Cut.cells { m with body := m.body ++ (bs.drop n).take k } (.slice a2 (m.body.length + k) cap2)) rfl (by simp [Cut.cells, cutCells]) rfl fun w3 h7 => ?_
    have hc7 := h7.cells
    unfold Cut.cells cutCells at hc7
    simp -dsimp -implicitDefEqProofs (disch := omega) only [go_sem, reqD_of, dec_t, dec_f, wrap_i64, wrap_u32, wrap_u64, wrap_u8, hd, e0, e1, e5, hc7, hki]
    refine h7.store (arr' := Cut.cells { m with body := m.body ++ (bs.drop n).take k, ever := m.ever + (n + k) } (.slice a2 (m.body.length + k) cap2)) ?_ (by simp [Cut.cells, cutCells]) rfl fun w4 h8 => ?_
    · simp [Cut.cells, cutCells]
    simp -dsimp -implicitDefEqProofs (disch := omega) only [go_sem, reqD_of, dec_t, dec_f, wrap_i64, wrap_u32, wrap_u64, wrap_u8, hd, e0, e1, e5]
    have hf : m.finish n bs = (n + k, { m with body := m.body ++ (bs.drop n).take k, ever := m.ever + (n + k) }) := by
      simp only [Cut.finish, if_pos (And.intro hdd (show m.heads = 4 by omega)), ← hk]
    rw [hf]
    have : m.body.length + k = (m.body ++ (bs.drop n).take k).length := by simp; omega
    rw [this] at h8
    exact ⟨CutP.shut (m := { m with body := m.body ++ (bs.drop n).take k, ever := m.ever + (n + k) }) h8, by simp⟩
  · have hf : m.finish n bs = (n, { m with ever := m.ever + n }) := by
      simp only [Cut.finish, if_neg (show ¬ (m.dead = false ∧ m.heads = 4) from fun h => hx ⟨h.1, by omega⟩)]
    rw [hf]
    by_cases hdd : m.dead = true
    · simp -dsimp -implicitDefEqProofs (disch := omega) only [go_sem, reqD_of, dec_t, dec_f, wrap_i64, wrap_u32, wrap_u64, wrap_u8, hd, e0, e1, e5, hc, hdd]
      refine h1.store (arr' := Cut.cells { m with ever := m.ever + n } (.slice a m.body.length cap)) ?_ (by simp [Cut.cells, cutCells]) rfl fun w4 h8 => ?_
      · simp [Cut.cells, cutCells]
      simp -dsimp -implicitDefEqProofs (disch := omega) only [go_sem, reqD_of, dec_t, dec_f, wrap_i64, wrap_u32, wrap_u64, wrap_u8, hd, e0, e1, e5]
      exact CutP.shut (m := { m with ever := m.ever + n }) h8
    · have hdd : m.dead = false := by simpa using hdd
      have hh : ¬ (m.heads : Int) = 4 := fun h => hx ⟨hdd, h⟩
      simp -dsimp -implicitDefEqProofs (disch := omega) only [go_sem, reqD_of, dec_t, dec_f, wrap_i64, wrap_u32, wrap_u64, wrap_u8, hd, e0, e1, e5, hc, hdd]
      refine h1.store (arr' := Cut.cells { m with ever := m.ever + n } (.slice a m.body.length cap)) ?_ (by simp [Cut.cells, cutCells]) rfl fun w4 h8 => ?_
      · simp [Cut.cells, cutCells]
      simp -dsimp -implicitDefEqProofs (disch := omega) only [go_sem, reqD_of, dec_t, dec_f, wrap_i64, wrap_u32, wrap_u64, wrap_u8, hd, e0, e1, e5]
      exact CutP.shut (m := { m with ever := m.ever + n }) h8

theorem Cut.cells_setB {m : Cut} (hh : m.heads < 4) (x : UInt8) (v : Value) : (m.cells v).setIfInBounds (1 + m.heads) (bv x) = (m.setB m.heads x).cells v := by
  match h : m.heads, hh with
  | 0, _ => simp [Cut.cells, cutCells, Cut.setB, bv, h]
  | 1, _ => simp [Cut.cells, cutCells, Cut.setB, bv, h]
  | 2, _ => simp [Cut.cells, cutCells, Cut.setB, bv, h]
  | 3, _ => simp [Cut.cells, cutCells, Cut.setB, bv, h]

theorem Cut.setB_rest (m : Cut) (i : Nat) (x : UInt8) : (m.setB i x).heads = m.heads ∧ (m.setB i x).body = m.body ∧ (m.setB i x).ever = m.ever ∧ (m.setB i x).dead = m.dead ∧ (m.setB i x).limit = m.limit ∧ (m.setB i x).taken = m.taken ∧ (m.setB i x).ahead = m.ahead := by
  unfold Cut.setB
  split <;> exact ⟨rfl, rfl, rfl, rfl, rfl, rfl, rfl⟩

/-- A call's first n bytes have made m1 of m. -/
structure Fed (m m1 : Cut) (bs : List UInt8) (n : Nat) : Prop where
  fill : m.fill 0 bs = m1.fill n (bs.drop n)
  heads : m1.heads ≤ 4
  body : m1.body = m.body
  ever : m1.ever = m.ever
  few : m1.heads < 4 → m1.dead = false ∧ m1.body = []
  whole : m1.heads = 4 → m1.dead = false → 4 + m1.body.length ≤ m1.size
  cnt : m1.heads ≤ m1.ever + n

theorem Fed.put {m m1 : Cut} {bs : List UInt8} {n : Nat} (h : Fed m m1 bs n) (hn : n < bs.length) (hh : m1.heads < 4) : Fed m (m1.put n (bs.getD n 0)) bs (n + 1) := by
  obtain ⟨hdd, hb⟩ := h.few hh
  obtain ⟨q1, q2, q3, q4, q5, q6, q7⟩ := m1.setB_rest m1.heads (bs.getD n 0)
  have hfill : m.fill 0 bs = (m1.put n (bs.getD n 0)).fill (n + 1) (bs.drop (n + 1)) := by
    rw [h.fill, List.drop_eq_getElem_cons hn]
    simp only [Cut.fill, if_pos (And.intro hh hdd)]
    congr 2
    simp [List.getElem?_eq_getElem hn]
  have e : ∀ b : UInt8, b.toNat < 256 := fun b => b.toNat_lt
  have hcnt := h.cnt
  refine ⟨hfill, ?_, ?_, ?_, ?_, ?_, ?_⟩ <;> unfold Cut.put <;> simp only
  · split <;> simp only <;> omega
  · split <;> exact q2.trans h.body
  · split <;> exact q3.trans h.ever
  · split
    · rename_i hc; intro hx; simp only at hx hc; omega
    · intro hx; exact ⟨q4.trans hdd, q2.trans hb⟩
  · split
    · intro _ hx; cases hx
    · rename_i hc
      intro hx hdx
      simp only at hc hx ⊢
      rw [q2, hb]
      show 4 + 0 ≤ (m1.setB m1.heads (bs.getD n 0)).size
      omega
  · split <;> simp only <;> omega

end
section
attribute [local go_sem] F12.t3_eq F12.t13_eq
theorem feed_any {w0 w : World} {F : HP} {c : Nat} {m : Cut} {v : Value} {bs : List UInt8} (h : St w0 (CutP c m * F) w) (hr : Ent F (RdB v bs)) (hm : m.ok) (hb : m.body.length < 4294967296) (hl : bs.length < 1152921504606846976) :
    Calls Tryz.prog 12 #[.pointer (some ⟨c, 0, none⟩), v] w fun e w' => St w0 (CutP c (m.feed bs).2 * F) w' ∧ e = .returned (.int .i64 (m.feed bs).1) := by
  obtain ⟨pa, ca, rfl, hca, hra⟩ := (h.right.ent hr).bytes
  refine F12.calls (by simp) ?_
  unfold F12.code
  simp -dsimp -implicitDefEqProofs only [go_sem]
  refine loop_intro (fun e w' => ∃ (n : Nat) (m1 : Cut), e.ds = [] ∧ e.ρ 0 = .pointer (some ⟨c, 0, none⟩) ∧ e.ρ 1 = .slice pa bs.length ca ∧ e.ρ 5 = .int .i64 n ∧ n ≤ bs.length ∧ St w0 (CutP c m1 * F) w' ∧ Fed m m1 bs n)
    (fun e _ => match e.ρ 5 with | .int _ n => (bs.length - n).toNat | _ => 0) ?_ ?_
  · exact ⟨0, m, rfl, rfl, rfl, rfl, by omega, h, rfl, hm.heads, rfl, rfl, hm.few, fun a b => (hm.whole a b).2, hm.cnt⟩
  rintro e w1 ⟨n, m1, hd, e0, e1, e5, hn, h1, hfd⟩
  obtain ⟨a, cap, h2⟩ := CutP.open h1
  have hc := h2.cells
  unfold Cut.cells cutCells at hc
  have hev := hm.ever
  have hev1 := hfd.ever
  have hbd1 := hfd.body
  have hhd1 := hfd.heads
  by_cases hlt : (n : Int) < bs.length
  case neg =>
    have hfin : m.feed bs = m1.finish n bs := by
      have : bs.drop n = [] := by simp; omega
      simp only [Cut.feed, hfd.fill, this, Cut.fill]
    rw [hfin]
    simp -dsimp -implicitDefEqProofs (disch := omega) only [go_sem, reqD_of, dec_t, dec_f, wrap_i64, wrap_u32, wrap_u64, wrap_u8, hd, e0, e1, e5, hc]
    exact feed_tail h1 hr hn (by rw [hbd1]; exact hb) hl hfd.whole (by omega) (by simp -dsimp -implicitDefEqProofs only [go_sem, hd]) (by simp -dsimp -implicitDefEqProofs only [go_sem, e0]) (by simp -dsimp -implicitDefEqProofs only [go_sem, e1]) (by simp -dsimp -implicitDefEqProofs only [go_sem, e5])
  by_cases hh4 : (m1.heads : Int) < 4
  case neg =>
    have hfin : m.feed bs = m1.finish n bs := by
      have : m1.fill n (bs.drop n) = (n, m1) := by
        cases bs.drop n with
        | nil => rfl
        | cons x l => simp only [Cut.fill, if_neg (show ¬ (m1.heads < 4 ∧ m1.dead = false) from fun h => hh4 (by omega))]
      simp only [Cut.feed, hfd.fill, this]
    rw [hfin]
    simp -dsimp -implicitDefEqProofs (disch := omega) only [go_sem, reqD_of, dec_t, dec_f, wrap_i64, wrap_u32, wrap_u64, wrap_u8, hd, e0, e1, e5, hc]
    exact feed_tail h1 hr hn (by rw [hbd1]; exact hb) hl hfd.whole (by omega) (by simp -dsimp -implicitDefEqProofs only [go_sem, hd]) (by simp -dsimp -implicitDefEqProofs only [go_sem, e0]) (by simp -dsimp -implicitDefEqProofs only [go_sem, e1]) (by simp -dsimp -implicitDefEqProofs only [go_sem, e5])
  obtain ⟨hdd, hbn⟩ := hfd.few (by omega)
  have hput := hfd.put (by omega) (by omega)
  have h2d := h2.drew
  have hcd := h2d.cells
  unfold Cut.cells cutCells at hcd
  obtain ⟨pa', ca', hv, _, hra1⟩ := (h2d.right.right.ent hr).bytes
  simp only [Value.slice.injEq, true_and] at hv
  obtain ⟨rfl, rfl⟩ := hv
  rcases hra1 with rfl | ⟨ba, oa, rfl, hra1⟩
  · simp at hlt; omega
  have hx := hra1 n (by omega)
  simp -dsimp -implicitDefEqProofs (disch := omega) only [go_sem, reqD_of, dec_t, dec_f, wrap_i64, wrap_u32, wrap_u64, wrap_u8, hd, e0, e1, e5, hc, hcd, hdd, hx]
  obtain ⟨m2, hm2⟩ : ∃ m2, m2 = m1.setB m1.heads (bs.getD n 0) := ⟨_, rfl⟩
  obtain ⟨q1, q2, q3, q4, q5, q6, q7⟩ := m1.setB_rest m1.heads (bs.getD n 0)
  unfold Cut.put at hput
  rw [← hm2] at q1 q2 q3 q4 q5 q6 q7 hput
  refine h2d.store (arr' := m2.cells (.slice a m1.body.length cap)) (by rw [hm2]; exact Cut.cells_setB (by omega) _ _) (by simp [Cut.cells, cutCells]; omega) rfl fun w2 h3 => ?_
  rw [← q2] at h3
  have hc3 := h3.cells
  unfold Cut.cells cutCells at hc3
  simp -dsimp -implicitDefEqProofs (disch := omega) only [go_sem, reqD_of, dec_t, dec_f, wrap_i64, wrap_u32, wrap_u64, wrap_u8, hd, e0, e1, e5, hc3, q1]
  obtain ⟨m3, hm3⟩ : ∃ m3 : Cut, m3 = { m2 with heads := m1.heads + 1 } := ⟨_, rfl⟩
  simp only at hput
  have r1 : m3.heads = m1.heads + 1 := by rw [hm3]
  have r2 : m3.body = m2.body := by rw [hm3]
  have r3 : m3.ever = m2.ever := by rw [hm3]
  have r4 : m3.dead = m2.dead := by rw [hm3]
  have r5 : m3.limit = m2.limit := by rw [hm3]
  rw [← hm3] at hput
  refine h3.store (arr' := Cut.cells m3 (.slice a m2.body.length cap)) (by rw [hm3]; simp [Cut.cells, cutCells]) (by simp [Cut.cells, cutCells]) rfl fun w3 h4 => ?_
  rw [← r2] at h4
  have h5 := h4.drew
  have hc4 := h4.cells
  have hc5 := h5.cells
  unfold Cut.cells cutCells at hc4 hc5
  have hgo : ∀ (e' : FA) (w' : World), e'.ds = [] → e'.ρ 0 = .pointer (some ⟨c, 0, none⟩) → e'.ρ 1 = .slice (some ⟨ba, oa, none⟩) bs.length ca → e'.ρ 5 = .int .i64 ((n + 1 : Nat) : Int) →
      ∀ m4, St w0 (CutP c m4 * F) w' → Fed m m4 bs (n + 1) → True := fun _ _ _ _ _ _ _ _ _ => trivial
  have hsz : m3.size = m2.size := by rw [hm3]; rfl
  by_cases h3h : (m3.heads : Int) = 4
  case neg =>
    rw [if_neg (by omega)] at hput
    simp -dsimp -implicitDefEqProofs (disch := omega) only [go_sem, reqD_of, dec_t, dec_f, wrap_i64, wrap_u32, wrap_u64, wrap_u8, hd, e0, e1, e5, hc4, hc5, h3h]
    exact ⟨⟨n + 1, m3, rfl, by omega, CutP.shut h5, hput⟩, by omega⟩
  have hcnt := hfd.cnt
  have hah : (m3.ever : Int) + ((n : Int) + 1) - 4 = ((m3.ever + (n + 1) - 4 : Nat) : Int) := by omega
  -- the head is wrong: dead
  have hdead : m3.size < 7 ∨ m3.limit < m3.size → Fed m { m3 with dead := true, ahead := m3.ever + (n + 1) - 4 } bs (n + 1) := by
    intro hx
    rw [if_pos ⟨by omega, by rw [hsz, r5, q5] at hx; exact hx⟩] at hput
    subst hm3
    simp only [q3] at hput ⊢
    exact hput
  have halive : ¬ (m3.size < 7 ∨ m3.limit < m3.size) → Fed m m3 bs (n + 1) := by
    intro hx
    rw [if_neg (fun h => hx (by rw [hsz, r5, q5]; exact h.2))] at hput
    exact hput
  simp -dsimp -implicitDefEqProofs (disch := omega) only [go_sem, reqD_of, dec_t, dec_f, wrap_i64, wrap_u32, wrap_u64, wrap_u8, hd, e0, e1, e5, hc4, hc5, h3h]
  refine (size_cut h5).mono ?_
  rintro e' w' ⟨rfl, rfl⟩
  have hz3 := m3.size_lt
  by_cases hs7 : (m3.size : Int) < 7
  · simp -dsimp -implicitDefEqProofs (disch := omega) only [go_sem, reqD_of, dec_t, dec_f, wrap_i64, wrap_u32, wrap_u64, wrap_u8, hd, e0, e1, e5, hc4, hc5, h3h]
    refine h5.store (arr' := Cut.cells { m3 with dead := true } (.slice a m3.body.length cap)) (by simp [Cut.cells, cutCells]) (by simp [Cut.cells, cutCells]) rfl fun w4 h6 => ?_
    have hc6 := h6.cells
    unfold Cut.cells cutCells at hc6
    simp -dsimp -implicitDefEqProofs (disch := omega) only [go_sem, reqD_of, dec_t, dec_f, wrap_i64, wrap_u32, wrap_u64, wrap_u8, hd, e0, e1, e5, hc6]
    rw [hah]
    refine h6.store (arr' := Cut.cells { m3 with dead := true, ahead := m3.ever + (n + 1) - 4 } (.slice a m3.body.length cap)) (by simp [Cut.cells, cutCells]) (by simp [Cut.cells, cutCells]) rfl fun w5 h7 => ?_
    simp -dsimp -implicitDefEqProofs (disch := omega) only [go_sem, reqD_of, dec_t, dec_f, wrap_i64, wrap_u32, wrap_u64, wrap_u8, hd, e0, e1, e5]
    exact ⟨⟨n + 1, _, rfl, by omega, CutP.shut (m := { m3 with dead := true, ahead := m3.ever + (n + 1) - 4 }) h7, hdead (.inl (by omega))⟩, by omega⟩
  · simp -dsimp -implicitDefEqProofs (disch := omega) only [go_sem, reqD_of, dec_t, dec_f, wrap_i64, wrap_u32, wrap_u64, wrap_u8, hd, e0, e1, e5, hc4, hc5, h3h]
    refine (size_cut h5).mono ?_
    rintro e' w' ⟨rfl, rfl⟩
    by_cases hsl : (m3.limit : Int) < m3.size
    · simp -dsimp -implicitDefEqProofs (disch := omega) only [go_sem, reqD_of, dec_t, dec_f, wrap_i64, wrap_u32, wrap_u64, wrap_u8, hd, e0, e1, e5, hc4, hc5, h3h]
      refine h5.store (arr' := Cut.cells { m3 with dead := true } (.slice a m3.body.length cap)) (by simp [Cut.cells, cutCells]) (by simp [Cut.cells, cutCells]) rfl fun w4 h6 => ?_
      have hc6 := h6.cells
      unfold Cut.cells cutCells at hc6
      simp -dsimp -implicitDefEqProofs (disch := omega) only [go_sem, reqD_of, dec_t, dec_f, wrap_i64, wrap_u32, wrap_u64, wrap_u8, hd, e0, e1, e5, hc6]
      rw [hah]
      refine h6.store (arr' := Cut.cells { m3 with dead := true, ahead := m3.ever + (n + 1) - 4 } (.slice a m3.body.length cap)) (by simp [Cut.cells, cutCells]) (by simp [Cut.cells, cutCells]) rfl fun w5 h7 => ?_
      simp -dsimp -implicitDefEqProofs (disch := omega) only [go_sem, reqD_of, dec_t, dec_f, wrap_i64, wrap_u32, wrap_u64, wrap_u8, hd, e0, e1, e5]
      exact ⟨⟨n + 1, _, rfl, by omega, CutP.shut (m := { m3 with dead := true, ahead := m3.ever + (n + 1) - 4 }) h7, hdead (.inr (by omega))⟩, by omega⟩
    · simp -dsimp -implicitDefEqProofs (disch := omega) only [go_sem, reqD_of, dec_t, dec_f, wrap_i64, wrap_u32, wrap_u64, wrap_u8, hd, e0, e1, e5, hc4, hc5, h3h]
      exact ⟨⟨n + 1, m3, rfl, by omega, CutP.shut h5, halive (by omega)⟩, by omega⟩


end
end Go.Proofs.YtmiohkmcnppaeaaGreatDoor

namespace Go.Proofs.YtmiohkmcnppaeaaGreatDoor
open Go
set_option linter.unusedSimpArgs false
set_option linter.unusedVariables false
set_option maxRecDepth 100000
def size4 (x0 x1 x2 x3 : UInt8) : Nat := x0.toNat + x1.toNat * 256 + x2.toNat * 65536 + x3.toNat * 16777216

def sizeL (l : List UInt8) : Nat := size4 (l.getD 0 0) (l.getD 1 0) (l.getD 2 0) (l.getD 3 0)

/-- The document's cutter. -/
structure RC where
  most : Nat
  hand : List UInt8
  bytes : Nat
  given : Nat
  over : Bool
  place : Nat

def RC.new (n : Nat) : RC := ⟨n, [], 0, 0, false, 0⟩
def RC.whole (r : RC) : Bool := !r.over && decide (4 ≤ r.hand.length) && decide (r.hand.length = sizeL r.hand)
def RC.put (r : RC) (x : UInt8) : RC :=
  if r.hand.length + 1 = 4 ∧ (sizeL (r.hand ++ [x]) < 7 ∨ r.most < sizeL (r.hand ++ [x])) then { r with hand := r.hand ++ [x], bytes := r.bytes + 1, over := true, place := r.bytes + 1 - 4 }
  else { r with hand := r.hand ++ [x], bytes := r.bytes + 1 }
def RC.feed (r : RC) : List UInt8 → Nat × RC
  | [] => (0, r)
  | x :: l => if r.over = false ∧ r.whole = false then (((r.put x).feed l).1 + 1, ((r.put x).feed l).2) else (0, r)

/-- A cutter of the code is as one of the document's. -/
structure Sim (m : Cut) (r : RC) : Prop where
  hand : r.hand = [m.b0, m.b1, m.b2, m.b3].take m.heads ++ m.body
  over : r.over = m.dead
  place : m.dead = true → r.place = m.ahead
  bytes : r.bytes = m.ever
  given : r.given = m.taken
  most : r.most = m.limit

theorem Sim.len {m : Cut} {r : RC} (h : Sim m r) (h4 : m.heads ≤ 4) : r.hand.length = m.heads + m.body.length := by
  rw [h.hand]; simp; omega
theorem Sim.size {m : Cut} {r : RC} (h : Sim m r) (h4 : m.heads = 4) : sizeL r.hand = m.size := by
  rw [h.hand, h4]; rfl
theorem Sim.whole {m : Cut} {r : RC} (h : Sim m r) (h4 : m.heads ≤ 4) (hf : m.heads < 4 → m.body = []) : r.whole = m.whole := by
  unfold RC.whole Cut.whole
  rw [h.over, h.len h4]
  by_cases hh : m.heads = 4
  · rw [h.size hh, hh]; simp
  · have : m.body = [] := hf (by omega)
    simp [this, hh]
    intro _ h; omega

/-- .. while a call feeds it: n bytes have been taken that 'ever' does not tell yet. -/
structure SimN (m : Cut) (r : RC) (n : Nat) : Prop where
  hand : r.hand = [m.b0, m.b1, m.b2, m.b3].take m.heads ++ m.body
  over : r.over = m.dead
  place : m.dead = true → r.place = m.ahead
  bytes : r.bytes = m.ever + n
  given : r.given = m.taken
  most : r.most = m.limit

theorem SimN.put {m : Cut} {r : RC} {n : Nat} (h : SimN m r n) (hh : m.heads < 4) (hb : m.body = []) (hd : m.dead = false) (x : UInt8) : SimN (m.put n x) (r.put x) (n + 1) := by
  obtain ⟨limit, b0, b1, b2, b3, heads, body, ever, taken, dead, ahead⟩ := m
  obtain ⟨most, hand, bytes, given, over, place⟩ := r
  obtain ⟨h1, h2, h3, h4, h5, h6⟩ := h
  simp only at h1 h2 h3 h4 h5 h6 hh hb hd
  subst h1 h2 h4 h5 h6 hb hd
  rcases heads with _ | _ | _ | _ | heads
  · refine ⟨?_, ?_, ?_, ?_, ?_, ?_⟩ <;> simp [Cut.put, RC.put, Cut.setB] <;> omega
  · refine ⟨?_, ?_, ?_, ?_, ?_, ?_⟩ <;> simp [Cut.put, RC.put, Cut.setB] <;> omega
  · refine ⟨?_, ?_, ?_, ?_, ?_, ?_⟩ <;> simp [Cut.put, RC.put, Cut.setB] <;> omega
  · have hs : sizeL ([b0, b1, b2] ++ [x]) = Cut.size ⟨most, b0, b1, b2, x, 3, [], ever, given, false, ahead⟩ := rfl
    by_cases hc : Cut.size ⟨most, b0, b1, b2, x, 3, [], ever, given, false, ahead⟩ < 7 ∨ most < Cut.size ⟨most, b0, b1, b2, x, 3, [], ever, given, false, ahead⟩
    · have e1 : Cut.put ⟨most, b0, b1, b2, b3, 3, [], ever, given, false, ahead⟩ n x = ⟨most, b0, b1, b2, x, 4, [], ever, given, true, ever + (n + 1) - 4⟩ := by
        unfold Cut.put; rw [if_pos ⟨rfl, hc⟩]; rfl
      have e2 : RC.put ⟨most, [b0, b1, b2], ever + n, given, false, place⟩ x = ⟨most, [b0, b1, b2, x], ever + n + 1, given, true, ever + n + 1 - 4⟩ := by
        unfold RC.put; rw [if_pos ⟨rfl, hc⟩]; rfl
      have e0 : [b0, b1, b2, b3].take 3 ++ [] = [b0, b1, b2] := rfl
      simp only [Nat.zero_add, Nat.reduceAdd] at e1 e2 ⊢
      rw [e0, e1, e2]
      exact ⟨rfl, rfl, fun _ => by simp only; omega, by simp only; omega, rfl, rfl⟩
    · have e1 : Cut.put ⟨most, b0, b1, b2, b3, 3, [], ever, given, false, ahead⟩ n x = ⟨most, b0, b1, b2, x, 4, [], ever, given, false, ahead⟩ := by
        unfold Cut.put; rw [if_neg (fun h => hc h.2)]; rfl
      have e2 : RC.put ⟨most, [b0, b1, b2], ever + n, given, false, place⟩ x = ⟨most, [b0, b1, b2, x], ever + n + 1, given, false, place⟩ := by
        unfold RC.put; rw [if_neg (fun h => hc h.2)]; rfl
      have e0 : [b0, b1, b2, b3].take 3 ++ [] = [b0, b1, b2] := rfl
      simp only [Nat.zero_add, Nat.reduceAdd] at e1 e2 ⊢
      rw [e0, e1, e2]
      exact ⟨rfl, rfl, fun h => (by cases h), by simp only; omega, rfl, rfl⟩
  · omega

/-- Bytes behind a head that is right. -/
theorem sizeL_app (l : List UInt8) (h : 4 ≤ l.length) (x : List UInt8) : sizeL (l ++ x) = sizeL l := by
  unfold sizeL
  have : ∀ i, i < 4 → (l ++ x).getD i 0 = l.getD i 0 := fun i hi => by simp [List.getElem?_append_left (show i < l.length by omega)]
  rw [this 0 (by omega), this 1 (by omega), this 2 (by omega), this 3 (by omega)]

theorem RC.feed_body (l : List UInt8) : ∀ (r : RC), r.over = false → 4 ≤ r.hand.length → r.hand.length ≤ sizeL r.hand →
    r.feed l = (min l.length (sizeL r.hand - r.hand.length), { r with hand := r.hand ++ l.take (sizeL r.hand - r.hand.length), bytes := r.bytes + min l.length (sizeL r.hand - r.hand.length) }) := by
  induction l with
  | nil => intro r _ _ _; simp [RC.feed]
  | cons x l ih =>
    intro r ho h4 hs
    by_cases hw : r.hand.length = sizeL r.hand
    · have hw' : r.whole = true := by unfold RC.whole; rw [ho, decide_eq_true h4, decide_eq_true hw]; rfl
      have hz : sizeL r.hand - r.hand.length = 0 := by omega
      rw [RC.feed, if_neg (by rw [hw']; simp), hz]
      simp
    · have hw' : r.whole = false := by unfold RC.whole; rw [decide_eq_false hw]; simp
      have hp : r.put x = { r with hand := r.hand ++ [x], bytes := r.bytes + 1 } := by
        unfold RC.put; rw [if_neg (by omega)]
      have hz := sizeL_app r.hand h4 [x]
      have ih := ih (r.put x) (by rw [hp]; exact ho) (by rw [hp]; simp; omega) (by rw [hp]; simp only [hz, List.length_append, List.length_cons, List.length_nil]; omega)
      rw [RC.feed, if_pos ⟨ho, hw'⟩, ih, hp]
      simp only [hz, List.length_append, List.length_cons, List.length_nil]
      obtain ⟨k, hk⟩ : ∃ k, sizeL r.hand - r.hand.length = k + 1 := ⟨sizeL r.hand - r.hand.length - 1, by omega⟩
      have hk' : sizeL r.hand - (r.hand.length + (0 + 1)) = k := by omega
      rw [hk, hk', List.take_succ_cons, List.append_assoc, List.singleton_append]
      have e1 : min l.length k + 1 = min (l.length + 1) (k + 1) := by omega
      have e2 : r.bytes + 1 + min l.length k = r.bytes + min (l.length + 1) (k + 1) := by omega
      rw [e1, e2]

/-- What stands in a cutter's hand. -/
def Shape (m : Cut) : Prop := m.heads ≤ 4 ∧ (m.heads < 4 → m.body = [])

theorem feed_sim_aux : ∀ (l : List UInt8) (m : Cut) (r : RC) (n : Nat) (bs : List UInt8), SimN m r n → bs.drop n = l → n ≤ bs.length → m.heads ≤ 4 → (m.heads < 4 → m.dead = false ∧ m.body = []) → (m.heads = 4 → m.dead = false → 4 + m.body.length ≤ m.size) →
    n + (r.feed l).1 = ((m.fill n l).2.finish (m.fill n l).1 bs).1 ∧ Sim ((m.fill n l).2.finish (m.fill n l).1 bs).2 (r.feed l).2 ∧ Shape ((m.fill n l).2.finish (m.fill n l).1 bs).2 := by
  have tail : ∀ (l : List UInt8) (m : Cut) (r : RC) (n : Nat) (bs : List UInt8), SimN m r n → bs.drop n = l → n ≤ bs.length → (m.heads < 4 → l = []) → m.heads ≤ 4 → (m.heads < 4 → m.dead = false ∧ m.body = []) → (m.heads = 4 → m.dead = false → 4 + m.body.length ≤ m.size) →
      n + (r.feed l).1 = (m.finish n bs).1 ∧ Sim (m.finish n bs).2 (r.feed l).2 ∧ Shape (m.finish n bs).2 := by
    intro l m r n bs h hl hn hs h4 hf hw
    by_cases hx : m.dead = false ∧ m.heads = 4
    · obtain ⟨hd, hh⟩ := hx
      have hlen : r.hand.length = 4 + m.body.length := by rw [h.hand, hh]; simp; omega
      have hsz : sizeL r.hand = m.size := by rw [h.hand, hh]; rfl
      have hw' := hw hh hd
      rw [RC.feed_body l r (by rw [h.over, hd]) (by omega) (by omega), hsz, hlen]
      unfold Cut.finish
      rw [if_pos ⟨hd, hh⟩]
      have e1 : m.size - (4 + m.body.length) = m.size - 4 - m.body.length := by omega
      have e2 : l.length = bs.length - n := by rw [← hl]; simp
      rw [e1, e2]
      refine ⟨rfl, ⟨?_, h.over, h.place, ?_, h.given, h.most⟩, by simp only [Shape]; omega⟩
      · simp only
        rw [h.hand, hh, hl]
        simp only [List.append_assoc]
        congr 2
        rw [← e2]
        rcases Nat.le_total l.length (m.size - 4 - m.body.length) with hle | hle
        · rw [Nat.min_eq_left hle, List.take_of_length_le (Nat.le_refl _), List.take_of_length_le hle]
        · rw [Nat.min_eq_right hle]
      · simp only; rw [h.bytes]; omega
    · unfold Cut.finish
      rw [if_neg hx]
      have hr : r.feed l = (0, r) := by
        cases l with
        | nil => rfl
        | cons x l =>
          have hh : m.heads = 4 := by
            rcases Nat.lt_or_ge m.heads 4 with hlt | hge
            · cases hs hlt
            · omega
          have hd : m.dead = true := by cases hd : m.dead with
            | true => rfl
            | false => exact (hx ⟨hd, hh⟩).elim
          have : r.over = true := by rw [h.over, hd]
          simp [RC.feed, this]
      rw [hr]
      exact ⟨rfl, ⟨h.hand, h.over, h.place, h.bytes, h.given, h.most⟩, h4, fun hh => (hf hh).2⟩
  intro l
  induction l with
  | nil =>
    intro m r n bs h hl hn h4 hf hw
    exact tail [] m r n bs h hl hn (fun _ => rfl) h4 hf hw
  | cons x l ih =>
    intro m r n bs h hl hn h4 hf hw
    by_cases hx : m.heads < 4 ∧ m.dead = false
    · obtain ⟨hh, hd⟩ := hx
      obtain ⟨_, hb⟩ := hf hh
      have hlt : n < bs.length := by
        rcases Nat.lt_or_ge n bs.length with h | h
        · exact h
        · rw [List.drop_eq_nil_of_le h] at hl; cases hl
      have hl' : bs.drop (n + 1) = l := by
        have := List.drop_eq_getElem_cons hlt
        rw [this] at hl
        simp only [List.cons.injEq] at hl
        exact hl.2
      have hput := h.put hh hb hd x
      obtain ⟨q1, q2, q3, q4, q5, q6, q7⟩ := m.setB_rest m.heads x
      have hover : r.over = false := by rw [h.over, hd]
      have hnw : r.whole = false := by
        have : r.hand.length = m.heads := by rw [h.hand, hb]; simp; omega
        simp [RC.whole, this]; intro _ h5; omega
      simp only [Cut.fill, if_pos (And.intro hh hd), RC.feed, hover, hnw, and_self, if_true]
      have := ih (m.put n x) (r.put x) (n + 1) bs hput hl' (by omega) (by unfold Cut.put; split <;> simp only <;> omega)
        (fun hx4 => by
          unfold Cut.put at hx4 ⊢
          split
          · rename_i hc; rw [if_pos hc] at hx4; simp only at hx4; omega
          · exact ⟨q4.trans hd, q2.trans hb⟩)
        (fun hx4 hxd => by
          unfold Cut.put at hx4 hxd ⊢
          split
          · rename_i hc; rw [if_pos hc] at hxd; cases hxd
          · rename_i hc
            rw [if_neg hc] at hx4
            simp only at hx4 hc ⊢
            rw [q2, hb]
            show 4 + 0 ≤ (m.setB m.heads x).size
            omega)
      refine ⟨?_, this.2⟩
      rw [← this.1]; omega
    · have hfl : m.fill n (x :: l) = (n, m) := by simp only [Cut.fill, if_neg hx]
      rw [hfl]
      refine tail (x :: l) m r n bs h hl hn (fun hh => ?_) h4 hf hw
      exact (hx ⟨hh, (hf hh).1⟩).elim

/-- THE LAW: the code feeds as the document does. -/
theorem feed_sim {m : Cut} {r : RC} (h : Sim m r) (hm : m.ok) (bs : List UInt8) : (m.feed bs).1 = (r.feed bs).1 ∧ Sim (m.feed bs).2 (r.feed bs).2 ∧ Shape (m.feed bs).2 := by
  have := feed_sim_aux bs m r 0 bs ⟨h.hand, h.over, h.place, h.bytes, h.given, h.most⟩ (by simp) (by omega) hm.heads hm.few (fun a b => (hm.whole a b).2)
  unfold Cut.feed
  rw [← this.1]
  exact ⟨by omega, this.2⟩

/-! ### What a call of Feed takes -/

/-- Where a stream stops: behind a whole frame, behind a head that is wrong, at its end. -/
def stop (L : Nat) (t : List UInt8) : Nat := if t.length < 4 then t.length else if sizeL t < 7 ∨ L < sizeL t then 4 else min t.length (sizeL t)

structure RC.ok (r : RC) : Prop where
  most : r.most ≤ 65536
  over : r.over = true → r.hand.length = 4
  good : 4 ≤ r.hand.length → r.over = false → 7 ≤ sizeL r.hand ∧ sizeL r.hand ≤ 65536 ∧ r.hand.length ≤ sizeL r.hand
  bytes : r.bytes < 1152921504606846976
  cnt : r.hand.length + 7 * r.given ≤ r.bytes

/-- A head that is whole was right when it came to be. -/
def RC.fits (r : RC) : Prop := 4 ≤ r.hand.length → sizeL r.hand ≤ r.most

theorem stop_le (L : Nat) (t : List UInt8) : stop L t ≤ t.length := by unfold stop; split <;> (try split) <;> omega

theorem RC.feed_gen (l : List UInt8) : ∀ (r : RC), r.over = false → (4 ≤ r.hand.length → 7 ≤ sizeL r.hand ∧ sizeL r.hand ≤ r.most ∧ r.hand.length ≤ sizeL r.hand) →
    ∃ ov pl, r.feed l = (stop r.most (r.hand ++ l) - r.hand.length, { r with hand := (r.hand ++ l).take (stop r.most (r.hand ++ l)), bytes := r.bytes + (stop r.most (r.hand ++ l) - r.hand.length), over := ov, place := pl }) ∧
      r.hand.length ≤ stop r.most (r.hand ++ l) ∧
      ((ov = true ∧ 4 ≤ (r.hand ++ l).length ∧ (sizeL (r.hand ++ l) < 7 ∨ r.most < sizeL (r.hand ++ l)) ∧ r.hand.length < 4 ∧ pl = r.bytes - r.hand.length + (if r.bytes < r.hand.length then pl - (r.bytes - r.hand.length) else 0)) ∨
       (ov = false ∧ pl = r.place ∧ ((r.hand ++ l).length < 4 ∨ (7 ≤ sizeL (r.hand ++ l) ∧ sizeL (r.hand ++ l) ≤ r.most)))) := by
  induction l with
  | nil =>
    intro r ho hg
    refine ⟨false, r.place, ?_, ?_, .inr ⟨rfl, rfl, ?_⟩⟩
    · have : stop r.most (r.hand ++ []) = r.hand.length := by
        rw [List.append_nil]; unfold stop
        split
        · rfl
        · have := hg (by omega); rw [if_neg (by omega)]; omega
      rw [this]
      simp [RC.feed, ← ho]
    · rw [List.append_nil]; unfold stop
      split
      · omega
      · have := hg (by omega); rw [if_neg (by omega)]; omega
    · rw [List.append_nil]
      by_cases h4 : r.hand.length < 4
      · exact .inl h4
      · have := hg (by omega); exact .inr ⟨this.1, this.2.1⟩
  | cons x l ih =>
    intro r ho hg
    by_cases hw : r.whole = true
    · have hw2 := hw
      simp only [RC.whole, Bool.and_eq_true, decide_eq_true_eq] at hw2
      obtain ⟨⟨_, h4⟩, hs⟩ := hw2
      obtain ⟨g1, g2, g3⟩ := hg h4
      have hz := sizeL_app r.hand h4 (x :: l)
      have hst : stop r.most (r.hand ++ x :: l) = r.hand.length := by
        unfold stop
        rw [if_neg (by simp; omega), if_neg (by omega), hz]
        simp only [List.length_append]; omega
      refine ⟨false, r.place, ?_, by omega, .inr ⟨rfl, rfl, .inr (by omega)⟩⟩
      rw [RC.feed, if_neg (by rw [hw]; simp), hst]
      simp [← ho]
    · have hw' : r.whole = false := by simpa using hw
      have happ : r.hand ++ x :: l = (r.hand ++ [x]) ++ l := by simp
      by_cases hc : r.hand.length + 1 = 4 ∧ (sizeL (r.hand ++ [x]) < 7 ∨ r.most < sizeL (r.hand ++ [x]))
      · have hp : r.put x = { r with hand := r.hand ++ [x], bytes := r.bytes + 1, over := true, place := r.bytes + 1 - 4 } := by unfold RC.put; rw [if_pos hc]
        have hz : sizeL (r.hand ++ x :: l) = sizeL (r.hand ++ [x]) := by rw [happ]; exact sizeL_app _ (by simp; omega) l
        have hst : stop r.most (r.hand ++ x :: l) = 4 := by
          unfold stop
          rw [if_neg (by simp; omega), if_pos (by rw [hz]; exact hc.2)]
        refine ⟨true, r.bytes + 1 - 4, ?_, by omega, .inl ⟨rfl, by simp; omega, by rw [hz]; exact hc.2, by omega, ?_⟩⟩
        · rw [RC.feed, if_pos ⟨ho, hw'⟩, hst, hp]
          have hl : RC.feed { r with hand := r.hand ++ [x], bytes := r.bytes + 1, over := true, place := r.bytes + 1 - 4 } l = (0, { r with hand := r.hand ++ [x], bytes := r.bytes + 1, over := true, place := r.bytes + 1 - 4 }) := by
            cases l <;> simp [RC.feed]
          rw [hl]
          have e1 : (r.hand ++ x :: l).take 4 = r.hand ++ [x] := by
            rw [happ, List.take_append_of_le_length (by simp; omega)]
            exact List.take_of_length_le (by simp; omega)
          rw [e1]
          simp only [Prod.mk.injEq]
          refine ⟨by omega, ?_⟩
          congr 1
          omega
        · split <;> omega
      · have hp : r.put x = { r with hand := r.hand ++ [x], bytes := r.bytes + 1 } := by unfold RC.put; rw [if_neg hc]
        have hg' : 4 ≤ (r.put x).hand.length → 7 ≤ sizeL (r.put x).hand ∧ sizeL (r.put x).hand ≤ (r.put x).most ∧ (r.put x).hand.length ≤ sizeL (r.put x).hand := by
          rw [hp]
          simp only [List.length_append, List.length_cons, List.length_nil]
          intro h4
          by_cases h3 : r.hand.length + 1 = 4
          · have : ¬ (sizeL (r.hand ++ [x]) < 7 ∨ r.most < sizeL (r.hand ++ [x])) := fun h => hc ⟨h3, h⟩
            omega
          · have h5 : 4 ≤ r.hand.length := by omega
            obtain ⟨g1, g2, g3⟩ := hg h5
            have hz := sizeL_app r.hand h5 [x]
            have hne : r.hand.length ≠ sizeL r.hand := fun h => by
              apply hw; unfold RC.whole; rw [ho, decide_eq_true h5, decide_eq_true h]; rfl
            omega
        obtain ⟨ov, pl, e, hle, hor⟩ := ih (r.put x) (by rw [hp]; exact ho) hg'
        rw [hp] at e hle hor
        simp only at e hle hor
        rw [← happ] at e hle hor
        simp only [List.length_append, List.length_cons, List.length_nil] at hle
        refine ⟨ov, pl, ?_, by omega, ?_⟩
        · rw [RC.feed, if_pos ⟨ho, hw'⟩, hp, e]
          simp only [List.length_append, List.length_cons, List.length_nil, Prod.mk.injEq]
          refine ⟨by omega, ?_⟩
          congr 1
          omega
        · rcases hor with ⟨h1, h2, h3, h4, h5⟩ | ⟨h1, h2, h3⟩
          · simp only [List.length_append, List.length_cons, List.length_nil] at h4 h5
            exact .inl ⟨h1, h2, h3, by omega, by split <;> split at h5 <;> omega⟩
          · exact .inr ⟨h1, h2, h3⟩


end Go.Proofs.YtmiohkmcnppaeaaGreatDoor

namespace Go.Proofs.YtmiohkmcnppaeaaGreatDoor
open Go
set_option linter.unusedSimpArgs false
set_option linter.unusedVariables false
set_option maxRecDepth 100000

theorem RC.ok_put {r : RC} (h : r.ok) (ho : r.over = false) (hw : r.whole = false) (x : UInt8) (hb : r.bytes + 1 < 1152921504606846976) : (r.put x).ok := by
  unfold RC.put
  split
  · rename_i hc
    refine ⟨h.most, fun _ => by simp; omega, fun _ hx => (by cases hx), hb, ?_⟩
    have := h.cnt
    simp only [List.length_append, List.length_cons, List.length_nil]; omega
  · rename_i hc
    have hcnt := h.cnt
    refine ⟨h.most, fun hx => ?_, fun h4 _ => ?_, hb, ?_⟩
    · simp only at hx; rw [ho] at hx; cases hx
    · simp only [List.length_append, List.length_cons, List.length_nil] at h4 ⊢
      by_cases h3 : r.hand.length + 1 = 4
      · have : ¬ (sizeL (r.hand ++ [x]) < 7 ∨ r.most < sizeL (r.hand ++ [x])) := fun h => hc ⟨h3, h⟩
        have := h.most
        omega
      · have h5 : 4 ≤ r.hand.length := by omega
        obtain ⟨g1, g2, g3⟩ := h.good h5 ho
        have hz := sizeL_app r.hand h5 [x]
        have hne : r.hand.length ≠ sizeL r.hand := fun h => by
          have : r.whole = true := by unfold RC.whole; rw [ho, decide_eq_true h5, decide_eq_true h]; rfl
          rw [this] at hw; cases hw
        omega
    · simp only [List.length_append, List.length_cons, List.length_nil]; omega

theorem RC.ok_feed : ∀ (l : List UInt8) (r : RC), r.ok → r.bytes + l.length < 1152921504606846976 → (r.feed l).2.ok
  | [], r, h, _ => h
  | x :: l, r, h, hb => by
    rw [RC.feed]
    split
    · rename_i hc
      simp only [List.length_cons] at hb
      refine RC.ok_feed l (r.put x) (RC.ok_put h hc.1 hc.2 x (by omega)) ?_
      have : (r.put x).bytes = r.bytes + 1 := by unfold RC.put; split <;> rfl
      omega
    · exact h

theorem RC.feed_le (l : List UInt8) : ∀ (r : RC), (r.feed l).1 ≤ l.length ∧ (r.feed l).2.bytes = r.bytes + (r.feed l).1 ∧ (r.feed l).2.given = r.given ∧ (r.feed l).2.most = r.most := by
  induction l with
  | nil => intro r; exact ⟨Nat.le_refl _, rfl, rfl, rfl⟩
  | cons x l ih =>
    intro r
    rw [RC.feed]
    split
    · obtain ⟨a, b, c, d⟩ := ih (r.put x)
      have e1 : (r.put x).bytes = r.bytes + 1 := by unfold RC.put; split <;> rfl
      have e2 : (r.put x).given = r.given := by unfold RC.put; split <;> rfl
      have e3 : (r.put x).most = r.most := by unfold RC.put; split <;> rfl
      simp only [List.length_cons]
      exact ⟨by omega, by omega, by omega, by omega⟩
    · exact ⟨by simp, rfl, rfl, rfl⟩

theorem Sim.ok {m : Cut} {r : RC} (h : Sim m r) (hs : Shape m) (ok : r.ok) : m.ok := by
  obtain ⟨s1, s2⟩ := hs
  have hl := h.len s1
  refine ⟨s1, fun hh => ⟨?_, s2 hh⟩, fun hh hd => ?_, by rw [← h.bytes]; exact ok.bytes, ?_⟩
  · cases hd : m.dead with
    | false => rfl
    | true =>
      have := ok.over (by rw [h.over, hd])
      have hb := s2 hh
      rw [hb] at hl; simp at hl; omega
  · have := ok.good (by omega) (by rw [h.over, hd])
    rw [h.size hh] at this
    omega
  · have := ok.cnt
    rw [← h.bytes]; omega

theorem Sim.body_le {m : Cut} {r : RC} (h : Sim m r) (hs : Shape m) (ok : r.ok) : m.body.length ≤ 65536 := by
  obtain ⟨s1, s2⟩ := hs
  have hl := h.len s1
  by_cases hh : m.heads < 4
  · rw [s2 hh]; simp
  · cases hd : m.dead with
    | true => have := ok.over (by rw [h.over, hd]); omega
    | false => have := ok.good (by omega) (by rw [h.over, hd]); omega

/-- The cutter's own memory, in the document's terms. -/
def CutR (c : Nat) (r : RC) : HP := HP.ex fun m => HP.fact (Sim m r ∧ Shape m) (CutP c m)

theorem CutR.open {w0 w : World} {c : Nat} {r : RC} {F : HP} (h : St w0 (CutR c r * F) w) : ∃ m, Sim m r ∧ Shape m ∧ St w0 (CutP c m * F) w := by
  obtain ⟨m, h⟩ := h.exF
  obtain ⟨⟨h1, h2⟩, h⟩ := h.factF
  exact ⟨m, h1, h2, h⟩
theorem CutR.shut {w0 w : World} {c : Nat} {m : Cut} {r : RC} {F : HP} (h : St w0 (CutP c m * F) w) (h1 : Sim m r) (h2 : Shape m) : St w0 (CutR c r * F) w :=
  h.ent (Ent.sep ((Ent.fact ⟨h1, h2⟩ _).trans (Ent.ex (fun m => HP.fact (Sim m r ∧ Shape m) (CutP c m)) m)) (Ent.rfl' F))

theorem RC.ok_new {n : Nat} (hn : okLimit n = true) : (RC.new n).ok := by
  simp [okLimit] at hn
  exact ⟨by simp only [RC.new]; omega, fun h => (by cases h), fun h => (by simp [RC.new] at h), by simp [RC.new], by simp [RC.new]⟩

theorem newR_yes {w0 w : World} {F : HP} (h : St w0 F w) {n : Nat} (hn : okLimit n = true) : Calls Tryz.prog 5 #[.int .u32 n] w fun e w' => ∃ c, St w0 (CutR c (RC.new n) * F) w' ∧ e = .returned (.pointer (some ⟨c, 0, none⟩)) := by
  refine (new_yes h hn).mono ?_
  rintro e w' ⟨c, h1, rfl⟩
  exact ⟨c, CutR.shut h1 ⟨rfl, rfl, fun h => (by cases h), rfl, rfl, rfl⟩ ⟨by simp [Cut.new], fun _ => rfl⟩, rfl⟩

theorem feedR {w0 w : World} {F : HP} {c : Nat} {r : RC} {v : Value} {bs : List UInt8} (h : St w0 (CutR c r * F) w) (hr : Ent F (RdB v bs)) (ok : r.ok) (hl : bs.length < 1152921504606846976) :
    Calls Tryz.prog 12 #[.pointer (some ⟨c, 0, none⟩), v] w fun e w' => St w0 (CutR c (r.feed bs).2 * F) w' ∧ e = .returned (.int .i64 (r.feed bs).1) := by
  obtain ⟨m, h1, h2, h3⟩ := CutR.open h
  have := h1.body_le h2 ok
  refine (feed_any h3 hr (h1.ok h2 ok) (by omega) hl).mono ?_
  rintro e w' ⟨h4, rfl⟩
  obtain ⟨e1, e2, e3⟩ := feed_sim h1 (h1.ok h2 ok) bs
  exact ⟨CutR.shut h4 e2 e3, by rw [e1]⟩

theorem wholeR {w0 w : World} {F : HP} {c : Nat} {r : RC} (h : St w0 (CutR c r * F) w) (ok : r.ok) :
    Calls Tryz.prog 11 #[.pointer (some ⟨c, 0, none⟩)] w fun e w' => St w0 (CutR c r * F) w' ∧ e = .returned (.bool r.whole) := by
  obtain ⟨m, h1, h2, h3⟩ := CutR.open h
  have := h1.body_le h2 ok
  refine (whole_any h3 (by omega)).mono ?_
  rintro e w' ⟨h4, rfl⟩
  exact ⟨CutR.shut h4 h1 h2, by rw [h1.whole h2.1 h2.2]⟩

def RC.next (r : RC) : RC := { r with hand := [], given := r.given + 1 }

theorem RC.ok_next {r : RC} (h : r.ok) (hw : r.whole = true) : r.next.ok := by
  have hw2 := hw
  simp only [RC.whole, Bool.and_eq_true, decide_eq_true_eq, Bool.not_eq_true'] at hw2
  obtain ⟨⟨ho, h4⟩, hs⟩ := hw2
  obtain ⟨g1, g2, g3⟩ := h.good h4 ho
  have hcnt := h.cnt
  refine ⟨h.most, fun hx => ?_, fun hx => (by simp [RC.next] at hx), h.bytes, by simp only [RC.next, List.length_nil]; omega⟩
  simp only [RC.next] at hx; rw [ho] at hx; cases hx

theorem nextR_no {w0 w : World} {F : HP} {c : Nat} {r : RC} (h : St w0 (CutR c r * F) w) (ok : r.ok) (hw : r.whole = false) :
    Calls Tryz.prog 13 #[.pointer (some ⟨c, 0, none⟩)] w fun e w' => St w0 (CutR c r * F) w' ∧ e = .returned (.tuple #[.slice none 0 0, .bool false]) := by
  obtain ⟨m, h1, h2, h3⟩ := CutR.open h
  have := h1.body_le h2 ok
  refine (next_no h3 (by omega) (by rw [← h1.whole h2.1 h2.2]; exact hw)).mono ?_
  rintro e w' ⟨h4, rfl⟩
  exact ⟨CutR.shut h4 h1 h2, rfl⟩

theorem nextR_yes {w0 w : World} {F : HP} {c : Nat} {r : RC} (h : St w0 (CutR c r * F) w) (ok : r.ok) (hw : r.whole = true) :
    Calls Tryz.prog 13 #[.pointer (some ⟨c, 0, none⟩)] w fun e w' => ∃ v, St w0 (CutR c r.next * (Row 5 1 v r.hand.length (r.hand.map bv) * F)) w' ∧ e = .returned (.tuple #[v, .bool true]) := by
  obtain ⟨m, h1, h2, h3⟩ := CutR.open h
  have hb := h1.body_le h2 ok
  have hw1 : m.whole = true := by rw [← h1.whole h2.1 h2.2]; exact hw
  have hh : m.heads = 4 := by simp [Cut.whole] at hw1; exact hw1.1.2
  have hcnt := ok.cnt
  have hby := ok.bytes
  have hgv := h1.given
  refine (next_yes h3 (by omega) (by omega) hw1).mono ?_
  rintro e w' ⟨v, h4, rfl⟩
  have hf : m.frame = r.hand := by rw [h1.hand, hh]; rfl
  rw [hf] at h4
  refine ⟨v, CutR.shut h4 ⟨rfl, h1.over, h1.place, h1.bytes, ?_, h1.most⟩ ⟨by simp [Cut.next], fun _ => rfl⟩, rfl⟩
  simp only [RC.next, Cut.next]; rw [h1.given]


end Go.Proofs.YtmiohkmcnppaeaaGreatDoor

namespace Go.Proofs.YtmiohkmcnppaeaaGreatDoor
open Go
set_option linter.unusedSimpArgs false
set_option linter.unusedVariables false
set_option maxRecDepth 100000
def framesOf (L : Nat) (r : List UInt8) : List (List UInt8) :=
  if h : 4 ≤ r.length ∧ 7 ≤ sizeL r ∧ sizeL r ≤ L ∧ sizeL r ≤ r.length then r.take (sizeL r) :: framesOf L (r.drop (sizeL r)) else []
termination_by r.length
decreasing_by simp; omega

/-- A whole frame at the head of a stream. -/
structure IsFrame (L : Nat) (f : List UInt8) : Prop where
  size : sizeL f = f.length
  low : 7 ≤ f.length
  high : f.length ≤ L

theorem framesOf_app {L : Nat} : ∀ (fs : List (List UInt8)) (rest : List UInt8), (∀ f ∈ fs, IsFrame L f) → framesOf L (fs.flatten ++ rest) = fs ++ framesOf L rest
  | [], rest, _ => by simp
  | f :: fs, rest, h => by
    have hf := h f (by simp)
    have ih := framesOf_app fs rest fun g hg => h g (by simp [hg])
    have e : (f :: fs).flatten ++ rest = f ++ (fs.flatten ++ rest) := by simp
    have hlow := hf.low
    have hhigh := hf.high
    have hz : sizeL (f ++ (fs.flatten ++ rest)) = f.length := by rw [sizeL_app f (by omega), hf.size]
    rw [e, framesOf, dif_pos ⟨by simp; omega, by omega, by omega, by rw [hz]; simp⟩, hz]
    rw [List.take_left, List.drop_left, ih]
    rfl


/-- What a cutter is behind the first 'at' bytes of b, when the frames 'got' have been taken. -/
structure CInv (L : Nat) (b : List UInt8) (got : List (List UInt8)) (at_ : Nat) (r : RC) : Prop where
  le : at_ ≤ b.length
  split : b.take at_ = got.flatten ++ r.hand
  frames : ∀ f ∈ got, IsFrame L f
  most : r.most = L
  given : r.given = got.length
  bytes : r.bytes = at_
  ok : r.ok
  dead : r.over = true → r.hand.length = 4 ∧ (sizeL r.hand < 7 ∨ L < sizeL r.hand) ∧ r.place = got.flatten.length
  live : r.over = false → 4 ≤ r.hand.length → 7 ≤ sizeL r.hand ∧ sizeL r.hand ≤ L ∧ r.hand.length ≤ sizeL r.hand

theorem CInv.new {L : Nat} (hL : okLimit L = true) (b : List UInt8) : CInv L b [] 0 (RC.new L) :=
  ⟨Nat.zero_le _, by simp [RC.new], by simp, rfl, rfl, rfl, RC.ok_new hL, fun h => (by cases h), fun _ h => (by simp [RC.new] at h)⟩

theorem CInv.len {L : Nat} {b : List UInt8} {got : List (List UInt8)} {at_ : Nat} {r : RC} (h : CInv L b got at_ r) : got.flatten.length + r.hand.length = at_ := by
  have := congrArg List.length h.split
  simp only [List.length_take, List.length_append] at this
  have := h.le
  omega

theorem frames_count {L : Nat} : ∀ (fs : List (List UInt8)), (∀ f ∈ fs, IsFrame L f) → 7 * fs.length ≤ fs.flatten.length
  | [], _ => by simp
  | f :: fs, h => by
    have := frames_count fs fun g hg => h g (by simp [hg])
    have := (h f (by simp)).low
    simp only [List.length_cons, List.flatten_cons, List.length_append]
    omega

/-- A chunk is fed. -/
theorem CInv.feed {L : Nat} {b : List UInt8} {got : List (List UInt8)} {at_ n : Nat} {r : RC} (h : CInv L b got at_ r) (hn : at_ + n ≤ b.length) (hb : b.length < 1152921504606846976) :
    (r.feed ((b.drop at_).take n)).1 ≤ n ∧ CInv L b got (at_ + (r.feed ((b.drop at_).take n)).1) (r.feed ((b.drop at_).take n)).2 ∧
      ((r.feed ((b.drop at_).take n)).1 < n → (r.feed ((b.drop at_).take n)).2.whole = false → (r.feed ((b.drop at_).take n)).2.over = true) := by
  have hcl : ((b.drop at_).take n).length = n := by simp; omega
  obtain ⟨c, hc⟩ : ∃ c, c = (b.drop at_).take n := ⟨_, rfl⟩
  rw [← hc] at hcl ⊢
  have hbytes := h.bytes
  have hlen := h.len
  have hok := RC.ok_feed c r h.ok (by omega)
  obtain ⟨f1, f2, f3, f4⟩ := RC.feed_le c r
  cases ho : r.over with
  | true =>
    have hz : r.feed c = (0, r) := by cases c <;> simp [RC.feed, ho]
    rw [hz]
    exact ⟨Nat.zero_le _, h, fun _ _ => ho⟩
  | false =>
    obtain ⟨ov, pl, e, hle, hor⟩ := RC.feed_gen c r ho (by rw [h.most]; exact h.live ho)
    rw [h.most] at e hle hor
    have hsl := stop_le L (r.hand ++ c)
    have htl : (r.hand ++ c).length = r.hand.length + n := by rw [List.length_append, hcl]
    obtain ⟨k, hk⟩ : ∃ k, stop L (r.hand ++ c) = r.hand.length + k := ⟨stop L (r.hand ++ c) - r.hand.length, by omega⟩
    have hhand : (r.hand ++ c).take (stop L (r.hand ++ c)) = r.hand ++ c.take k := by
      rw [hk, List.take_append, List.take_of_length_le (by omega)]
      congr 2; omega
    have hkn : k ≤ n := by omega
    rw [hhand, hk] at e
    simp only [Nat.add_sub_cancel_left] at e
    rw [e] at hok f2 f3 f4 ⊢
    simp only at hok f2 f3 f4 ⊢
    have hz : ∀ j, 4 ≤ r.hand.length + j → j ≤ n → sizeL (r.hand ++ c.take j) = sizeL (r.hand ++ c) := fun j hj hjn => by
      have := sizeL_app (r.hand ++ c.take j) (by simp; omega) (c.drop j)
      rw [List.append_assoc, List.take_append_drop] at this
      exact this.symm
    have hsp : b.take (at_ + k) = got.flatten ++ (r.hand ++ c.take k) := by
      rw [← List.append_assoc, ← h.split, List.take_add, hc, List.take_take, Nat.min_eq_left hkn]
    have hst := hk
    unfold stop at hst
    rw [htl] at hst
    refine ⟨hkn, ⟨by omega, hsp, h.frames, rfl, h.given, by simp only; omega, hok, fun hov => ?_, fun hov h4 => ?_⟩, fun hlt hw => ?_⟩
    · simp only at hov
      rcases hor with ⟨_, g2, g3, g4, g5⟩ | ⟨g1, _⟩
      · rw [htl] at g2
        rw [if_neg (by omega), if_pos g3] at hst
        simp only
        refine ⟨by simp; omega, ?_, ?_⟩
        · rw [hz k (by omega) hkn]; exact g3
        · rw [g5]; split <;> omega
      · rw [hov] at g1; cases g1
    · simp only at hov h4 ⊢
      have hk4 : 4 ≤ r.hand.length + k := by simp at h4; omega
      rw [hz k hk4 hkn]
      rcases hor with ⟨g1, _⟩ | ⟨_, _, g3⟩
      · rw [hov] at g1; cases g1
      · rcases g3 with g3 | ⟨g3, g4⟩
        · rw [htl] at g3; omega
        · refine ⟨g3, g4, ?_⟩
          rw [if_neg (by omega), if_neg (by omega)] at hst
          simp; omega
    · cases hov : ov with
      | true => rfl
      | false =>
        exfalso
        rcases hor with ⟨g1, _⟩ | ⟨_, _, g3⟩
        · rw [hov] at g1; cases g1
        · rcases g3 with g3 | ⟨g3, g4⟩
          · rw [htl] at g3
            rw [if_pos g3] at hst; omega
          · by_cases h5 : r.hand.length + n < 4
            · rw [if_pos h5] at hst; omega
            · rw [if_neg h5, if_neg (by omega)] at hst
              have hsz : r.hand.length + k = sizeL (r.hand ++ c) := by omega
              have : RC.whole { r with most := L, hand := r.hand ++ c.take k, bytes := r.bytes + k, over := ov, place := pl } = true := by
                unfold RC.whole
                simp only [hov, hz k (by omega) hkn]
                have hl : (r.hand ++ c.take k).length = r.hand.length + k := by simp; omega
                rw [hl]
                simp; omega
              rw [this] at hw; cases hw

/-- A frame that is whole is taken. -/
theorem CInv.next {L : Nat} {b : List UInt8} {got : List (List UInt8)} {at_ : Nat} {r : RC} (h : CInv L b got at_ r) (hw : r.whole = true) : CInv L b (got ++ [r.hand]) at_ r.next := by
  have hw2 := hw
  simp only [RC.whole, Bool.and_eq_true, decide_eq_true_eq, Bool.not_eq_true'] at hw2
  obtain ⟨⟨ho, h4⟩, hs⟩ := hw2
  obtain ⟨g1, g2, g3⟩ := h.live ho h4
  refine ⟨h.le, by rw [h.split]; simp [RC.next], ?_, h.most, by simp [RC.next, h.given], h.bytes, RC.ok_next h.ok hw, fun hx => ?_, fun _ hx => by simp [RC.next] at hx⟩
  · intro f hf
    rcases List.mem_append.1 hf with hf | hf
    · exact h.frames f hf
    · simp only [List.mem_singleton] at hf
      subst hf
      exact ⟨hs.symm, by omega, by omega⟩
  · simp only [RC.next] at hx; rw [ho] at hx; cases hx

/-- Where nothing else goes on, all frames have been taken. -/
theorem CInv.done {L : Nat} {b : List UInt8} {got : List (List UInt8)} {at_ : Nat} {r : RC} (h : CInv L b got at_ r) (hw : r.whole = false) (he : at_ = b.length ∨ r.over = true) : framesOf L b = got := by
  have hb : b = got.flatten ++ (r.hand ++ b.drop at_) := by
    have := List.take_append_drop at_ b
    rw [h.split, List.append_assoc] at this
    exact this.symm
  have hnil : framesOf L (r.hand ++ b.drop at_) = [] := by
    cases ho : r.over with
    | true =>
      obtain ⟨d1, d2, _⟩ := h.dead ho
      have hz := sizeL_app r.hand (by omega) (b.drop at_)
      rw [framesOf, dif_neg (by rw [hz]; omega)]
    | false =>
      have hat : at_ = b.length := by rcases he with he | he; exact he; rw [ho] at he; cases he
      have hd : b.drop at_ = [] := by rw [hat]; simp
      rw [hd, List.append_nil]
      by_cases h4 : 4 ≤ r.hand.length
      · obtain ⟨g1, g2, g3⟩ := h.live ho h4
        have hne : r.hand.length ≠ sizeL r.hand := fun hx => by
          have : r.whole = true := by unfold RC.whole; rw [ho, decide_eq_true h4, decide_eq_true hx]; rfl
          rw [this] at hw; cases hw
        rw [framesOf, dif_neg (by omega)]
      · rw [framesOf, dif_neg (by omega)]
  have := framesOf_app got (r.hand ++ b.drop at_) h.frames
  rw [← hb, hnil, List.append_nil] at this
  exact this


end Go.Proofs.YtmiohkmcnppaeaaGreatDoor

namespace Go.Proofs.YtmiohkmcnppaeaaGreatDoor
open Go
set_option linter.unusedVariables false
set_option linter.unusedSimpArgs false
set_option maxRecDepth 100000

theorem CallsV.goY {P : Program} {g : Value} {args : Array Value} {w : World} {Q R : Ending → World → Prop} {θ : Tag (w, R)} (h : CallsV P g args w Q) (hm : ∀ e w', Q e w' → R e w') : callY P g args w R θ := by
  obtain ⟨f, first, cap, rfl, hf, hc⟩ := h
  exact ⟨hf, hc.mono hm⟩
theorem fieldsOf_lt {k : Nat} {fs : List Nat} (h : fieldsOf k = some fs) : (∀ n ∈ fs, n < 20) ∧ (∀ i, i < fs.length → fs[i]? = some 19 → i + 1 = fs.length) ∧ fs.length ≤ 4 := by
  unfold fieldsOf at h
  split at h <;> first | (cases h; decide) | cases h
theorem putA_succ {fs : List Nat} {m : MsgD} {s : WS} {i : Nat} (hi : i < fs.length) : putA (fs.take (i + 1)) m s = putF fs[i] m (putA (fs.take i) m s) := by
  unfold putA
  rw [List.take_succ_eq_append_getElem hi, List.foldl_append, List.foldl_cons, List.foldl_nil]
theorem putF_op {n : Nat} {m : MsgD} {s : WS} (hn : n ≠ 19) : (putF n m s).op = s.op := by
  unfold putF
  rw [if_neg hn, pcsS_op]
/-- The head of a frame. -/
def sM (m : MsgD) : WS := ⟨65536, leN 4 0 ++ (leN 1 m.kind ++ leN 2 m.tag), [], 0⟩
theorem sM_eq (m : MsgD) : rawS (leN 2 m.tag) (rawS (leN 1 m.kind) (rawS (leN 4 0) ⟨65536, [], [], 0⟩)) = sM m := by
  have e1 : rawS (leN 4 0) ⟨65536, [], [], 0⟩ = ⟨65536, leN 4 0, [], 0⟩ := by rw [rawS_ok rfl (by simp [leN])]; rfl
  have e2 : rawS (leN 1 m.kind) ⟨65536, leN 4 0, [], 0⟩ = ⟨65536, leN 4 0 ++ leN 1 m.kind, [], 0⟩ := by rw [rawS_ok rfl (by simp [leN])]
  have e3 : rawS (leN 2 m.tag) ⟨65536, leN 4 0 ++ leN 1 m.kind, [], 0⟩ = sM m := by rw [rawS_ok rfl (by simp [leN])]; simp [sM]
  rw [e1, e2, e3]
theorem sM_len (m : MsgD) : (sM m).b.length = 7 := by simp [sM, leN_length]
theorem sM_ok (m : MsgD) : WOk (sM m) := ⟨by show 65536 ≤ _; decide, by rw [sM_len]; show 7 ≤ 65536; decide, by show 0 ≤ 15; decide⟩
/-- The frame's count, byte by byte. -/
def cntL (n : Nat) (r : List UInt8) : Nat → List UInt8
  | 0 => 0 :: 0 :: 0 :: 0 :: r
  | 1 => UInt8.ofNat (n % 256) :: 0 :: 0 :: 0 :: r
  | 2 => UInt8.ofNat (n % 256) :: UInt8.ofNat (n / 256 % 256) :: 0 :: 0 :: r
  | 3 => UInt8.ofNat (n % 256) :: UInt8.ofNat (n / 256 % 256) :: UInt8.ofNat (n / 256 / 256 % 256) :: 0 :: r
  | _ => leN 4 n ++ r
abbrev EncR (m : MsgD) (F : HP) (w0 : World) (e : Ending) (w' : World) : Prop :=
  match encF m with
  | some b => ∃ v, St w0 (RowO 5 1 v b.length (byR b) * F) w' ∧ e = .returned (.tuple #[v, .int .i64 0])
  | none => ∃ k : Int, k ≠ 0 ∧ St w0 F w' ∧ e = .returned (.tuple #[.slice none 0 0, .int .i64 k])
section
variable {w0 w : World} {F : HP} {W M : Nat} {s : WS} {m : MsgD} {vn vq vd : Value} {fs : List Nat}
theorem St.fldAt {a : Option Addr} {c : Nat} (h : St w0 F w) (hv : Ent F (RowO 63 1 (.slice a fs.length c) fs.length (fs.map fC))) {i : Nat} (hi : i < fs.length) : ∃ g o, a = some ⟨g, o, none⟩ ∧ w.cell? ⟨g, o + i, none⟩ = some (.int .u8 (fs[i] : Nat)) := by
  rw [List.map_eq_flatMap] at hv
  obtain ⟨_, a', c', hv', _, hcl⟩ := St.rowsAt (k := 1) (l := fs) (enc := fun n => [fC n]) (fun _ => rfl) (by decide) (h.ent (hv.trans (RowO.reads _ _ _ _ _)))
  simp only [Value.slice.injEq, true_and] at hv'
  obtain ⟨rfl, rfl⟩ := hv'
  obtain ⟨g, o, rfl, _, hc⟩ := hcl i hi
  have hc := hc 0 (by decide)
  simp only [Nat.mul_one, Nat.add_zero, List.getElem?_cons_zero] at hc
  exact ⟨g, o, rfl, hc⟩
section
attribute [local go_sem] F7.t9_eq F7.t6_eq F7.t20_eq F7.t18_eq F7.t28_eq F7.t26_eq F7.t29_eq F7.t24_eq F7.t21_eq F7.t13_eq F7.t10_eq F7.t4_eq
theorem msg_24 {e : FA} {a : Option Addr} {c n : Nat} {r : List UInt8} {A : HP} {R : Ending → World → Prop} (hn : n = r.length + 4) (hn2 : n ≤ 65536) (hds : e.ds = []) (e12 : e.ρ 12 = .slice a n c)
    (h : St w0 (RowO 5 1 (.slice a n c) n (byR (cntL n r 0)) * A) w)
    (hR : ∀ w', St w0 (RowO 5 1 (.slice a n c) n (byR (leN 4 n ++ r)) * A) w' → R (.returned (.tuple #[.slice a n c, .int .i64 0])) w') :
    cwE Tryz.prog F7.t24 (fnP Tryz.prog #[.tmp 2, .tmp 3] R) e w := by
  rw [F7.t24_eq]
  obtain ⟨g, o, c', hv⟩ := h.rowSome (by omega)
  simp only [Value.slice.injEq, true_and] at hv
  obtain ⟨rfl, rfl⟩ := hv
  simp -dsimp -implicitDefEqProofs (disch := omega) only [go_sem, reqD_of, dec_t, dec_f, wrap_i64, wrap_u32, wrap_u64, wrap_u8]
  refine loop_intro (fun e w' => e.ds = [] ∧ e.ρ 12 = .slice (some ⟨g, o, none⟩) n c ∧ ∃ i : Nat, i ≤ 4 ∧ e.ρ 72 = .int .i64 i ∧ St w0 (RowO 5 1 (.slice (some ⟨g, o, none⟩) n c) n (byR (cntL n r i)) * A) w')
    (fun e _ => match e.ρ 72 with | .int _ i => (4 - i).toNat | _ => 0) ?_ ?_
  · exact ⟨by simp -dsimp -implicitDefEqProofs only [go_sem, hds], by simp -dsimp -implicitDefEqProofs only [go_sem, e12], 0, by omega, by simp -dsimp -implicitDefEqProofs only [go_sem], h⟩
  clear h hds e12
  rintro e w ⟨hds, e12, i, hi, e72, h⟩
  by_cases hlt : (i : Int) < 4
  · have hin : (i : Int) < n := by omega
    have key : ∀ {x : UInt8} {w1 : World}, St w0 (RowO 5 1 (.slice (some ⟨g, o, none⟩) n c) n ((byR (cntL n r i)).set i (bv x)) * A) w1 → (cntL n r i).set i x = cntL n r (i + 1) → St w0 (RowO 5 1 (.slice (some ⟨g, o, none⟩) n c) n (byR (cntL n r (i + 1))) * A) w1 := fun h e => by
      rw [← e]
      simp only [byR, List.map_set] at h ⊢
      exact h
    have hcl : i < (byR (cntL n r i)).length := by
      have : i = 0 ∨ i = 1 ∨ i = 2 ∨ i = 3 := by omega
      rcases this with rfl | rfl | rfl | rfl <;> simp [cntL]
    obtain rfl | rfl | rfl | rfl : i = 0 ∨ i = 1 ∨ i = 2 ∨ i = 3 := by omega
    · simp -dsimp -implicitDefEqProofs (disch := omega) only [go_sem, reqD_of, dec_t, dec_f, wrap_i64, wrap_u32, wrap_u64, wrap_u8, hds, e12, e72, hlt, hin]
      rw [Int.fdiv_one, byte_of]
      refine h.rowSet1 (n := n) (c := c) (k := 0) hcl rfl fun w1 h1 => ?_
      simp -dsimp -implicitDefEqProofs (disch := omega) only [go_sem, reqD_of, dec_t, dec_f, wrap_i64, wrap_u32, wrap_u64, wrap_u8, hds, e12, e72]
      exact ⟨1, by decide, rfl, key h1 rfl⟩
    · simp -dsimp -implicitDefEqProofs (disch := omega) only [go_sem, reqD_of, dec_t, dec_f, wrap_i64, wrap_u32, wrap_u64, wrap_u8, hds, e12, e72, hlt, hin]
      rw [shr8, byte_of]
      refine h.rowSet1 (n := n) (c := c) (k := 1) hcl rfl fun w1 h1 => ?_
      simp -dsimp -implicitDefEqProofs (disch := omega) only [go_sem, reqD_of, dec_t, dec_f, wrap_i64, wrap_u32, wrap_u64, wrap_u8, hds, e12, e72]
      exact ⟨2, by decide, rfl, key h1 rfl⟩
    · simp -dsimp -implicitDefEqProofs (disch := omega) only [go_sem, reqD_of, dec_t, dec_f, wrap_i64, wrap_u32, wrap_u64, wrap_u8, hds, e12, e72, hlt, hin]
      rw [shr16, byte_of]
      refine h.rowSet1 (n := n) (c := c) (k := 2) hcl rfl fun w1 h1 => ?_
      simp -dsimp -implicitDefEqProofs (disch := omega) only [go_sem, reqD_of, dec_t, dec_f, wrap_i64, wrap_u32, wrap_u64, wrap_u8, hds, e12, e72]
      exact ⟨3, by decide, rfl, key h1 rfl⟩
    · simp -dsimp -implicitDefEqProofs (disch := omega) only [go_sem, reqD_of, dec_t, dec_f, wrap_i64, wrap_u32, wrap_u64, wrap_u8, hds, e12, e72, hlt, hin]
      rw [shr24, byte_of]
      refine h.rowSet1 (n := n) (c := c) (k := 3) hcl rfl fun w1 h1 => ?_
      simp -dsimp -implicitDefEqProofs (disch := omega) only [go_sem, reqD_of, dec_t, dec_f, wrap_i64, wrap_u32, wrap_u64, wrap_u8, hds, e12, e72]
      exact ⟨4, by decide, rfl, key h1 rfl⟩
  · obtain rfl : i = 4 := by omega
    simp -dsimp -implicitDefEqProofs (disch := omega) only [go_sem, reqD_of, dec_t, dec_f, wrap_i64, wrap_u32, wrap_u64, wrap_u8, hds, e12, e72, hlt]
    exact hR _ h
theorem encF_of (hf : fieldsOf m.kind = some fs) (hm : mayM fs m) : encF m = some (frameM fs m) := by
  unfold encF
  rw [hf, Option.bind_some, if_pos hm]
theorem encF_no (hf : fieldsOf m.kind = some fs) (hm : ¬ mayM fs m) : encF m = none := by
  unfold encF
  rw [hf, Option.bind_some, if_neg hm]
end
section
attribute [local go_sem] F7.t9_eq F7.t6_eq F7.t20_eq F7.t18_eq F7.t28_eq F7.t26_eq F7.t29_eq F7.t21_eq F7.t13_eq F7.t10_eq F7.t4_eq
theorem msg_21 {e : FA} {A : HP} (hA : Ent A F) (hf : fieldsOf m.kind = some fs) (hg : fs.all (goodF · m) = true) (hs : s = putA fs m (sM m)) (ok : WOk s) (hds : e.ds = []) (e8 : e.ρ 8 = .pointer (some ⟨W, 0, none⟩)) (h : St w0 (WP W s * A) w) :
    cwE Tryz.prog F7.t21 (fnP Tryz.prog #[.tmp 2, .tmp 3] (EncR m F w0)) e w := by
  rw [F7.t21_eq]
  have hsl := sM_len m
  simp -dsimp -implicitDefEqProofs (disch := omega) only [go_sem, reqD_of, dec_t, dec_f, wrap_i64, wrap_u32, wrap_u64, wrap_u8, e8]
  rcases putA_law (fs := fs) (m := m) (sM_ok m) rfl rfl with ⟨k1, k2, k3⟩ | ⟨k1, k2⟩
  · have hlim : (sM m).lim = 65536 := rfl
    rw [hs, k3] at h ok
    refine (done_ok ok rfl rfl h).mono ?_
    rintro e' w1 ⟨v, h1, rfl⟩
    obtain ⟨a, c, rfl, _⟩ := h1.rowForm v
    have hlen : ((sM m).b ++ bytesA fs m).length = 7 + (bytesA fs m).length := by rw [List.length_append, hsl]
    have hmay : mayM fs m := ⟨hg, k1, by omega⟩
    simp -dsimp -implicitDefEqProofs (disch := omega) only [go_sem, reqD_of, dec_t, dec_f, wrap_i64, wrap_u32, wrap_u64, wrap_u8, hds]
    refine msg_24 (w0 := w0) (a := a) (c := c) (n := 7 + (bytesA fs m).length) (r := leN 1 m.kind ++ (leN 2 m.tag ++ bytesA fs m)) (A := A) (by simp only [List.length_append, leN_length]; omega) (by omega) (by simp -dsimp -implicitDefEqProofs only [go_sem, hds]) (by (simp -dsimp -implicitDefEqProofs only [go_sem]; exact hlen)) ?_ ?_
    · have h2 : St w0 (RowO 5 1 (.slice a ((sM m).b ++ bytesA fs m).length c) ((sM m).b ++ bytesA fs m).length (byR ((sM m).b ++ bytesA fs m)) * A) w1 := h1
      rw [hlen] at h2
      have e3 : (sM m).b ++ bytesA fs m = cntL (7 + (bytesA fs m).length) (leN 1 m.kind ++ (leN 2 m.tag ++ bytesA fs m)) 0 := by
        simp [sM, cntL, leN]
      rw [e3] at h2
      exact h2
    · intro w' h3
      show EncR m F w0 _ w'
      unfold EncR
      rw [encF_of hf hmay]
      have h4 : St w0 (RowO 5 1 (.slice a (7 + (bytesA fs m).length) c) (7 + (bytesA fs m).length) (byR (frameM fs m)) * F) w' := h3.ent (Ent.sep (Ent.rfl' _) hA)
      rw [← frameM_len fs m] at h4
      exact ⟨.slice a (frameM fs m).length c, h4, by rw [frameM_len]⟩
  · rw [← hs] at k2
    refine (done_err k2 h).mono ?_
    rintro e' w1 ⟨h1, rfl⟩
    simp -dsimp -implicitDefEqProofs (disch := omega) only [go_sem, reqD_of, dec_t, dec_f, wrap_i64, wrap_u32, wrap_u64, wrap_u8, hds, k2]
    unfold EncR
    rw [encF_no hf (fun k => k1 ⟨k.2.1, by have : (sM m).lim = 65536 := rfl; have := k.2.2; omega⟩)]
    exact ⟨31, by decide, h1.ent hA, rfl⟩
end
end
end Go.Proofs.YtmiohkmcnppaeaaGreatDoor

namespace Go.Proofs.YtmiohkmcnppaeaaGreatDoor
open Go
set_option linter.unusedVariables false
set_option linter.unusedSimpArgs false
set_option maxRecDepth 100000

section
variable {w0 w : World} {F : HP} {W M T4 : Nat} {s : WS} {m : MsgD} {vn vq vd : Value} {fs : List Nat} {nm : ByteArray} {a : Option Addr} {c : Nat}
abbrev rowB (k : Nat) (nm : ByteArray) (vr : Value) : Obj := .cells #[.int .u8 k, .string nm, vr] 60 (0, 0)
section
attribute [local go_sem] F7.t9_eq F7.t6_eq F7.t20_eq F7.t18_eq F7.t28_eq F7.t26_eq F7.t29_eq F7.t13_eq F7.t10_eq F7.t4_eq
theorem msg_10 [Gives F Tabs] {e : FA} (hm : MOk m) (hi : MsgI F m vn vq vd) (hf : fieldsOf m.kind = some fs) (hg : fs.all (goodF · m) = true) (hds : e.ds = []) (e1 : e.ρ 1 = .pointer (some ⟨M, 0, none⟩)) (e4 : e.ρ 4 = .pointer (some ⟨T4, 0, none⟩))
    (h : St w0 (Blk T4 (rowB m.kind nm (.slice a fs.length c)) * (RowO 63 1 (.slice a fs.length c) fs.length (fs.map fC) * (Blk M (msgB m vn vq vd) * F))) w) :
    cwE Tryz.prog F7.t10 (fnP Tryz.prog #[.tmp 2, .tmp 3] (EncR m F w0)) e w := by
  rw [F7.t10_eq]
  obtain ⟨hlt20, hlast, hlen4⟩ := fieldsOf_lt hf
  simp -dsimp -implicitDefEqProofs (disch := omega) only [go_sem, reqD_of, dec_t, dec_f, wrap_i64, wrap_u32, wrap_u64, wrap_u8]
  refine (newWriter_any (n := 65536) (by decide) h).mono ?_
  rintro e' w1 ⟨W, h1, rfl⟩
  have o0 : WOk ⟨65536, [], [], 0⟩ := ⟨by decide, by decide, by decide⟩
  simp -dsimp -implicitDefEqProofs (disch := omega) only [go_sem, reqD_of, dec_t, dec_f, wrap_i64, wrap_u32, wrap_u64, wrap_u8]
  refine (U32_any (n := 0) o0 (by decide) h1).mono ?_
  rintro e' w2 ⟨h2, rfl⟩
  simp -dsimp -implicitDefEqProofs (disch := omega) only [go_sem, reqD_of, dec_t, dec_f, wrap_i64, wrap_u32, wrap_u64, wrap_u8, e1, h2.cl M]
  refine (U8_any (n := m.kind) o0.raw hm.kind h2).mono ?_
  rintro e' w3 ⟨h3, rfl⟩
  simp -dsimp -implicitDefEqProofs (disch := omega) only [go_sem, reqD_of, dec_t, dec_f, wrap_i64, wrap_u32, wrap_u64, wrap_u8, e1, h3.cl M]
  refine (U16_any (n := m.tag) o0.raw.raw hm.tag h3).mono ?_
  rintro e' w4 ⟨h4, rfl⟩
  rw [sM_eq] at h4
  simp -dsimp -implicitDefEqProofs (disch := omega) only [go_sem, reqD_of, dec_t, dec_f, wrap_i64, wrap_u32, wrap_u64, wrap_u8, e4, h4.cl T4]
  refine loop_intro (fun e w' => e.ds = [] ∧ e.ρ 1 = .pointer (some ⟨M, 0, none⟩) ∧ e.ρ 8 = .pointer (some ⟨W, 0, none⟩) ∧ e.ρ 53 = .slice a fs.length c ∧ e.ρ 54 = .int .i64 fs.length ∧ ∃ i : Nat, i ≤ fs.length ∧ e.ρ 55 = .int .i64 i ∧ WOk (putA (fs.take i) m (sM m)) ∧ (i < fs.length → (putA (fs.take i) m (sM m)).op = []) ∧
      St w0 (WP W (putA (fs.take i) m (sM m)) * (Blk T4 (rowB m.kind nm (.slice a fs.length c)) * (RowO 63 1 (.slice a fs.length c) fs.length (fs.map fC) * (Blk M (msgB m vn vq vd) * F)))) w')
    (fun e _ => match e.ρ 55 with | .int _ i => (fs.length - i).toNat | _ => 0) ?_ ?_
  · exact ⟨by simp -dsimp -implicitDefEqProofs only [go_sem, hds], by simp -dsimp -implicitDefEqProofs only [go_sem, e1], by simp -dsimp -implicitDefEqProofs only [go_sem], by simp -dsimp -implicitDefEqProofs only [go_sem], by simp -dsimp -implicitDefEqProofs only [go_sem], 0, by omega, by simp -dsimp -implicitDefEqProofs only [go_sem], sM_ok m, fun _ => rfl, h4⟩
  clear h h1 h2 h3 h4 hds e1 e4
  rintro e w ⟨hds, e1, e8, e53, e54, i, hi', e55, ok, hop, h⟩
  by_cases hlt : (i : Int) < fs.length
  · have hil : i < fs.length := by omega
    obtain ⟨g, o, rfl, hc⟩ := h.fldAt ((Ent.right _ _).trans ((Ent.right _ _).trans (Ent.left _ _))) hil
    have hn20 := hlt20 _ (List.getElem_mem hil)
    have hgn : goodF fs[i] m = true := by rw [List.all_eq_true] at hg; exact hg _ (List.getElem_mem hil)
    have hl19 := hlast i hil
    rw [List.getElem?_eq_getElem hil] at hl19
    have hps := putA_succ (m := m) (s := sM m) hil
    obtain ⟨n, hn⟩ : ∃ n, n = fs[i] := ⟨_, rfl⟩
    rw [← hn] at hc hn20 hgn hl19 hps
    simp -dsimp -implicitDefEqProofs (disch := omega) only [go_sem, reqD_of, dec_t, dec_f, wrap_i64, wrap_u32, wrap_u64, wrap_u8, hds, e1, e8, e53, e54, e55, hlt, hc]
    refine (field_any hn20 h).mono ?_
    rintro e' w1 ⟨B, ob, xn, xg, xp, xt, xm, xx, xy, h1, rfl, hfd, _⟩
    simp -dsimp -implicitDefEqProofs (disch := omega) only [go_sem, reqD_of, dec_t, dec_f, wrap_i64, wrap_u32, wrap_u64, wrap_u8, hds, e1, e8, e53, e54, e55]
    refine (hfd.put (W := W) (M := M) (F := Blk T4 (rowB m.kind nm (.slice (some ⟨g, o, none⟩) fs.length c)) * (RowO 63 1 (.slice (some ⟨g, o, none⟩) fs.length c) fs.length (fs.map fC) * F)) ok (hop hil) hm hgn (hi.under ((Ent.right _ _).trans (Ent.right _ _))) (h1.ac (by ac_rfl))).goY ?_
    rintro e' w2 ⟨h2, rfl⟩
    simp -dsimp -implicitDefEqProofs (disch := omega) only [go_sem, reqD_of, dec_t, dec_f, wrap_i64, wrap_u32, wrap_u64, wrap_u8, hds, e1, e8, e53, e54, e55]
    refine ⟨⟨i + 1, by omega, by omega, ?_, ?_, ?_⟩, by omega⟩
    · rw [hps]
      exact putF_ok ok (hop hil)
    · intro h3
      rw [hps, putF_op (fun e => by subst e; have := hl19 rfl; omega)]
      exact hop hil
    · rw [hps]
      exact (h2.ac (show _ = Blk B ob * (WP W (putF n m (putA (fs.take i) m (sM m))) * (Blk T4 (rowB m.kind nm (.slice (some ⟨g, o, none⟩) fs.length c)) * (RowO 63 1 (.slice (some ⟨g, o, none⟩) fs.length c) fs.length (fs.map fC) * (Blk M (msgB m vn vq vd) * F)))) by ac_rfl)).right
  · obtain rfl : i = fs.length := by omega
    rw [List.take_of_length_le (Nat.le_refl _)] at ok h
    simp -dsimp -implicitDefEqProofs (disch := omega) only [go_sem, reqD_of, dec_t, dec_f, wrap_i64, wrap_u32, wrap_u64, wrap_u8, hds, e1, e8, e53, e54, e55, hlt]
    exact msg_21 (A := Blk T4 (rowB m.kind nm (.slice a fs.length c)) * (RowO 63 1 (.slice a fs.length c) fs.length (fs.map fC) * (Blk M (msgB m vn vq vd) * F))) ((Ent.right _ _).trans ((Ent.right _ _).trans (Ent.right _ _))) hf hg rfl ok (by simp -dsimp -implicitDefEqProofs only [go_sem, hds]) (by simp -dsimp -implicitDefEqProofs only [go_sem, e8]) h
end
section
attribute [local go_sem] F7.t9_eq F7.t6_eq F7.t20_eq F7.t18_eq F7.t28_eq F7.t26_eq F7.t29_eq F7.t24_eq F7.t21_eq F7.t13_eq F7.t4_eq
theorem encF_none (hf : fieldsOf m.kind = none) : encF m = none := by
  unfold encF
  rw [hf]
  rfl
theorem msgEncode_any [Gives F Tabs] (hm : MOk m) (hi : MsgI F m vn vq vd) (h : St w0 F w) :
    Calls Tryz.prog 7 #[.agg (msgC m vn vq vd).toArray] w (EncR m F w0) := by
  refine F7.calls (by simp) ?_
  unfold F7.code
  simp -dsimp -implicitDefEqProofs (disch := omega) only [go_sem, reqD_of, dec_t, dec_f, wrap_i64, wrap_u32, wrap_u64, wrap_u8]
  refine h.new fun M w1 h1 => ?_
  have h1 : St w0 (Blk M (msgB m vn vq vd) * F) w1 := h1
  simp -dsimp -implicitDefEqProofs (disch := omega) only [go_sem, reqD_of, dec_t, dec_f, wrap_i64, wrap_u32, wrap_u64, wrap_u8, h1.cl M]
  refine (rowOf_any (k := m.kind) h1).mono ?_
  rintro e w2 (⟨fs, nm, vr, hf, hvr, h2, rfl⟩ | ⟨hf, h2, rfl⟩)
  · obtain ⟨a, c, rfl, _⟩ := h2.rowForm vr
    obtain ⟨hlt20, hlast, hlen4⟩ := fieldsOf_lt hf
    simp -dsimp -implicitDefEqProofs (disch := omega) only [go_sem, reqD_of, dec_t, dec_f, wrap_i64, wrap_u32, wrap_u64, wrap_u8]
    refine h2.new fun T4 w3 h3 => ?_
    simp -dsimp -implicitDefEqProofs (disch := omega) only [go_sem, reqD_of, dec_t, dec_f, wrap_i64, wrap_u32, wrap_u64, wrap_u8]
    refine h3.stoAll (b := T4) (n := 3) (cs := [.int .u8 m.kind, .string nm, .slice a fs.length c]) rfl rfl (fun y hy => by simp only [List.mem_cons, List.not_mem_nil, or_false] at hy; rcases hy with rfl | rfl | rfl <;> rfl) fun w4 h4 => ?_
    have h4 : St w0 (Blk T4 (rowB m.kind nm (.slice a fs.length c)) * (RowO 63 1 (.slice a fs.length c) fs.length (fs.map fC) * (Blk M (msgB m vn vq vd) * F))) w4 := h4
    simp -dsimp -implicitDefEqProofs (disch := omega) only [go_sem, reqD_of, dec_t, dec_f, wrap_i64, wrap_u32, wrap_u64, wrap_u8, h4.cl T4]
    refine loop_intro (fun e w' => e.ds = [] ∧ e.ρ 1 = .pointer (some ⟨M, 0, none⟩) ∧ e.ρ 4 = .pointer (some ⟨T4, 0, none⟩) ∧ e.ρ 23 = .slice a fs.length c ∧ e.ρ 24 = .int .i64 fs.length ∧ ∃ i : Nat, i ≤ fs.length ∧ e.ρ 25 = .int .i64 i ∧ (fs.take i).all (goodF · m) = true ∧
        St w0 (Blk T4 (rowB m.kind nm (.slice a fs.length c)) * (RowO 63 1 (.slice a fs.length c) fs.length (fs.map fC) * (Blk M (msgB m vn vq vd) * F))) w')
      (fun e _ => match e.ρ 25 with | .int _ i => (fs.length - i).toNat | _ => 0) ?_ ?_
    · exact ⟨rfl, by simp -dsimp -implicitDefEqProofs only [go_sem], by simp -dsimp -implicitDefEqProofs only [go_sem], by simp -dsimp -implicitDefEqProofs only [go_sem], by simp -dsimp -implicitDefEqProofs only [go_sem], 0, by omega, by simp -dsimp -implicitDefEqProofs only [go_sem], rfl, h4⟩
    clear h h1 h2 h3 h4
    rintro e w ⟨hds, e1, e4, e23, e24, i, hi', e25, hall, h⟩
    by_cases hlt : (i : Int) < fs.length
    · have hil : i < fs.length := by omega
      obtain ⟨g, o, rfl, hc⟩ := h.fldAt ((Ent.right _ _).trans (Ent.left _ _)) hil
      have hn20 := hlt20 _ (List.getElem_mem hil)
      obtain ⟨n, hn⟩ : ∃ n, n = fs[i] := ⟨_, rfl⟩
      have hmem : n ∈ fs := by rw [hn]; exact List.getElem_mem hil
      have hal1 : (fs.take (i + 1)).all (goodF · m) = goodF n m := by
        rw [List.take_succ_eq_append_getElem hil, List.all_append, hall, ← hn]
        simp
      rw [← hn] at hc hn20
      simp -dsimp -implicitDefEqProofs (disch := omega) only [go_sem, reqD_of, dec_t, dec_f, wrap_i64, wrap_u32, wrap_u64, wrap_u8, hds, e1, e4, e23, e24, e25, hlt, hc]
      refine (field_any hn20 h).mono ?_
      rintro e' w1 ⟨B, ob, xn, xg, xp, xt, xm, xx, xy, h1, rfl, hfd, _⟩
      simp -dsimp -implicitDefEqProofs (disch := omega) only [go_sem, reqD_of, dec_t, dec_f, wrap_i64, wrap_u32, wrap_u64, wrap_u8, hds, e1, e4, e23, e24, e25]
      refine (hfd.good (M := M) (F := Blk T4 (rowB m.kind nm (.slice (some ⟨g, o, none⟩) fs.length c)) * (RowO 63 1 (.slice (some ⟨g, o, none⟩) fs.length c) fs.length (fs.map fC) * F)) hm (hi.under ((Ent.right _ _).trans (Ent.right _ _))) (h1.ac (by ac_rfl))).goY ?_
      rintro e' w2 ⟨h2, rfl⟩
      cases hgn : goodF n m with
      | false =>
        simp -dsimp -implicitDefEqProofs (disch := omega) only [go_sem, reqD_of, dec_t, dec_f, wrap_i64, wrap_u32, wrap_u64, wrap_u8, hds, e1, e4, e23, e24, e25]
        unfold EncR
        rw [encF_no hf (fun k => by have := k.1; rw [List.all_eq_true] at this; have := this n hmem; rw [hgn] at this; cases this)]
        exact ⟨30, by decide, h2.right.right.right.right, rfl⟩
      | true =>
        simp -dsimp -implicitDefEqProofs (disch := omega) only [go_sem, reqD_of, dec_t, dec_f, wrap_i64, wrap_u32, wrap_u64, wrap_u8, hds, e1, e4, e23, e24, e25]
        refine ⟨⟨i + 1, by omega, by omega, by rw [hal1, hgn], ?_⟩, by omega⟩
        exact (h2.ac (show _ = Blk B ob * (Blk T4 (rowB m.kind nm (.slice (some ⟨g, o, none⟩) fs.length c)) * (RowO 63 1 (.slice (some ⟨g, o, none⟩) fs.length c) fs.length (fs.map fC) * (Blk M (msgB m vn vq vd) * F))) by ac_rfl)).right
    · obtain rfl : i = fs.length := by omega
      rw [List.take_of_length_le (Nat.le_refl _)] at hall
      simp -dsimp -implicitDefEqProofs (disch := omega) only [go_sem, reqD_of, dec_t, dec_f, wrap_i64, wrap_u32, wrap_u64, wrap_u8, hds, e1, e4, e23, e24, e25, hlt]
      exact msg_10 hm hi hf hall (by simp -dsimp -implicitDefEqProofs only [go_sem, hds]) (by simp -dsimp -implicitDefEqProofs only [go_sem, e1]) (by simp -dsimp -implicitDefEqProofs only [go_sem, e4]) h
  · simp -dsimp -implicitDefEqProofs (disch := omega) only [go_sem, reqD_of, dec_t, dec_f, wrap_i64, wrap_u32, wrap_u64, wrap_u8]
    refine h2.new fun T4 w3 h3 => ?_
    simp -dsimp -implicitDefEqProofs (disch := omega) only [go_sem, reqD_of, dec_t, dec_f, wrap_i64, wrap_u32, wrap_u64, wrap_u8]
    refine h3.stoAll (b := T4) (n := 3) (cs := [.int .u8 0, .string ⟨#[]⟩, .slice none 0 0]) rfl rfl (fun y hy => by simp only [List.mem_cons, List.not_mem_nil, or_false] at hy; rcases hy with rfl | rfl | rfl <;> rfl) fun w4 h4 => ?_
    simp -dsimp -implicitDefEqProofs (disch := omega) only [go_sem, reqD_of, dec_t, dec_f, wrap_i64, wrap_u32, wrap_u64, wrap_u8]
    unfold EncR
    rw [encF_none hf]
    exact ⟨32, by decide, h4.right.right, rfl⟩
end
end
end Go.Proofs.YtmiohkmcnppaeaaGreatDoor

namespace Go.Proofs.YtmiohkmcnppaeaaGreatDoor
open Go
set_option linter.unusedVariables false
set_option linter.unusedSimpArgs false
set_option maxRecDepth 100000

def encLen (m : MsgD) : Nat := match encF m with | some b => b.length | none => 0
theorem msgCells {m : MsgD} {vn vq vd : Value} (h1 : isCell vn = true) (h2 : isCell vq = true) (h3 : isCell vd = true) : ∀ y ∈ msgC m vn vq vd, isCell y = true := by
  simp only [msgC, List.forall_mem_cons]
  exact ⟨rfl, rfl, rfl, rfl, rfl, rfl, rfl, rfl, rfl, rfl, rfl, h1, h2, rfl, rfl, rfl, rfl, rfl, rfl, rfl, rfl, rfl, h3, rfl, rfl, rfl, rfl, rfl, rfl, rfl, rfl, rfl, rfl, rfl, rfl, rfl, fun _ h => absurd h List.not_mem_nil⟩
theorem moveA_succ {fs : List Nat} {t m : MsgD} {i : Nat} (hi : i < fs.length) : moveA (fs.take (i + 1)) t m = moveF fs[i] (moveA (fs.take i) t m) m := by
  unfold moveA
  rw [List.take_succ_eq_append_getElem hi, List.foldl_append, List.foldl_cons, List.foldl_nil]
abbrev headM (m : MsgD) : MsgD := { zeroM with kind := m.kind, tag := m.tag }
theorem cleanF_of {m : MsgD} {fs : List Nat} (hf : fieldsOf m.kind = some fs) : cleanF m = moveA fs (headM m) m := by
  unfold cleanF
  rw [hf]
  rfl
section
variable {w0 w : World} {F : HP} {W M T4 C : Nat} {s : WS} {m : MsgD} {vn vq vd : Value} {fs : List Nat} {nm : ByteArray} {a : Option Addr} {c : Nat}
theorem St.lists (h : St w0 (MsgL m vn vq vd * F) w) : isCell vn = true ∧ isCell vq = true ∧ isCell vd = true := by
  unfold MsgL at h
  have h1 := h.ac (show _ = RowO 9 1 vn m.names.length (m.names.map sv) * (RowO 35 3 vq m.qids.length (m.qids.flatMap qidC) * (RowO 5 1 vd m.data.length (byR m.data) * F)) by ac_rfl)
  obtain ⟨a1, c1, rfl, _⟩ := RowO.form h1
  obtain ⟨a2, c2, rfl, _⟩ := RowO.form h1.right
  obtain ⟨a3, c3, rfl, _⟩ := RowO.form h1.right.right
  exact ⟨rfl, rfl, rfl⟩

theorem msgSize_any [Gives F Tabs] (hm : MOk m) (hi : MsgI F m vn vq vd) (h : St w0 F w) :
    Calls Tryz.prog 8 #[.agg (msgC m vn vq vd).toArray] w fun e w' => St w0 F w' ∧ e = .returned (.int .i64 (encLen m : Nat)) := by
  refine F8.calls (by simp) ?_
  unfold F8.code
  simp -dsimp -implicitDefEqProofs (disch := omega) only [go_sem, reqD_of, dec_t, dec_f, wrap_i64, wrap_u32, wrap_u64, wrap_u8]
  refine h.new fun M w1 h1 => ?_
  have h1 : St w0 (Blk M (msgB m vn vq vd) * F) w1 := h1
  have hM : rowV w1 ⟨M, 0, none⟩ 36 = some (.agg (msgC m vn vq vd).toArray) := h1.rowH M 36 rfl
  simp -dsimp -implicitDefEqProofs (disch := omega) only [go_sem, reqD_of, dec_t, dec_f, wrap_i64, wrap_u32, wrap_u64, wrap_u8, hM]
  refine (msgEncode_any hm (hi.under (Ent.right _ _)) h1).mono ?_
  intro e w2 h2
  unfold EncR at h2
  unfold encLen
  cases he : encF m with
  | some b =>
    rw [he] at h2
    obtain ⟨v, h2, rfl⟩ := h2
    obtain ⟨a, c, rfl, _⟩ := h2.rowForm v
    simp -dsimp -implicitDefEqProofs (disch := omega) only [go_sem, reqD_of, dec_t, dec_f, wrap_i64, wrap_u32, wrap_u64, wrap_u8]
    exact h2.right.right
  | none =>
    rw [he] at h2
    obtain ⟨k, hk, h2, rfl⟩ := h2
    simp -dsimp -implicitDefEqProofs (disch := omega) only [go_sem, reqD_of, dec_t, dec_f, wrap_i64, wrap_u32, wrap_u64, wrap_u8]
    exact h2.right
theorem MsgP.head (h : St w0 (Blk C (msgB (headM m) (.slice none 0 0) (.slice none 0 0) (.slice none 0 0)) * F) w) : St w0 (MsgP C (headM m) * F) w := by
  refine MsgP.mk (vn := .slice none 0 0) (vq := .slice none 0 0) (vd := .slice none 0 0) ?_
  unfold MsgL
  exact (((h.nilR 9 1).nilR 35 3).nilR 5 1).ac (by
    show RowO _ _ _ _ _ * _ = Blk C _ * ((RowO _ _ _ _ _ * _) * _)
    ac_rfl)
section
attribute [local go_sem] F9.t7_eq F9.t5_eq F9.t8_eq
theorem msgClean_any (hm : MOk m) (hi : MsgI F m vn vq vd) (hf : fieldsOf m.kind = some fs) (h : St w0 F w) :
    Calls Tryz.prog 9 #[.agg (msgC m vn vq vd).toArray] w fun e w' => ∃ un uq ud, St w0 (MsgL (cleanF m) un uq ud * F) w' ∧ e = .returned (.agg (msgC (cleanF m) un uq ud).toArray) := by
  refine F9.calls (by simp) ?_
  unfold F9.code
  rw [cleanF_of hf]
  obtain ⟨hlt20, hlast, hlen4⟩ := fieldsOf_lt hf
  simp -dsimp -implicitDefEqProofs (disch := omega) only [go_sem, reqD_of, dec_t, dec_f, wrap_i64, wrap_u32, wrap_u64, wrap_u8]
  refine h.new fun M w1 h1 => ?_
  have h1 : St w0 (Blk M (msgB m vn vq vd) * F) w1 := h1
  simp -dsimp -implicitDefEqProofs (disch := omega) only [go_sem, reqD_of, dec_t, dec_f, wrap_i64, wrap_u32, wrap_u64, wrap_u8]
  refine h1.new fun T w2 h2 => ?_
  simp -dsimp -implicitDefEqProofs (disch := omega) only [go_sem, reqD_of, dec_t, dec_f, wrap_i64, wrap_u32, wrap_u64, wrap_u8, h2.cl M]
  refine onV_of (v := .agg (msgC (headM m) (.slice none 0 0) (.slice none 0 0) (.slice none 0 0)).toArray) (by kernel_rfl) ?_
  simp -dsimp -implicitDefEqProofs (disch := omega) only [go_sem, reqD_of, dec_t, dec_f, wrap_i64, wrap_u32, wrap_u64, wrap_u8]
  refine h2.new fun C w3 h3 => ?_
  simp -dsimp -implicitDefEqProofs (disch := omega) only [go_sem, reqD_of, dec_t, dec_f, wrap_i64, wrap_u32, wrap_u64, wrap_u8]
  refine h3.stoAll (b := C) (n := 36) (cs := msgC (headM m) (.slice none 0 0) (.slice none 0 0) (.slice none 0 0)) rfl rfl (msgCells rfl rfl rfl) fun w4 h4 => ?_
  have h4 := MsgP.head (h4.ac (show _ = Blk C (msgB (headM m) (.slice none 0 0) (.slice none 0 0) (.slice none 0 0)) * (Blk T (msgB zeroM (.slice none 0 0) (.slice none 0 0) (.slice none 0 0)) * (Blk M (msgB m vn vq vd) * F)) from rfl))
  simp -dsimp -implicitDefEqProofs (disch := omega) only [go_sem, reqD_of, dec_t, dec_f, wrap_i64, wrap_u32, wrap_u64, wrap_u8, h4.cl M]
  refine (rowOf_any (k := m.kind) h4).mono ?_
  rintro e w5 (⟨fs', nm, vr, hf', hvr, h5, rfl⟩ | ⟨hf', h5, rfl⟩)
  case inr => rw [hf] at hf'; cases hf'
  rw [hf, Option.some.injEq] at hf'
  subst hf'
  obtain ⟨a, c, rfl, _⟩ := h5.rowForm vr
  simp -dsimp -implicitDefEqProofs (disch := omega) only [go_sem, reqD_of, dec_t, dec_f, wrap_i64, wrap_u32, wrap_u64, wrap_u8]
  refine h5.new fun T4 w6 h6 => ?_
  simp -dsimp -implicitDefEqProofs (disch := omega) only [go_sem, reqD_of, dec_t, dec_f, wrap_i64, wrap_u32, wrap_u64, wrap_u8]
  refine h6.stoAll (b := T4) (n := 3) (cs := [.int .u8 m.kind, .string nm, .slice a fs.length c]) rfl rfl (fun y hy => by simp only [List.mem_cons, List.not_mem_nil, or_false] at hy; rcases hy with rfl | rfl | rfl <;> rfl) fun w7 h7 => ?_
  simp -dsimp -implicitDefEqProofs (disch := omega) only [go_sem, reqD_of, dec_t, dec_f, wrap_i64, wrap_u32, wrap_u64, wrap_u8, h7.cl T4]
  have h7 : St w0 (MsgP C (moveA (fs.take 0) (headM m) m) * (RowO 63 1 (.slice a fs.length c) fs.length (fs.map fC) * (Blk T (msgB zeroM (.slice none 0 0) (.slice none 0 0) (.slice none 0 0)) * (Blk M (msgB m vn vq vd) * F)))) w7 := h7.right.ac (by
    show _ = MsgP C (headM m) * _
    ac_rfl)
  refine loop_intro (fun e w' => e.ds = [] ∧ e.ρ 1 = .pointer (some ⟨M, 0, none⟩) ∧ e.ρ 2 = .pointer (some ⟨T, 0, none⟩) ∧ e.ρ 3 = .pointer (some ⟨C, 0, none⟩) ∧ e.ρ 20 = .slice a fs.length c ∧ e.ρ 21 = .int .i64 fs.length ∧ ∃ i : Nat, i ≤ fs.length ∧ e.ρ 22 = .int .i64 i ∧
      St w0 (MsgP C (moveA (fs.take i) (headM m) m) * (RowO 63 1 (.slice a fs.length c) fs.length (fs.map fC) * (Blk T (msgB zeroM (.slice none 0 0) (.slice none 0 0) (.slice none 0 0)) * (Blk M (msgB m vn vq vd) * F)))) w')
    (fun e _ => match e.ρ 22 with | .int _ i => (fs.length - i).toNat | _ => 0) ?_ ?_
  · exact ⟨rfl, by simp -dsimp -implicitDefEqProofs only [go_sem], by simp -dsimp -implicitDefEqProofs only [go_sem], by simp -dsimp -implicitDefEqProofs only [go_sem], by simp -dsimp -implicitDefEqProofs only [go_sem], by simp -dsimp -implicitDefEqProofs only [go_sem], 0, by omega, by simp -dsimp -implicitDefEqProofs only [go_sem], h7⟩
  clear h h1 h2 h3 h4 h5 h6 h7
  rintro e w ⟨hds, e1, e2, e3, e20, e21, i, hi', e22, h⟩
  by_cases hlt : (i : Int) < fs.length
  · have hil : i < fs.length := by omega
    obtain ⟨g, o, rfl, hc⟩ := h.fldAt ((Ent.right _ _).trans (Ent.left _ _)) hil
    have hn20 := hlt20 _ (List.getElem_mem hil)
    have hms := moveA_succ (t := headM m) (m := m) hil
    obtain ⟨n, hn⟩ : ∃ n, n = fs[i] := ⟨_, rfl⟩
    rw [← hn] at hc hn20 hms
    simp -dsimp -implicitDefEqProofs (disch := omega) only [go_sem, reqD_of, dec_t, dec_f, wrap_i64, wrap_u32, wrap_u64, wrap_u8, hds, e1, e2, e3, e20, e21, e22, hlt, hc]
    refine (field_any hn20 h).mono ?_
    rintro e' w1 ⟨B, ob, xn, xg, xp, xt, xm, xx, xy, h1, rfl, hfd, _⟩
    simp -dsimp -implicitDefEqProofs (disch := omega) only [go_sem, reqD_of, dec_t, dec_f, wrap_i64, wrap_u32, wrap_u64, wrap_u8, hds, e1, e2, e3, e20, e21, e22]
    refine (hfd.move (C := C) (M := M) (F := RowO 63 1 (.slice (some ⟨g, o, none⟩) fs.length c) fs.length (fs.map fC) * (Blk T (msgB zeroM (.slice none 0 0) (.slice none 0 0) (.slice none 0 0)) * F)) hm (hi.under ((Ent.right _ _).trans (Ent.right _ _))) (h1.ac (by ac_rfl))).goY ?_
    rintro e' w2 ⟨h2, rfl⟩
    simp -dsimp -implicitDefEqProofs (disch := omega) only [go_sem, reqD_of, dec_t, dec_f, wrap_i64, wrap_u32, wrap_u64, wrap_u8, hds, e1, e2, e3, e20, e21, e22]
    refine ⟨⟨i + 1, by omega, by omega, ?_⟩, by omega⟩
    rw [hms]
    exact (h2.ac (show _ = Blk B ob * (MsgP C (moveF n (moveA (fs.take i) (headM m) m) m) * (RowO 63 1 (.slice (some ⟨g, o, none⟩) fs.length c) fs.length (fs.map fC) * (Blk T (msgB zeroM (.slice none 0 0) (.slice none 0 0) (.slice none 0 0)) * (Blk M (msgB m vn vq vd) * F)))) by ac_rfl)).right
  · obtain rfl : i = fs.length := by omega
    rw [List.take_of_length_le (Nat.le_refl _)] at h
    obtain ⟨r, hr⟩ : ∃ r, r = moveA fs (headM m) m := ⟨_, rfl⟩
    rw [← hr] at h ⊢
    obtain ⟨un, uq, ud, h⟩ := MsgP.open h
    obtain ⟨u1, u2, u3⟩ := St.lists h.right
    have hrow : rowV w ⟨C, 0, none⟩ 36 = some (.agg (msgC r un uq ud).toArray) := h.rowH C 36 rfl
    simp -dsimp -implicitDefEqProofs (disch := omega) only [go_sem, reqD_of, dec_t, dec_f, wrap_i64, wrap_u32, wrap_u64, wrap_u8, hds, e1, e2, e3, e20, e21, e22, hlt, hrow]
    refine h.stoAll (b := T) (n := 36) (cs := msgC r un uq ud) rfl rfl (msgCells u1 u2 u3) fun w4 h4 => ?_
    simp -dsimp -implicitDefEqProofs (disch := omega) only [go_sem, reqD_of, dec_t, dec_f, wrap_i64, wrap_u32, wrap_u64, wrap_u8, hds]
    have hr2 : rowV w4 ⟨T, 0, none⟩ 36 = some (.agg (msgC r un uq ud).toArray) := h4.rowH T 36 rfl
    refine resC_1 (a := ⟨T, 0, none⟩) (by simp -dsimp -implicitDefEqProofs only [go_sem, e2]) (run_loadVar_row fact_aggSz_39 hr2) ?_
    exact ⟨un, uq, ud, h4.ent ((Ent.right _ _).trans (Ent.sep (Ent.rfl' _) ((Ent.right _ _).trans ((Ent.right _ _).trans (Ent.right _ _))))), rfl⟩
end
end
end Go.Proofs.YtmiohkmcnppaeaaGreatDoor

namespace Go.Proofs.YtmiohkmcnppaeaaGreatDoor
open Go
set_option linter.unusedVariables false
set_option linter.unusedSimpArgs false
set_option maxRecDepth 100000

theorem bytesA_split {fs : List Nat} {m : MsgD} {i : Nat} (hi : i < fs.length) : bytesA fs m = bytesA (fs.take i) m ++ (bytesF fs[i] m ++ bytesA (fs.drop (i + 1)) m) := by
  have e : fs = fs.take i ++ fs[i] :: fs.drop (i + 1) := by rw [List.getElem_cons_drop, List.take_append_drop]
  have e2 : bytesA fs m = bytesA (fs.take i ++ fs[i] :: fs.drop (i + 1)) m := congrArg (fun l => bytesA l m) e
  rw [e2]
  unfold bytesA
  rw [List.flatMap_append, List.flatMap_cons]
theorem bytesA_succ {fs : List Nat} {m : MsgD} {i : Nat} (hi : i < fs.length) : bytesA (fs.take (i + 1)) m = bytesA (fs.take i) m ++ bytesF fs[i] m := by
  unfold bytesA
  rw [List.take_succ_eq_append_getElem hi, List.flatMap_append, List.flatMap_cons, List.flatMap_nil, List.append_nil]
section
variable {w0 w : World} {F : HP} {W M T4 C : Nat} {s : WS} {m : MsgD} {vn vq vd : Value} {fs : List Nat} {nm : ByteArray} {a : Option Addr} {c : Nat}
section
attribute [local go_sem] F14.t15_eq F14.t13_eq F14.t20_eq F14.t16_eq F14.t10_eq F14.t6_eq F14.t3_eq
theorem msgDecode_any [Gives F Tabs] {v : Value} (hm : MOk m) (hf : fieldsOf m.kind = some fs) (hmay : mayM fs m) (hv : Ent F (RdB v (frameM fs m))) (h : St w0 F w) :
    Calls Tryz.prog 14 #[v] w fun e w' => ∃ un uq ud, isCell un = true ∧ isCell uq = true ∧ isCell ud = true ∧ St w0 (MsgL (cleanF m) un uq ud * F) w' ∧ e = .returned (.tuple #[.agg (msgC (cleanF m) un uq ud).toArray, .int .i64 0]) := by
  obtain ⟨a0, c0, rfl, _⟩ := (h.ent hv).bytes
  refine F14.calls (by simp) ?_
  unfold F14.code
  rw [cleanF_of hf]
  obtain ⟨hlt20, hlast, hlen4⟩ := fieldsOf_lt hf
  obtain ⟨mg, mo, ml⟩ := hmay
  have hbl := frameM_len fs m
  obtain ⟨b, hb⟩ : ∃ b, b = frameM fs m := ⟨_, rfl⟩
  rw [← hb] at hv hbl ⊢
  have q1 : ¬ ((b.length : Nat) : Int) < 7 := by omega
  have q2 : ¬ (65536 : Int) < (b.length : Nat) := by omega
  have hbl2 : b.length ≤ 16777216 := by omega
  have hb1 : b = [] ++ (leN 4 (7 + (bytesA fs m).length) ++ (leN 1 m.kind ++ (leN 2 m.tag ++ bytesA fs m))) := by rw [hb, frameM, List.nil_append]
  have hb2 := nextB hb1
  have hb3 := nextB hb2
  simp -dsimp -implicitDefEqProofs (disch := omega) only [go_sem, reqD_of, dec_t, dec_f, wrap_i64, wrap_u32, wrap_u64, wrap_u8]
  refine h.new fun T w1 h1 => ?_
  simp -dsimp -implicitDefEqProofs (disch := omega) only [go_sem, reqD_of, dec_t, dec_f, wrap_i64, wrap_u32, wrap_u64, wrap_u8, q1, q2]
  refine (newReader_any hbl2 ((Ent.right _ _).trans hv) h1).mono ?_
  rintro e w2 ⟨R, v3, h2, rfl⟩
  have hv3 : Ent (RowO 5 1 v3 b.length (byR b) * (Blk T (msgB zeroM (.slice none 0 0) (.slice none 0 0) (.slice none 0 0)) * F)) (RdB v3 b) := (Ent.left _ _).trans (RowO.reads _ _ _ _ _)
  have h2 : St w0 (Blk R (rB v3 0 0 0 0) * (RowO 5 1 v3 b.length (byR b) * (Blk T (msgB zeroM (.slice none 0 0) (.slice none 0 0) (.slice none 0 0)) * F))) w2 := h2
  simp -dsimp -implicitDefEqProofs (disch := omega) only [go_sem, reqD_of, dec_t, dec_f, wrap_i64, wrap_u32, wrap_u64, wrap_u8]
  refine (R32_any (n := 7 + (bytesA fs m).length) (by omega) hb1 (show 0 = ([] : List UInt8).length from rfl) hbl2 hv3 h2).mono ?_
  rintro e w3 ⟨h3, rfl⟩
  have q3 : ((7 + (bytesA fs m).length : Nat) : Int) = (b.length : Nat) := by omega
  simp -dsimp -implicitDefEqProofs (disch := omega) only [go_sem, reqD_of, dec_t, dec_f, wrap_i64, wrap_u32, wrap_u64, wrap_u8, q3]
  refine (R8_any (n := m.kind) hm.kind hb2 (by simp [leN_length]) hbl2 hv3 h3).mono ?_
  rintro e w4 ⟨h4, rfl⟩
  simp -dsimp -implicitDefEqProofs (disch := omega) only [go_sem, reqD_of, dec_t, dec_f, wrap_i64, wrap_u32, wrap_u64, wrap_u8]
  refine (R16_any (n := m.tag) hm.tag hb3 (by simp [leN_length]) hbl2 hv3 h4).mono ?_
  rintro e w5 ⟨h5, rfl⟩
  simp -dsimp -implicitDefEqProofs (disch := omega) only [go_sem, reqD_of, dec_t, dec_f, wrap_i64, wrap_u32, wrap_u64, wrap_u8]
  refine onV_of (v := .agg (msgC (headM m) (.slice none 0 0) (.slice none 0 0) (.slice none 0 0)).toArray) (by kernel_rfl) ?_
  simp -dsimp -implicitDefEqProofs (disch := omega) only [go_sem, reqD_of, dec_t, dec_f, wrap_i64, wrap_u32, wrap_u64, wrap_u8]
  refine h5.new fun H w6 h6 => ?_
  simp -dsimp -implicitDefEqProofs (disch := omega) only [go_sem, reqD_of, dec_t, dec_f, wrap_i64, wrap_u32, wrap_u64, wrap_u8]
  refine h6.stoAll (b := H) (n := 36) (cs := msgC (headM m) (.slice none 0 0) (.slice none 0 0) (.slice none 0 0)) rfl rfl (msgCells rfl rfl rfl) fun w7 h7 => ?_
  have h7 : St w0 (Blk H (msgB (headM m) (.slice none 0 0) (.slice none 0 0) (.slice none 0 0)) * (Blk R (rB v3 (0 + 4 + 1 + 2 : Nat) 0 0 0) * (RowO 5 1 v3 b.length (byR b) * (Blk T (msgB zeroM (.slice none 0 0) (.slice none 0 0) (.slice none 0 0)) * F)))) w7 := h7
  simp -dsimp -implicitDefEqProofs (disch := omega) only [go_sem, reqD_of, dec_t, dec_f, wrap_i64, wrap_u32, wrap_u64, wrap_u8, h7.cl H]
  refine (rowOf_any (k := m.kind) h7).mono ?_
  rintro e w8 (⟨fs', nm, vr, hf', hvr, h8, rfl⟩ | ⟨hf', h8, rfl⟩)
  case inr => rw [hf] at hf'; cases hf'
  rw [hf, Option.some.injEq] at hf'
  subst hf'
  obtain ⟨a, c, rfl, _⟩ := h8.rowForm vr
  simp -dsimp -implicitDefEqProofs (disch := omega) only [go_sem, reqD_of, dec_t, dec_f, wrap_i64, wrap_u32, wrap_u64, wrap_u8]
  refine h8.new fun T6 w9 h9 => ?_
  simp -dsimp -implicitDefEqProofs (disch := omega) only [go_sem, reqD_of, dec_t, dec_f, wrap_i64, wrap_u32, wrap_u64, wrap_u8]
  refine h9.stoAll (b := T6) (n := 3) (cs := [.int .u8 m.kind, .string nm, .slice a fs.length c]) rfl rfl (fun y hy => by simp only [List.mem_cons, List.not_mem_nil, or_false] at hy; rcases hy with rfl | rfl | rfl <;> rfl) fun w10 h10 => ?_
  have hrow : rowV w10 ⟨H, 0, none⟩ 36 = some (.agg (msgC (headM m) (.slice none 0 0) (.slice none 0 0) (.slice none 0 0)).toArray) := h10.rowH H 36 rfl
  simp -dsimp -implicitDefEqProofs (disch := omega) only [go_sem, reqD_of, dec_t, dec_f, wrap_i64, wrap_u32, wrap_u64, wrap_u8, hrow]
  refine h10.new fun C w11 h11 => ?_
  simp -dsimp -implicitDefEqProofs (disch := omega) only [go_sem, reqD_of, dec_t, dec_f, wrap_i64, wrap_u32, wrap_u64, wrap_u8]
  refine h11.stoAll (b := C) (n := 36) (cs := msgC (headM m) (.slice none 0 0) (.slice none 0 0) (.slice none 0 0)) rfl rfl (msgCells rfl rfl rfl) fun w12 h12 => ?_
  simp -dsimp -implicitDefEqProofs (disch := omega) only [go_sem, reqD_of, dec_t, dec_f, wrap_i64, wrap_u32, wrap_u64, wrap_u8, h12.cl T6]
  have h12 := MsgP.head (C := C) (m := m) (F := Blk T6 (rowB m.kind nm (.slice a fs.length c)) * (RowO 63 1 (.slice a fs.length c) fs.length (fs.map fC) * (Blk H (msgB (headM m) (.slice none 0 0) (.slice none 0 0) (.slice none 0 0)) * (Blk R (rB v3 (0 + 4 + 1 + 2 : Nat) 0 0 0) * (RowO 5 1 v3 b.length (byR b) * (Blk T (msgB zeroM (.slice none 0 0) (.slice none 0 0) (.slice none 0 0)) * F)))))) h12
  have h12 : St w0 (Blk R (rB v3 (7 + (bytesA (fs.take 0) m).length : Nat) 0 0 0) * (MsgP C (moveA (fs.take 0) (headM m) m) * (RowO 5 1 v3 b.length (byR b) * (RowO 63 1 (.slice a fs.length c) fs.length (fs.map fC) * (Blk T (msgB zeroM (.slice none 0 0) (.slice none 0 0) (.slice none 0 0)) * F))))) w12 := (h12.ac (show _ = (Blk T6 (rowB m.kind nm (.slice a fs.length c)) * Blk H (msgB (headM m) (.slice none 0 0) (.slice none 0 0) (.slice none 0 0))) * (Blk R (rB v3 (0 + 4 + 1 + 2 : Nat) 0 0 0) * (MsgP C (headM m) * (RowO 5 1 v3 b.length (byR b) * (RowO 63 1 (.slice a fs.length c) fs.length (fs.map fC) * (Blk T (msgB zeroM (.slice none 0 0) (.slice none 0 0) (.slice none 0 0)) * F))))) by ac_rfl)).right
  refine loop_intro (fun e w' => e.ds = [] ∧ e.ρ 2 = .pointer (some ⟨T, 0, none⟩) ∧ e.ρ 4 = .pointer (some ⟨R, 0, none⟩) ∧ e.ρ 8 = .pointer (some ⟨C, 0, none⟩) ∧ e.ρ 47 = .slice a fs.length c ∧ e.ρ 48 = .int .i64 fs.length ∧ ∃ i : Nat, i ≤ fs.length ∧ e.ρ 49 = .int .i64 i ∧
      St w0 (Blk R (rB v3 (7 + (bytesA (fs.take i) m).length : Nat) 0 0 0) * (MsgP C (moveA (fs.take i) (headM m) m) * (RowO 5 1 v3 b.length (byR b) * (RowO 63 1 (.slice a fs.length c) fs.length (fs.map fC) * (Blk T (msgB zeroM (.slice none 0 0) (.slice none 0 0) (.slice none 0 0)) * F))))) w')
    (fun e _ => match e.ρ 49 with | .int _ i => (fs.length - i).toNat | _ => 0) ?_ ?_
  · exact ⟨rfl, by simp -dsimp -implicitDefEqProofs only [go_sem], by simp -dsimp -implicitDefEqProofs only [go_sem], by simp -dsimp -implicitDefEqProofs only [go_sem], by simp -dsimp -implicitDefEqProofs only [go_sem], by simp -dsimp -implicitDefEqProofs only [go_sem], 0, by omega, by simp -dsimp -implicitDefEqProofs only [go_sem], h12⟩
  clear h h1 h2 h3 h4 h5 h6 h7 h8 h9 h10 h11 h12
  rintro e w ⟨hds, e2, e4, e8, e47, e48, i, hi', e49, h⟩
  by_cases hlt : (i : Int) < fs.length
  · have hil : i < fs.length := by omega
    obtain ⟨g, o, rfl, hc⟩ := h.fldAt ((Ent.right _ _).trans ((Ent.right _ _).trans ((Ent.right _ _).trans (Ent.left _ _)))) hil
    have hn20 := hlt20 _ (List.getElem_mem hil)
    have hms := moveA_succ (t := headM m) (m := m) hil
    have hbs := bytesA_succ (m := m) hil
    have hsp := bytesA_split (m := m) hil
    have hkn : okF fs[i] m = true := by rw [List.all_eq_true] at mo; exact mo _ (List.getElem_mem hil)
    have hgn : goodF fs[i] m = true := by rw [List.all_eq_true] at mg; exact mg _ (List.getElem_mem hil)
    have hl19 := hlast i hil
    rw [List.getElem?_eq_getElem hil] at hl19
    obtain ⟨n, hn⟩ : ∃ n, n = fs[i] := ⟨_, rfl⟩
    rw [← hn] at hc hn20 hms hbs hsp hkn hgn hl19
    have hbn : b = (leN 4 (7 + (bytesA fs m).length) ++ (leN 1 m.kind ++ (leN 2 m.tag ++ bytesA (fs.take i) m))) ++ (bytesF n m ++ bytesA (fs.drop (i + 1)) m) := by
      rw [hb, frameM]
      conv => lhs; rw [show leN 1 m.kind ++ (leN 2 m.tag ++ bytesA fs m) = leN 1 m.kind ++ (leN 2 m.tag ++ (bytesA (fs.take i) m ++ (bytesF n m ++ bytesA (fs.drop (i + 1)) m))) from by rw [← hsp]]
      simp only [List.append_assoc]
    simp -dsimp -implicitDefEqProofs (disch := omega) only [go_sem, reqD_of, dec_t, dec_f, wrap_i64, wrap_u32, wrap_u64, wrap_u8, hds, e2, e4, e8, e47, e48, e49, hlt, hc]
    refine (field_any hn20 h).mono ?_
    rintro e' w1 ⟨B, ob, xn, xg, xp, xt, xm, xx, xy, h1, rfl, hfd, _⟩
    simp -dsimp -implicitDefEqProofs (disch := omega) only [go_sem, reqD_of, dec_t, dec_f, wrap_i64, wrap_u32, wrap_u64, wrap_u8, hds, e2, e4, e8, e47, e48, e49]
    refine (hfd.take (R := R) (C := C) (at' := 7 + (bytesA (fs.take i) m).length) (ba := 0) (wh := 0) (t1 := moveA (fs.take i) (headM m) m) (F := RowO 5 1 v3 b.length (byR b) * (RowO 63 1 (.slice (some ⟨g, o, none⟩) fs.length c) fs.length (fs.map fC) * (Blk T (msgB zeroM (.slice none 0 0) (.slice none 0 0) (.slice none 0 0)) * F))) hm hkn hgn hbn (fun e => by
        have := hl19 (by rw [e])
        rw [show fs.drop (i + 1) = [] from List.drop_of_length_le (by omega)]
        rfl) (by simp only [List.length_append, leN_length]; omega) hbl2 ((Ent.left _ _).trans (RowO.reads _ _ _ _ _)) (h1.ac (by ac_rfl))).goY ?_
    rintro e' w2 ⟨h2, rfl⟩
    simp -dsimp -implicitDefEqProofs (disch := omega) only [go_sem, reqD_of, dec_t, dec_f, wrap_i64, wrap_u32, wrap_u64, wrap_u8, hds, e2, e4, e8, e47, e48, e49]
    refine ⟨⟨i + 1, by omega, by omega, ?_⟩, by omega⟩
    rw [hms, hbs, List.length_append, ← Nat.add_assoc]
    exact (h2.ac (show _ = Blk B ob * (Blk R (rB v3 (7 + (bytesA (fs.take i) m).length + (bytesF n m).length : Nat) 0 0 0) * (MsgP C (moveF n (moveA (fs.take i) (headM m) m) m) * (RowO 5 1 v3 b.length (byR b) * (RowO 63 1 (.slice (some ⟨g, o, none⟩) fs.length c) fs.length (fs.map fC) * (Blk T (msgB zeroM (.slice none 0 0) (.slice none 0 0) (.slice none 0 0)) * F))))) by ac_rfl)).right
  · obtain rfl : i = fs.length := by omega
    rw [List.take_of_length_le (Nat.le_refl _)] at h
    obtain ⟨r, hr⟩ : ∃ r, r = moveA fs (headM m) m := ⟨_, rfl⟩
    rw [← hr] at h ⊢
    have hvv : Ent (MsgP C r * (RowO 5 1 v3 b.length (byR b) * (RowO 63 1 (.slice a fs.length c) fs.length (fs.map fC) * (Blk T (msgB zeroM (.slice none 0 0) (.slice none 0 0) (.slice none 0 0)) * F)))) (RdB v3 b) := (Ent.right _ _).trans ((Ent.left _ _).trans (RowO.reads _ _ _ _ _))
    simp -dsimp -implicitDefEqProofs (disch := omega) only [go_sem, reqD_of, dec_t, dec_f, wrap_i64, wrap_u32, wrap_u64, wrap_u8, hds, e2, e4, e8, e47, e48, e49, hlt]
    refine (end_any (by omega) hbl2 hvv h).mono ?_
    rintro e' w1 ⟨h1, rfl⟩
    simp -dsimp -implicitDefEqProofs (disch := omega) only [go_sem, reqD_of, dec_t, dec_f, wrap_i64, wrap_u32, wrap_u64, wrap_u8, hds, e2, e4, e8]
    refine (err_any hvv h1).mono ?_
    rintro e' w2 ⟨h2, rfl⟩
    obtain ⟨un, uq, ud, h2⟩ := MsgP.open (h2.ac (show _ = MsgP C r * (Blk R (rB v3 (7 + (bytesA fs m).length : Nat) 0 0 0) * (RowO 5 1 v3 b.length (byR b) * (RowO 63 1 (.slice a fs.length c) fs.length (fs.map fC) * (Blk T (msgB zeroM (.slice none 0 0) (.slice none 0 0) (.slice none 0 0)) * F)))) by ac_rfl))
    obtain ⟨u1, u2, u3⟩ := St.lists h2.right
    have hrow : rowV w2 ⟨C, 0, none⟩ 36 = some (.agg (msgC r un uq ud).toArray) := h2.rowH C 36 rfl
    simp -dsimp -implicitDefEqProofs (disch := omega) only [go_sem, reqD_of, dec_t, dec_f, wrap_i64, wrap_u32, wrap_u64, wrap_u8, hds, e2, e4, e8, hrow]
    refine h2.stoAll (b := T) (n := 36) (cs := msgC r un uq ud) rfl rfl (msgCells u1 u2 u3) fun w4 h4 => ?_
    simp -dsimp -implicitDefEqProofs (disch := omega) only [go_sem, reqD_of, dec_t, dec_f, wrap_i64, wrap_u32, wrap_u64, wrap_u8, hds]
    have hr2 : rowV w4 ⟨T, 0, none⟩ 36 = some (.agg (msgC r un uq ud).toArray) := h4.rowH T 36 rfl
    refine resC_2 (a := ⟨T, 0, none⟩) (by simp -dsimp -implicitDefEqProofs only [go_sem, e2]) (run_loadVar_row fact_aggSz_39 hr2) ?_
    refine ⟨un, uq, ud, u1, u2, u3, h4.ent ((Ent.right _ _).trans (Ent.sep (Ent.rfl' _) ((Ent.right _ _).trans ((Ent.right _ _).trans ((Ent.right _ _).trans (Ent.right _ _)))))), by simp -dsimp -implicitDefEqProofs only [go_sem]⟩
end
end
end Go.Proofs.YtmiohkmcnppaeaaGreatDoor

namespace Go.Proofs.YtmiohkmcnppaeaaGreatDoor
open Go
set_option linter.unusedVariables false
set_option linter.unusedSimpArgs false
set_option maxRecDepth 100000

theorem seq_dec (a b : ByteArray) : (a.toList == b.toList) = decide (a = b) := by
  rw [ByteArray.toList_eq, ByteArray.toList_eq]
  by_cases h : a = b
  · subst h; simp
  · have h2 : ¬ a.data = b.data := fun e => h (by cases a; cases b; simp only at e; rw [e])
    simp [h, h2]
section
variable {w0 w : World} {F A : HP} {m : MsgD} {vn vq vd un uq ud : Value}
section
attribute [local go_sem] F24.t5_eq F24.t6_eq F24.t8_eq F24.t3_eq
theorem sameB_any {va vb : Value} {l : List UInt8} (hl : l.length ≤ 4294967296) (h1 : Ent A (RdB va l)) (h2 : Ent A (RdB vb l)) (h : St w0 A w) :
    Calls Tryz.prog 24 #[va, vb] w fun e w' => St w0 A w' ∧ e = .returned (.bool true) := by
  obtain ⟨a1, c1, rfl, _⟩ := (h.ent h1).bytes
  obtain ⟨a2, c2, rfl, _⟩ := (h.ent h2).bytes
  refine F24.calls (by simp) ?_
  unfold F24.code
  simp -dsimp -implicitDefEqProofs (disch := omega) only [go_sem, reqD_of, dec_t, dec_f, wrap_i64, wrap_u32, wrap_u64, wrap_u8]
  refine loop_intro (fun e w' => e.ds = [] ∧ e.ρ 0 = .slice a1 l.length c1 ∧ e.ρ 1 = .slice a2 l.length c2 ∧ ∃ i : Nat, i ≤ l.length ∧ e.ρ 5 = .int .i64 i ∧ St w0 A w')
    (fun e _ => match e.ρ 5 with | .int _ i => (l.length - i).toNat | _ => 0) ?_ ?_
  · exact ⟨rfl, by simp -dsimp -implicitDefEqProofs only [go_sem], by simp -dsimp -implicitDefEqProofs only [go_sem], 0, by omega, by simp -dsimp -implicitDefEqProofs only [go_sem], h⟩
  clear h
  rintro e w ⟨hds, e0, e1, i, hi, e5, h⟩
  by_cases hlt : (i : Int) < l.length
  · have hD := h.drew
    obtain ⟨a1', c1', hv1, _, hc1⟩ := (hD.ent h1).bytes
    obtain ⟨a2', c2', hv2, _, hc2⟩ := (hD.ent h2).bytes
    simp only [Value.slice.injEq, true_and] at hv1 hv2
    obtain ⟨rfl, rfl⟩ := hv1
    obtain ⟨rfl, rfl⟩ := hv2
    rcases hc1 with rfl | ⟨g1, o1, rfl, hc1⟩
    · simp at hlt; omega
    rcases hc2 with rfl | ⟨g2, o2, rfl, hc2⟩
    · simp at hlt; omega
    have x1 := hc1 i (by omega)
    have x2 := hc2 i (by omega)
    simp only [bv] at x1 x2
    simp -dsimp -implicitDefEqProofs (disch := omega) only [go_sem, reqD_of, dec_t, dec_f, wrap_i64, wrap_u32, wrap_u64, wrap_u8, hds, e0, e1, e5, hlt, x1, x2]
    exact ⟨⟨i + 1, by omega, by omega, hD⟩, by omega⟩
  · simp -dsimp -implicitDefEqProofs (disch := omega) only [go_sem, reqD_of, dec_t, dec_f, wrap_i64, wrap_u32, wrap_u64, wrap_u8, hds, e0, e1, e5, hlt]
    exact h
end
section
attribute [local go_sem] F10.t9_eq F10.t10_eq F10.t14_eq F10.t15_eq F10.t17_eq F10.t12_eq F10.t7_eq F10.t5_eq F10.t3_eq
theorem sameMsg_any (hm : MOk m) (h1 : MsgI F m vn vq vd) (h2 : MsgI F m un uq ud) (h : St w0 F w) :
    Calls Tryz.prog 10 #[.agg (msgC m vn vq vd).toArray, .agg (msgC m un uq ud).toArray] w fun e w' => St w0 F w' ∧ e = .returned (.bool true) := by
  obtain ⟨an, cn, rfl⟩ := h.textsForm h1.names
  obtain ⟨aq, cq, rfl⟩ := h.qidsForm h1.qids
  obtain ⟨ad, cd, rfl, _⟩ := (h.ent h1.data).bytes
  obtain ⟨bn, dn, rfl⟩ := h.textsForm h2.names
  obtain ⟨bq, dq, rfl⟩ := h.qidsForm h2.qids
  obtain ⟨bd, dd, rfl, _⟩ := (h.ent h2.data).bytes
  have hmn := hm.names
  have hmq := hm.qids
  have hmd := hm.data
  refine F10.calls (by simp) ?_
  unfold F10.code
  simp -dsimp -implicitDefEqProofs (disch := omega) only [go_sem, reqD_of, dec_t, dec_f, wrap_i64, wrap_u32, wrap_u64, wrap_u8]
  refine h.new fun X w1 k1 => ?_
  have k1 : St w0 (Blk X (msgB m (.slice an m.names.length cn) (.slice aq m.qids.length cq) (.slice ad m.data.length cd)) * F) w1 := k1
  simp -dsimp -implicitDefEqProofs (disch := omega) only [go_sem, reqD_of, dec_t, dec_f, wrap_i64, wrap_u32, wrap_u64, wrap_u8]
  refine k1.new fun Y w2 k2 => ?_
  have k2 : St w0 (Blk Y (msgB m (.slice bn m.names.length dn) (.slice bq m.qids.length dq) (.slice bd m.data.length dd)) * (Blk X (msgB m (.slice an m.names.length cn) (.slice aq m.qids.length cq) (.slice ad m.data.length cd)) * F)) w2 := k2
  simp -dsimp -implicitDefEqProofs (disch := omega) only [go_sem, reqD_of, dec_t, dec_f, wrap_i64, wrap_u32, wrap_u64, wrap_u8, k2.cl X, k2.cl Y, seq_dec]
  refine (sameB_any (l := m.data) (by omega) ((Ent.right _ _).trans ((Ent.right _ _).trans h1.data)) ((Ent.right _ _).trans ((Ent.right _ _).trans h2.data)) k2).mono ?_
  rintro e w3 ⟨k3, rfl⟩
  simp -dsimp -implicitDefEqProofs (disch := omega) only [go_sem, reqD_of, dec_t, dec_f, wrap_i64, wrap_u32, wrap_u64, wrap_u8]
  refine loop_intro (fun e w' => e.ds = [] ∧ e.ρ 2 = .pointer (some ⟨X, 0, none⟩) ∧ e.ρ 3 = .pointer (some ⟨Y, 0, none⟩) ∧ ∃ i : Nat, i ≤ m.names.length ∧ e.ρ 5 = .int .i64 i ∧ St w0 (Blk Y (msgB m (.slice bn m.names.length dn) (.slice bq m.qids.length dq) (.slice bd m.data.length dd)) * (Blk X (msgB m (.slice an m.names.length cn) (.slice aq m.qids.length cq) (.slice ad m.data.length cd)) * F)) w')
    (fun e _ => match e.ρ 5 with | .int _ i => (m.names.length - i).toNat | _ => 0) ?_ ?_
  · exact ⟨rfl, by simp -dsimp -implicitDefEqProofs only [go_sem], by simp -dsimp -implicitDefEqProofs only [go_sem], 0, by omega, by simp -dsimp -implicitDefEqProofs only [go_sem], k3⟩
  clear h k1 k2 k3
  rintro e w ⟨hds, e2, e3, i, hi, e5, h⟩
  by_cases hlt : (i : Int) < m.names.length
  · have hil : i < m.names.length := by omega
    have hD := h.drew
    obtain ⟨g1, o1, rfl, c1⟩ := hD.textAt ((Ent.right _ _).trans ((Ent.right _ _).trans h1.names)) hil
    obtain ⟨g2, o2, rfl, c2⟩ := hD.textAt ((Ent.right _ _).trans ((Ent.right _ _).trans h2.names)) hil
    simp -dsimp -implicitDefEqProofs (disch := omega) only [go_sem, reqD_of, dec_t, dec_f, wrap_i64, wrap_u32, wrap_u64, wrap_u8, hds, e2, e3, e5, hlt, h.cl X, h.cl Y, hD.cl X, hD.cl Y, c1, c2, seq_dec]
    exact ⟨⟨i + 1, by omega, by omega, hD⟩, by omega⟩
  · simp -dsimp -implicitDefEqProofs (disch := omega) only [go_sem, reqD_of, dec_t, dec_f, wrap_i64, wrap_u32, wrap_u64, wrap_u8, hds, e2, e3, e5, hlt, h.cl X, h.cl Y]
    refine loop_intro (fun e w' => e.ds = [] ∧ e.ρ 2 = .pointer (some ⟨X, 0, none⟩) ∧ e.ρ 3 = .pointer (some ⟨Y, 0, none⟩) ∧ ∃ i : Nat, i ≤ m.qids.length ∧ e.ρ 6 = .int .i64 i ∧ St w0 (Blk Y (msgB m (.slice bn m.names.length dn) (.slice bq m.qids.length dq) (.slice bd m.data.length dd)) * (Blk X (msgB m (.slice an m.names.length cn) (.slice aq m.qids.length cq) (.slice ad m.data.length cd)) * F)) w')
      (fun e _ => match e.ρ 6 with | .int _ i => (m.qids.length - i).toNat | _ => 0) ?_ ?_
    · exact ⟨by simp -dsimp -implicitDefEqProofs only [go_sem, hds], by simp -dsimp -implicitDefEqProofs only [go_sem, e2], by simp -dsimp -implicitDefEqProofs only [go_sem, e3], 0, by omega, by simp -dsimp -implicitDefEqProofs only [go_sem], h⟩
    clear h hds e2 e3 e5 hlt hi
    rintro e w ⟨hds, e2, e3, i, hi, e6, h⟩
    by_cases hlt : (i : Int) < m.qids.length
    · have hil : i < m.qids.length := by omega
      have hD := h.drew
      obtain ⟨g1, o1, rfl, c0, c1, c2⟩ := hD.qidAt ((Ent.right _ _).trans ((Ent.right _ _).trans h1.qids)) hil
      obtain ⟨g2, o2, rfl, d0, d1, d2⟩ := hD.qidAt ((Ent.right _ _).trans ((Ent.right _ _).trans h2.qids)) hil
      simp -dsimp -implicitDefEqProofs (disch := omega) only [go_sem, reqD_of, dec_t, dec_f, wrap_i64, wrap_u32, wrap_u64, wrap_u8, hds, e2, e3, e6, hlt, h.cl X, h.cl Y, hD.cl X, hD.cl Y, c0, c1, c2, d0, d1, d2, seq_dec]
      exact ⟨⟨i + 1, by omega, by omega, hD⟩, by omega⟩
    · simp -dsimp -implicitDefEqProofs (disch := omega) only [go_sem, reqD_of, dec_t, dec_f, wrap_i64, wrap_u32, wrap_u64, wrap_u8, hds, e2, e3, e6, hlt, h.cl X, h.cl Y]
      exact h.right.right
end
end
end Go.Proofs.YtmiohkmcnppaeaaGreatDoor

namespace Go.Proofs.YtmiohkmcnppaeaaGreatDoor
open Go
set_option linter.unusedVariables false
set_option linter.unusedSimpArgs false
set_option maxRecDepth 100000

structure StatNum (d : StatD) : Prop where
  ty : d.ty < 65536
  dev : d.dev < 4294967296
  qk : d.qk < 256
  qv : d.qv < 4294967296
  qp : d.qp < 18446744073709551616
  mode : d.mode < 4294967296
  at' : d.at' < 4294967296
  mt : d.mt < 4294967296
  len : d.len < 18446744073709551616
structure MNum (m : MsgD) : Prop where
  kind : m.kind < 256
  tag : m.tag < 65536
  msize : m.msize < 4294967296
  afid : m.afid < 4294967296
  oldtag : m.oldtag < 65536
  fid : m.fid < 4294967296
  newfid : m.newfid < 4294967296
  qids1 : ∀ q ∈ m.qids, QidOk q
  qid : QidOk m.qid
  mode : m.mode < 256
  iounit : m.iounit < 4294967296
  perm : m.perm < 4294967296
  offset : m.offset < 18446744073709551616
  count : m.count < 4294967296
  stat : StatNum m.stat
structure MLen (m : MsgD) : Prop where
  version : m.version.length ≤ 140737488351232
  uname : m.uname.length ≤ 140737488351232
  aname : m.aname.length ≤ 140737488351232
  ename : m.ename.length ≤ 140737488351232
  name : m.name.length ≤ 140737488351232
  names : m.names.length ≤ 140737488351232
  names1 : ∀ l ∈ m.names, l.length ≤ 140737488351232
  qids : m.qids.length ≤ 140737488351232
  data : m.data.length ≤ 140737488351232
  sname : m.stat.name.length ≤ 140737488351232
  suid : m.stat.uid.length ≤ 140737488351232
  sgid : m.stat.gid.length ≤ 140737488351232
  smuid : m.stat.muid.length ≤ 140737488351232
def w0N (m : MsgD) : Nat := 1 + m.version.length + m.uname.length + m.aname.length + m.ename.length + m.name.length + m.data.length + 13 * m.qids.length + (m.stat.name.length + m.stat.uid.length + m.stat.gid.length + m.stat.muid.length)
def namesN (ls : List (List UInt8)) : Nat := (ls.map fun l => 2 + l.length).sum
def weightN (m : MsgD) : Nat := w0N m + namesN m.names
theorem namesN_mem : ∀ {ls : List (List UInt8)}, (∀ l ∈ ls, l.length ≤ namesN ls) ∧ 2 * ls.length ≤ namesN ls
  | [] => ⟨fun _ h => absurd h List.not_mem_nil, Nat.zero_le _⟩
  | x :: ls => by
    have ih := namesN_mem (ls := ls)
    have e : namesN (x :: ls) = 2 + x.length + namesN ls := by simp [namesN]
    rw [e]
    refine ⟨fun l h => ?_, by simp only [List.length_cons]; omega⟩
    rcases List.mem_cons.1 h with rfl | h
    · omega
    · have := ih.1 l h; omega
theorem namesN_succ {ls : List (List UInt8)} {i : Nat} (hi : i < ls.length) : namesN (ls.take (i + 1)) = namesN (ls.take i) + (2 + ls[i].length) := by
  unfold namesN
  rw [List.take_succ_eq_append_getElem hi, List.map_append, List.sum_append]
  simp
theorem MOk.of {m : MsgD} (h : MNum m) (hw : weightN m ≤ 2147483647) : MOk m := by
  have hn := namesN_mem (ls := m.names)
  have h2 := hn.2
  have hw2 : w0N m + namesN m.names ≤ 2147483647 := hw
  have hw3 := hw2
  unfold w0N at hw3
  refine { kind := h.kind, tag := h.tag, msize := h.msize, version := by omega, afid := h.afid, uname := by omega, aname := by omega, ename := by omega, oldtag := h.oldtag, fid := h.fid, newfid := h.newfid, names := by omega, names1 := fun l hl => ?_, qids := by omega, qids1 := h.qids1, qid := h.qid, mode := h.mode, iounit := h.iounit, name := by omega, perm := h.perm, offset := h.offset, count := h.count, data := by omega, stat := ⟨h.stat.ty, h.stat.dev, h.stat.qk, h.stat.qv, h.stat.qp, h.stat.mode, h.stat.at', h.stat.mt, h.stat.len, by omega, by omega, by omega, by omega⟩ }
  have := hn.1 l hl
  omega
abbrev XMsg := MsgD × Value × Value × Value
abbrev xC (x : XMsg) : List Value := msgC x.1 x.2.1 x.2.2.1 x.2.2.2
/-- A list of messages, to be read. -/
structure MsgsI (A : HP) (v : Value) (xs : List XMsg) : Prop where
  list : Ent A (Reads 36 v xs.length (xs.flatMap xC))
  each : ∀ x ∈ xs, MsgI A x.1 x.2.1 x.2.2.1 x.2.2.2
theorem MsgsI.under {A B : HP} {v : Value} {xs : List XMsg} (h : MsgsI A v xs) (k : Ent B A) : MsgsI B v xs := ⟨k.trans h.list, fun x hx => (h.each x hx).under k⟩
section
variable {w0 w : World} {F A : HP} {m : MsgD} {vn vq vd : Value} {xs : List XMsg} {a : Option Addr} {c : Nat}
theorem MsgsI.form {v : Value} (h : St w0 F w) (hi : MsgsI F v xs) : ∃ a c, v = .slice a xs.length c ∧ xs.length ≤ c := by
  obtain ⟨_, a, c, rfl, hc, _⟩ := St.rowsAt (k := 36) (l := xs) (enc := xC) (fun _ => rfl) (by decide) (h.ent hi.list)
  exact ⟨a, c, rfl, hc⟩
theorem MsgsI.at (hi : MsgsI F (.slice a xs.length c) xs) (h : St w0 F w) {i : Nat} (hil : i < xs.length) : ∃ g o, a = some ⟨g, o, none⟩ ∧ rowV w ⟨g, o + i * 36, none⟩ 36 = some (.agg (xC xs[i]).toArray) := by
  obtain ⟨_, a', c', hv', _, hcl⟩ := St.rowsAt (k := 36) (l := xs) (enc := xC) (fun _ => rfl) (by decide) (h.ent hi.list)
  simp only [Value.slice.injEq, true_and] at hv'
  obtain ⟨rfl, rfl⟩ := hv'
  obtain ⟨g, o, rfl, hr, _⟩ := hcl i hil
  exact ⟨g, o, rfl, hr⟩
section
attribute [local go_sem] F15.t5_eq F15.t6_eq F15.t7_eq
theorem weight_any (hL : MLen m) (hi : MsgI F m vn vq vd) (h : St w0 F w) :
    Calls Tryz.prog 15 #[.agg (msgC m vn vq vd).toArray] w fun e w' => ∃ k : Nat, k ≤ 4503599627370496 ∧ (k ≤ 2147483647 → k = weightN m) ∧ St w0 F w' ∧ e = .returned (.int .i64 k) := by
  obtain ⟨an, cn, rfl⟩ := h.textsForm hi.names
  obtain ⟨aq, cq, rfl⟩ := h.qidsForm hi.qids
  obtain ⟨ad, cd, rfl, _⟩ := (h.ent hi.data).bytes
  have l1 := hL.version
  have l2 := hL.uname
  have l3 := hL.aname
  have l4 := hL.ename
  have l5 := hL.name
  have l6 := hL.names
  have l7 := hL.qids
  have l8 := hL.data
  have l9 := hL.sname
  have l10 := hL.suid
  have l11 := hL.sgid
  have l12 := hL.smuid
  refine F15.calls (by simp) ?_
  unfold F15.code
  simp -dsimp -implicitDefEqProofs (disch := omega) only [go_sem, reqD_of, dec_t, dec_f, wrap_i64, wrap_u32, wrap_u64, wrap_u8]
  refine h.new fun M w1 h1 => ?_
  have h1 : St w0 (Blk M (msgB m (.slice an m.names.length cn) (.slice aq m.qids.length cq) (.slice ad m.data.length cd)) * F) w1 := h1
  simp -dsimp -implicitDefEqProofs (disch := omega) only [go_sem, reqD_of, dec_t, dec_f, wrap_i64, wrap_u32, wrap_u64, wrap_u8, h1.cl M, strOf_size]
  have hwb : w0N m ≤ 4503599627370496 := by unfold w0N; omega
  refine loop_intro (fun e w' => e.ds = [] ∧ e.ρ 1 = .pointer (some ⟨M, 0, none⟩) ∧ ∃ i k : Nat, i ≤ m.names.length ∧ e.ρ 4 = .int .i64 i ∧ e.ρ 3 = .int .i64 k ∧ k ≤ 4503599627370496 ∧ k = w0N m + namesN (m.names.take i) ∧ St w0 (Blk M (msgB m (.slice an m.names.length cn) (.slice aq m.qids.length cq) (.slice ad m.data.length cd)) * F) w')
    (fun e _ => match e.ρ 4 with | .int _ i => (m.names.length - i).toNat | _ => 0) ?_ ?_
  · refine ⟨rfl, by simp -dsimp -implicitDefEqProofs only [go_sem], 0, w0N m, by omega, by simp -dsimp -implicitDefEqProofs only [go_sem], ?_, hwb, by simp [namesN], h1⟩
    simp -dsimp -implicitDefEqProofs only [go_sem]
    unfold w0N
    omega
  clear h h1
  rintro e w ⟨hds, e1, i, k, hi', e4, e3, hk, hk2, h⟩
  by_cases hlt : (i : Int) < m.names.length
  · have hil : i < m.names.length := by omega
    by_cases hk3 : (k : Int) ≤ 2147483647
    · obtain ⟨g1, o1, rfl, c1⟩ := h.textAt ((Ent.right _ _).trans hi.names) hil
      have hb := hL.names1 _ (List.getElem_mem hil)
      have hs := namesN_succ hil
      obtain ⟨l, hl⟩ : ∃ l, l = m.names[i] := ⟨_, rfl⟩
      rw [← hl] at c1 hb hs
      simp -dsimp -implicitDefEqProofs (disch := omega) only [go_sem, reqD_of, dec_t, dec_f, wrap_i64, wrap_u32, wrap_u64, wrap_u8, hds, e1, e3, e4, hlt, hk3, h.cl M, c1, strOf_size]
      exact ⟨⟨i + 1, k + (2 + l.length), by omega, by omega, by omega, by omega, by omega, h⟩, by omega⟩
    · simp -dsimp -implicitDefEqProofs (disch := omega) only [go_sem, reqD_of, dec_t, dec_f, wrap_i64, wrap_u32, wrap_u64, wrap_u8, hds, e1, e3, e4, hlt, hk3, h.cl M]
      exact ⟨k, hk, fun h => absurd h (by omega), h.right, rfl⟩
  · obtain rfl : i = m.names.length := by omega
    rw [List.take_of_length_le (Nat.le_refl _)] at hk2
    simp -dsimp -implicitDefEqProofs (disch := omega) only [go_sem, reqD_of, dec_t, dec_f, wrap_i64, wrap_u32, wrap_u64, wrap_u8, hds, e1, e3, e4, hlt, h.cl M]
    exact ⟨k, hk, fun _ => hk2, h.right, rfl⟩
def allN (xs : List XMsg) : Nat := (xs.map fun x => weightN x.1 + 33373).sum
theorem allN_mem : ∀ {xs : List XMsg}, (∀ x ∈ xs, weightN x.1 ≤ allN xs) ∧ 33373 * xs.length ≤ allN xs
  | [] => ⟨fun _ h => absurd h List.not_mem_nil, Nat.zero_le _⟩
  | x :: xs => by
    have ih := allN_mem (xs := xs)
    have e : allN (x :: xs) = weightN x.1 + 33373 + allN xs := by simp [allN]
    rw [e]
    refine ⟨fun y h => ?_, by simp only [List.length_cons]; omega⟩
    rcases List.mem_cons.1 h with rfl | h
    · omega
    · have := ih.1 y h; omega
theorem allN_succ {xs : List XMsg} {i : Nat} (hi : i < xs.length) : allN (xs.take (i + 1)) = allN (xs.take i) + (weightN xs[i].1 + 33373) := by
  unfold allN
  rw [List.take_succ_eq_append_getElem hi, List.map_append, List.sum_append]
  simp
end
section
attribute [local go_sem] F4.t4_eq F4.t5_eq F4.t6_eq
theorem beyond_any {v : Value} {more : Nat} (hmore : more ≤ 4503599627370496) (hL : ∀ x ∈ xs, MLen x.1) (hi : MsgsI F v xs) (h : St w0 F w) :
    Calls Tryz.prog 4 #[v, .int .i64 more] w fun e w' => ∃ B : Bool, (B = false → more + allN xs ≤ 2147483647) ∧ St w0 F w' ∧ e = .returned (.bool B) := by
  obtain ⟨a, c, rfl, _⟩ := hi.form h
  refine F4.calls (by simp) ?_
  unfold F4.code
  simp -dsimp -implicitDefEqProofs (disch := omega) only [go_sem, reqD_of, dec_t, dec_f, wrap_i64, wrap_u32, wrap_u64, wrap_u8]
  refine loop_intro (fun e w' => e.ds = [] ∧ e.ρ 0 = .slice a xs.length c ∧ ∃ i k : Nat, i ≤ xs.length ∧ e.ρ 6 = .int .i64 i ∧ e.ρ 5 = .int .i64 k ∧ k ≤ 9007199254740992 ∧ (k ≤ 2147483647 → k = more + allN (xs.take i)) ∧ St w0 F w')
    (fun e _ => match e.ρ 6 with | .int _ i => (xs.length - i).toNat | _ => 0) ?_ ?_
  · exact ⟨rfl, by simp -dsimp -implicitDefEqProofs only [go_sem], 0, more, by omega, by simp -dsimp -implicitDefEqProofs only [go_sem], by simp -dsimp -implicitDefEqProofs only [go_sem], by omega, fun _ => by simp [allN], h⟩
  clear h
  rintro e w ⟨hds, e0, i, k, hi', e6, e5, hk, hk2, h⟩
  by_cases hlt : (i : Int) < xs.length
  · have hil : i < xs.length := by omega
    by_cases hk3 : (k : Int) ≤ 2147483647
    · obtain ⟨g1, o1, rfl, c1⟩ := hi.at h hil
      have hs := allN_succ hil
      have him := (allN_mem (xs := xs.take i)).2
      rw [List.length_take, Nat.min_eq_left hi'] at him
      have hk5 := hk2 (by omega)
      have hl1 := hL _ (List.getElem_mem hil)
      have he1 := hi.each _ (List.getElem_mem hil)
      obtain ⟨x, hx⟩ : ∃ x, x = xs[i] := ⟨_, rfl⟩
      rw [← hx] at c1 hs hl1 he1
      simp -dsimp -implicitDefEqProofs (disch := omega) only [go_sem, reqD_of, dec_t, dec_f, wrap_i64, wrap_u32, wrap_u64, wrap_u8, hds, e0, e5, e6, hlt, hk3, c1]
      refine (weight_any hl1 he1 h).mono ?_
      rintro e' w1 ⟨k1, kb, kw, h1, rfl⟩
      simp -dsimp -implicitDefEqProofs (disch := omega) only [go_sem, reqD_of, dec_t, dec_f, wrap_i64, wrap_u32, wrap_u64, wrap_u8, hds, e0, e5, e6]
      exact ⟨⟨i + 1, k + (k1 + 33373), by omega, by omega, by omega, by omega, (fun h => by have := kw (by omega); omega), h1⟩, by omega⟩
    · have hk4 : (2147483647 : Int) < k := by omega
      simp -dsimp -implicitDefEqProofs (disch := omega) only [go_sem, reqD_of, dec_t, dec_f, wrap_i64, wrap_u32, wrap_u64, wrap_u8, hds, e0, e5, e6, hlt, hk3, hk4]
      exact ⟨true, (fun h => by cases h), h, rfl⟩
  · obtain rfl : i = xs.length := by omega
    rw [List.take_of_length_le (Nat.le_refl _)] at hk2
    by_cases hk3 : (2147483647 : Int) < k
    · simp -dsimp -implicitDefEqProofs (disch := omega) only [go_sem, reqD_of, dec_t, dec_f, wrap_i64, wrap_u32, wrap_u64, wrap_u8, hds, e0, e5, e6, hlt, hk3]
      exact ⟨true, (fun h => by cases h), h, rfl⟩
    · simp -dsimp -implicitDefEqProofs (disch := omega) only [go_sem, reqD_of, dec_t, dec_f, wrap_i64, wrap_u32, wrap_u64, wrap_u8, hds, e0, e5, e6, hlt, hk3]
      exact ⟨false, (fun _ => by have := hk2 (by omega); omega), h, rfl⟩
def verM : MsgD := { zeroM with kind := 100, tag := 65535, msize := 8192, version := [57, 80, 50, 48, 48, 48] }
theorem verM_ok : MOk verM := by
  refine ⟨?_, ?_, ?_, ?_, ?_, ?_, ?_, ?_, ?_, ?_, ?_, ?_, ?_, ?_, ?_, ?_, ?_, ?_, ?_, ?_, ?_, ?_, ?_, ?_⟩ <;> first | decide | exact ⟨by decide, by decide, by decide⟩ | exact fun _ h => absurd h List.not_mem_nil | exact ⟨by decide, by decide, by decide, by decide, by decide, by decide, by decide, by decide, by decide, by decide, by decide, by decide, by decide⟩
theorem verM_nil (A : HP) : MsgI A verM (.slice none 0 0) (.slice none 0 0) (.slice none 0 0) :=
  ⟨(Ent.nilRowO 9 1 A).trans ((Ent.left _ _).trans (RowO.reads _ _ _ _ _)), (Ent.nilRowO 35 3 A).trans ((Ent.left _ _).trans (RowO.reads _ _ _ _ _)), (Ent.nilRowO 5 1 A).trans ((Ent.left _ _).trans (RowO.reads _ _ _ _ _))⟩
end

theorem version_any (h : St w0 F w) :
    Calls Tryz.prog 6 #[] w fun e w' => St w0 F w' ∧ e = .returned (.agg (msgC verM (.slice none 0 0) (.slice none 0 0) (.slice none 0 0)).toArray) := by
  refine F6.calls (by simp) ?_
  unfold F6.code
  simp -dsimp -implicitDefEqProofs (disch := omega) only [go_sem, reqD_of, dec_t, dec_f, wrap_i64, wrap_u32, wrap_u64, wrap_u8]
  refine h.new fun T w1 h1 => ?_
  simp -dsimp -implicitDefEqProofs (disch := omega) only [go_sem, reqD_of, dec_t, dec_f, wrap_i64, wrap_u32, wrap_u64, wrap_u8]
  refine onV_of (v := .agg (msgC verM (.slice none 0 0) (.slice none 0 0) (.slice none 0 0)).toArray) (by kernel_rfl) ?_
  simp -dsimp -implicitDefEqProofs (disch := omega) only [go_sem, reqD_of, dec_t, dec_f, wrap_i64, wrap_u32, wrap_u64, wrap_u8]
  refine h1.stoAll (b := T) (n := 36) (cs := msgC verM (.slice none 0 0) (.slice none 0 0) (.slice none 0 0)) rfl rfl (msgCells rfl rfl rfl) fun w4 h4 => ?_
  simp -dsimp -implicitDefEqProofs (disch := omega) only [go_sem, reqD_of, dec_t, dec_f, wrap_i64, wrap_u32, wrap_u64, wrap_u8]
  have hr2 : rowV w4 ⟨T, 0, none⟩ 36 = some (.agg (msgC verM (.slice none 0 0) (.slice none 0 0) (.slice none 0 0)).toArray) := h4.rowH T 36 rfl
  refine resC_1 (a := ⟨T, 0, none⟩) (by simp -dsimp -implicitDefEqProofs only [go_sem]) (run_loadVar_row fact_aggSz_39 hr2) ?_
  exact ⟨h4.right, rfl⟩
end
end Go.Proofs.YtmiohkmcnppaeaaGreatDoor

namespace Go.Proofs.YtmiohkmcnppaeaaGreatDoor
open Go
set_option linter.unusedVariables false
set_option linter.unusedSimpArgs false
set_option maxRecDepth 100000

theorem sizeL_le {n : Nat} {r : List UInt8} (hn : n < 4294967296) : sizeL (leN 4 n ++ r) = n := by
  have e : leN 4 n ++ r = UInt8.ofNat (n % 256) :: UInt8.ofNat (n / 256 % 256) :: UInt8.ofNat (n / 256 / 256 % 256) :: UInt8.ofNat (n / 256 / 256 / 256 % 256) :: r := by simp [leN]
  rw [e]
  simp only [sizeL, size4, List.getD_cons_zero, List.getD_cons_succ]
  rw [ofNat_toNat (by omega), ofNat_toNat (by omega), ofNat_toNat (by omega), ofNat_toNat (by omega)]
  omega
theorem frameM_is {fs : List Nat} {m : MsgD} (h : mayM fs m) : IsFrame 65536 (frameM fs m) := by
  have hl := frameM_len fs m
  have hm := h.2.2
  refine ⟨?_, by omega, by omega⟩
  rw [hl, frameM]
  exact sizeL_le (by omega)
/-- What can be encoded, with its frame. -/
def encL (ms : List MsgD) : List (MsgD × List UInt8) := ms.filterMap fun m => (encF m).map fun b => (m, b)
theorem encL_succ {ms : List MsgD} {i : Nat} (hi : i < ms.length) : encL (ms.take (i + 1)) = encL (ms.take i) ++ (match encF ms[i] with | some b => [(ms[i], b)] | none => []) := by
  unfold encL
  rw [List.take_succ_eq_append_getElem hi, List.filterMap_append]
  congr 1
  cases h : encF ms[i] <;> simp [h]
theorem encL_mem {ms : List MsgD} {x : MsgD × List UInt8} (h : x ∈ encL ms) : x.1 ∈ ms ∧ encF x.1 = some x.2 := by
  unfold encL at h
  rw [List.mem_filterMap] at h
  obtain ⟨m, hm, he⟩ := h
  cases hb : encF m with
  | none => rw [hb] at he; cases he
  | some b =>
    rw [hb] at he
    simp only [Option.map_some, Option.some.injEq] at he
    subst he
    exact ⟨hm, hb⟩
def framesL (E : List (MsgD × List UInt8)) : List (List UInt8) := E.map (·.2)
theorem framesL_is {ms : List MsgD} : ∀ f ∈ framesL (encL ms), IsFrame 65536 f := by
  intro f hf
  unfold framesL at hf
  rw [List.mem_map] at hf
  obtain ⟨x, hx, rfl⟩ := hf
  obtain ⟨_, he⟩ := encL_mem hx
  obtain ⟨fs, _, hm, hb⟩ := encF_some he
  rw [hb]
  exact frameM_is hm
theorem encL_len (ms : List MsgD) : (encL ms).length ≤ ms.length := List.length_filterMap_le _ _
theorem frames_len {fs : List (List UInt8)} (h : ∀ f ∈ fs, IsFrame 65536 f) : fs.flatten.length ≤ 65536 * fs.length := by
  induction fs with
  | nil => simp
  | cons f fs ih =>
    have := (h f (by simp)).high
    have := ih fun g hg => h g (by simp [hg])
    simp only [List.flatten_cons, List.length_append, List.length_cons]
    omega
theorem framesOf_all {fs : List (List UInt8)} (h : ∀ f ∈ fs, IsFrame 65536 f) : framesOf 65536 fs.flatten = fs := by
  have := framesOf_app fs [] h
  rw [List.append_nil] at this
  rw [this, framesOf, dif_neg (by simp), List.append_nil]
theorem CInv.pre {fs got : List (List UInt8)} {at_ : Nat} {r : RC} (hf : ∀ f ∈ fs, IsFrame 65536 f) (h : CInv 65536 fs.flatten got at_ r) : ∃ rest, fs = got ++ rest ∧ rest.flatten = r.hand ++ fs.flatten.drop at_ := by
  have hb : fs.flatten = got.flatten ++ (r.hand ++ fs.flatten.drop at_) := by
    have := List.take_append_drop at_ fs.flatten
    rw [h.split, List.append_assoc] at this
    exact this.symm
  have h1 := framesOf_app got (r.hand ++ fs.flatten.drop at_) h.frames
  rw [← hb, framesOf_all hf] at h1
  refine ⟨framesOf 65536 (r.hand ++ fs.flatten.drop at_), h1, ?_⟩
  have h2 := congrArg List.flatten h1
  rw [List.flatten_append] at h2
  exact List.append_cancel_left (h2.symm.trans hb)
theorem CInv.live' {fs got : List (List UInt8)} {at_ : Nat} {r : RC} (hf : ∀ f ∈ fs, IsFrame 65536 f) (h : CInv 65536 fs.flatten got at_ r) : r.over = false := by
  cases ho : r.over with
  | false => rfl
  | true =>
    obtain ⟨d1, d2, _⟩ := h.dead ho
    obtain ⟨rest, e1, e2⟩ := h.pre hf
    cases rest with
    | nil =>
      have := congrArg List.length e2
      simp only [List.flatten_nil, List.length_nil, List.length_append] at this
      omega
    | cons f rest =>
      have hif := hf f (by rw [e1]; simp)
      have hl := hif.low
      have hh := hif.high
      have hs := hif.size
      rw [List.flatten_cons] at e2
      have e3 : r.hand = f.take 4 := by
        have := congrArg (List.take 4) e2
        rw [List.take_append_of_le_length (by omega), List.take_append_of_le_length (by omega), List.take_of_length_le (l := r.hand) (by omega)] at this
        exact this.symm
      have e4 := sizeL_app (f.take 4) (by rw [List.length_take]; omega) (f.drop 4)
      rw [List.take_append_drop] at e4
      rw [e3] at d2
      omega
theorem MOk.move {n : Nat} {t m : MsgD} (ht : MOk t) (hm : MOk m) : MOk (moveF n t m) := by
  obtain ⟨a1, a2, a3, a4, a5, a6, a7, a8, a9, a10, a11, a12, a13, a14, a15, a16, a17, a18, a19, a20, a21, a22, a23, a24⟩ := ht
  obtain ⟨b1, b2, b3, b4, b5, b6, b7, b8, b9, b10, b11, b12, b13, b14, b15, b16, b17, b18, b19, b20, b21, b22, b23, b24⟩ := hm
  unfold moveF
  split <;> (constructor <;> assumption)
theorem MOk.moveA {m : MsgD} (hm : MOk m) : ∀ {fs : List Nat} {t : MsgD}, MOk t → MOk (moveA fs t m)
  | [], t, ht => ht
  | n :: fs, t, ht => by show MOk (Proofs.YtmiohkmcnppaeaaGreatDoor.moveA fs (moveF n t m) m); exact hm.moveA (ht.move hm)
theorem zeroM_ok : MOk zeroM := by
  refine ⟨?_, ?_, ?_, ?_, ?_, ?_, ?_, ?_, ?_, ?_, ?_, ?_, ?_, ?_, ?_, ?_, ?_, ?_, ?_, ?_, ?_, ?_, ?_, ?_⟩ <;> first | decide | exact ⟨by decide, by decide, by decide⟩ | exact fun _ h => absurd h List.not_mem_nil | exact ⟨by decide, by decide, by decide, by decide, by decide, by decide, by decide, by decide, by decide, by decide, by decide, by decide, by decide⟩
theorem MOk.head {m : MsgD} (hm : MOk m) : MOk (headM m) := ⟨hm.kind, hm.tag, zeroM_ok.msize, zeroM_ok.version, zeroM_ok.afid, zeroM_ok.uname, zeroM_ok.aname, zeroM_ok.ename, zeroM_ok.oldtag, zeroM_ok.fid, zeroM_ok.newfid, zeroM_ok.names, zeroM_ok.names1, zeroM_ok.qids, zeroM_ok.qids1, zeroM_ok.qid, zeroM_ok.mode, zeroM_ok.iounit, zeroM_ok.name, zeroM_ok.perm, zeroM_ok.offset, zeroM_ok.count, zeroM_ok.data, zeroM_ok.stat⟩
theorem MOk.clean {m : MsgD} (hm : MOk m) : MOk (cleanF m) := by
  unfold cleanF
  exact hm.moveA hm.head
theorem verM_enc : ∃ b, encF verM = some b := by
  refine ⟨frameM [0, 1] verM, ?_⟩
  exact encF_of rfl (by decide)
theorem verM_clean : cleanF verM = verM := rfl
/-- What is wanted, each with its own lists, ahead of F. -/
def WantP (F : HP) : List XMsg → HP
  | [] => F
  | x :: l => MsgL x.1 x.2.1 x.2.2.1 x.2.2.2 * WantP F l
theorem WantP.rest (F : HP) : ∀ l, Ent (WantP F l) F
  | [] => Ent.rfl' _
  | x :: l => (Ent.right _ _).trans (WantP.rest F l)
theorem WantP.get {F : HP} {x : XMsg} : ∀ {l}, x ∈ l → MsgI (WantP F l) x.1 x.2.1 x.2.2.1 x.2.2.2
  | y :: l, h => by
    rcases List.mem_cons.1 h with rfl | h
    · exact (MsgL.input _ _ _ _).under (Ent.left _ _)
    · exact (WantP.get h).under (Ent.right _ _)
instance {F : HP} {L : List XMsg} [i : Gives F Tabs] : Gives (WantP F L) Tabs := ⟨(WantP.rest F L).trans i.ent⟩
end Go.Proofs.YtmiohkmcnppaeaaGreatDoor

namespace Go.Proofs.YtmiohkmcnppaeaaGreatDoor
open Go
set_option linter.unusedVariables false
set_option linter.unusedSimpArgs false
set_option maxRecDepth 100000

abbrev uC (n : Nat) : Value := .int .u16 n
abbrev rxB (b : List UInt8) (va : Value) : HP := RowO 5 1 va b.length (byR b)
abbrev rxW (wants : List XMsg) (vw : Value) : HP := RowO 39 36 vw wants.length (wants.flatMap xC)
theorem Row.rdB2 {v : Value} {n : Nat} {bs : List UInt8} {F : HP} (hn : n = bs.length) : Ent (Row 5 1 v n (bs.map bv) * F) (RdB v bs) := by
  subst hn
  exact (Ent.left _ _).trans (Row.reads _ _ _ _ _)
theorem RdB.pre {n c : Nat} {a : Option Addr} {bs : List UInt8} (h : n ≤ bs.length) : Ent (RdB (.slice a bs.length c) bs) (RdB (.slice a n c) (bs.take n)) := by
  have k := RdB.sub (a := a) (c := c) (bs := bs) (lo := 0) (k := n) (by omega)
  have e1 : (if c = 0 then a else a.map (·.add 0)) = a := by
    split
    · rfl
    · cases a <;> rfl
  rw [e1, List.drop_zero, Nat.sub_zero] at k
  exact k
section
variable {w0 w : World} {F : HP} {C : Nat} {ms : List MsgD} {wants L : List XMsg} {cuts : List Nat} {ac : Option Addr} {cc : Nat} {va vw : Value} {b : List UInt8}
theorem St.cutAt {A : HP} (h : St w0 A w) (hv : Ent A (Reads 1 (.slice ac cuts.length cc) cuts.length (cuts.map uC))) {i : Nat} (hi : i < cuts.length) : ∃ g o, ac = some ⟨g, o, none⟩ ∧ w.cell? ⟨g, o + i, none⟩ = some (.int .u16 (cuts[i] : Nat)) := by
  rw [List.map_eq_flatMap] at hv
  obtain ⟨_, a', c', hv', _, hcl⟩ := St.rowsAt (k := 1) (l := cuts) (enc := fun n => [uC n]) (fun _ => rfl) (by decide) (h.ent hv)
  simp only [Value.slice.injEq, true_and] at hv'
  obtain ⟨rfl, rfl⟩ := hv'
  obtain ⟨g, o, rfl, _, hc⟩ := hcl i hi
  have hc := hc 0 (by decide)
  simp only [Nat.mul_one, Nat.add_zero, List.getElem?_cons_zero] at hc
  exact ⟨g, o, rfl, hc⟩
abbrev P2 (C : Nat) (r : RC) (b : List UInt8) (va : Value) (wants : List XMsg) (vw : Value) (F : HP) (L : List XMsg) : HP := CutR C r * (rxB b va * (rxW wants vw * WantP F L))
abbrev J2 (ac : Option Addr) (cc : Nat) (cuts : List Nat) (C : Nat) (b : List UInt8) (va : Value) (wants : List XMsg) (vw : Value) (F : HP) (L : List XMsg) (w0 : World) (e : FA) (w : World) : Prop :=
  e.ds = [] ∧ e.ρ 1 = .slice ac cuts.length cc ∧ e.ρ 5 = .pointer (some ⟨C, 0, none⟩) ∧ e.ρ 7 = vw ∧ ∃ (got : List (List UInt8)) (at_ : Nat) (r : RC) (v6 : Value) (k : Nat), e.ρ 6 = v6 ∧ e.ρ 12 = .int .i64 got.length ∧ e.ρ 13 = .int .i64 k ∧ CInv 65536 b got at_ r ∧ r.whole = false ∧ k ≤ cuts.length + at_ ∧ Ent (rxB b va) (RdB v6 (b.drop at_)) ∧ St w0 (P2 C r b va wants vw F L) w
section
attribute [local go_sem] F3.t17_eq F3.t12_eq F3.t13_eq F3.t37_eq F3.t31_eq F3.t28_eq F3.t24_eq F3.t25_eq F3.t40_eq F3.t21_eq F3.t19_eq F3.t6_eq F3.t3_eq
theorem wire_28 [Gives F Tabs] {Q : Post} {e : FA} {got : List (List UInt8)} {at_ n k : Nat} {r : RC} {a6 : Option Addr} {c6 : Nat} (hM : ∀ m ∈ ms, MOk m) (hbE : b = (framesL (encL ms)).flatten) (hw : wants.map (·.1) = (encL ms).map fun x => cleanF x.1) (hL : ∀ x ∈ wants, x ∈ L) (hbl : b.length ≤ 4398046511104)
    (hds : e.ds = []) (e1 : e.ρ 1 = .slice ac cuts.length cc) (e5 : e.ρ 5 = .pointer (some ⟨C, 0, none⟩)) (e6 : e.ρ 6 = .slice a6 (b.length - at_ : Nat) c6) (e7 : e.ρ 7 = vw) (e12 : e.ρ 12 = .int .i64 got.length) (e13 : e.ρ 13 = .int .i64 k) (e14 : e.ρ 14 = .int .i64 n)
    (hI : CInv 65536 b got at_ r) (hc6 : b.length - at_ ≤ c6) (hwh : r.whole = false) (hn : n ≤ b.length - at_) (hnk : cuts.length ≤ k → n = b.length - at_) (hpos : 0 < b.length - at_) (hv6 : Ent (rxB b va) (RdB (.slice a6 (b.length - at_ : Nat) c6) (b.drop at_)))
    (h : St w0 (P2 C r b va wants vw F L) w)
    (hQ : ∀ e' w', e'.ds = [] → e'.ρ 1 = .slice ac cuts.length cc → e'.ρ 5 = .pointer (some ⟨C, 0, none⟩) → e'.ρ 7 = vw → e'.ρ 13 = .int .i64 k → (∃ (got' : List (List UInt8)) (at' : Nat) (r' : RC) (a' : Option Addr) (c' : Nat), e'.ρ 6 = .slice a' (b.length - at' : Nat) c' ∧ e'.ρ 12 = .int .i64 got'.length ∧ CInv 65536 b got' at' r' ∧ r'.whole = false ∧ at_ ≤ at' ∧ (cuts.length ≤ k → at_ < at') ∧ Ent (rxB b va) (RdB (.slice a' (b.length - at' : Nat) c') (b.drop at')) ∧ St w0 (P2 C r' b va wants vw F L) w') → Q .normal e' w') :
    cwE Tryz.prog F3.t28 Q e w := by
  rw [F3.t28_eq]
  have hfr : ∀ f ∈ framesL (encL ms), IsFrame 65536 f := framesL_is
  have hwl : wants.length = (framesL (encL ms)).length := by
    have := congrArg List.length hw
    simpa [framesL] using this
  have ok := hI.ok
  have hle := hI.le
  have hdl : (b.drop at_).length = b.length - at_ := List.length_drop
  have q1 : (n : Int) ≤ c6 := by omega
  simp -dsimp -implicitDefEqProofs (disch := omega) only [go_sem, reqD_of, dec_t, dec_f, wrap_i64, wrap_u32, wrap_u64, wrap_u8, hds, e1, e5, e6, e7, e12, e13, e14, q1]
  have hpre : Ent (rxB b va) (RdB (.slice a6 n c6) ((b.drop at_).take n)) := by
    have k := RdB.pre (a := a6) (c := c6) (bs := b.drop at_) (n := n) (by omega)
    rw [hdl] at k
    exact hv6.trans k
  have hct : ((b.drop at_).take n).length = n := by rw [List.length_take, hdl]; omega
  refine (feedR h ((Ent.left _ _).trans hpre) ok (by omega)).mono ?_
  rintro e' w1 ⟨h1, rfl⟩
  obtain ⟨f1, f2, f3⟩ := hI.feed (n := n) (by omega) (by omega)
  obtain ⟨tk, htk⟩ : ∃ tk, tk = (r.feed ((b.drop at_).take n)).1 := ⟨_, rfl⟩
  obtain ⟨r1, hr1⟩ : ∃ r1, r1 = (r.feed ((b.drop at_).take n)).2 := ⟨_, rfl⟩
  rw [← htk, ← hr1] at f2 f3
  rw [← htk] at f1 ⊢
  rw [← hr1] at h1
  have ok1 := f2.ok
  have hle1 := f2.le
  have q2 : ¬ (tk : Int) < 0 := by omega
  have q3 : ¬ (n : Int) < tk := by omega
  have q4 : (tk : Int) ≤ (b.length - at_ : Nat) := by omega
  have q5 : (tk : Int) ≤ c6 := by omega
  have q6 : ((b.length - at_ : Nat) : Int) ≤ c6 := by omega
  have hlive : r1.over = false := by
    have f2' := f2
    rw [hbE] at f2'
    exact f2'.live' hfr
  have hprog : cuts.length ≤ k → at_ < at_ + tk := by
    intro hck
    have hn2 := hnk hck
    by_cases h0 : tk = 0
    · exfalso
      have hlive0 : r.over = false := by
        have hI' := hI
        rw [hbE] at hI'
        exact hI'.live' hfr
      have e1 : r1.hand = r.hand := by
        have a1 := f2.split
        have a2 := hI.split
        rw [h0, Nat.add_zero, a2] at a1
        exact (List.append_cancel_left a1).symm
      have e2 : r1.whole = false := by
        unfold RC.whole at hwh ⊢
        rw [hlive, e1]
        rw [hlive0] at hwh
        exact hwh
      have := f3 (by omega) e2
      rw [hlive] at this
      cases this
    · omega
  simp -dsimp -implicitDefEqProofs (disch := omega) only [go_sem, reqD_of, dec_t, dec_f, wrap_i64, wrap_u32, wrap_u64, wrap_u8, hds, e1, e5, e6, e7, e12, e13, e14, q2, q3, q4, q5, q6]
  have hv7 : Ent (rxB b va) (RdB (.slice (if c6 = tk then a6 else Option.map (fun x => x.add tk) a6) (b.length - (at_ + tk) : Nat) (c6 - tk)) (b.drop (at_ + tk))) := by
    have k1 := RdB.sub (a := a6) (c := c6) (bs := b.drop at_) (lo := tk) (k := b.length - (at_ + tk)) (by omega)
    rw [hdl] at k1
    have e2 : ((b.drop at_).drop tk).take (b.length - (at_ + tk)) = b.drop (at_ + tk) := by
      rw [List.drop_drop, List.take_of_length_le (by rw [List.length_drop]; omega)]
    rw [e2] at k1
    exact hv6.trans k1
  have q8 : b.length - at_ - tk = b.length - (at_ + tk) := by omega
  cases hw1 : r1.whole with
  | false =>
    refine (nextR_no h1 ok1 hw1).mono ?_
    rintro e' w2 ⟨h2, rfl⟩
    by_cases hck : (cuts.length : Int) ≤ k
    · have q7 : ¬ (tk : Int) = 0 := by have := hprog (by omega); omega
      simp -dsimp -implicitDefEqProofs (disch := omega) only [go_sem, reqD_of, dec_t, dec_f, wrap_i64, wrap_u32, wrap_u64, wrap_u8, hds, e1, e5, e6, e7, e12, e13, e14, hck, q7]
      refine hQ _ _ (by simp -dsimp -implicitDefEqProofs only [go_sem, hds]) (by simp -dsimp -implicitDefEqProofs only [go_sem, e1]) (by simp -dsimp -implicitDefEqProofs only [go_sem, e5]) (by simp -dsimp -implicitDefEqProofs only [go_sem, e7]) (by simp -dsimp -implicitDefEqProofs only [go_sem, e13]) ⟨got, at_ + tk, r1, _, _, ?_, by simp -dsimp -implicitDefEqProofs only [go_sem, e12], f2, hw1, by omega, hprog, hv7, h2⟩
      simp -dsimp -implicitDefEqProofs (disch := omega) only [go_sem, reqD_of, dec_t, dec_f, wrap_i64, wrap_u32, wrap_u64, wrap_u8, q8]
    · simp -dsimp -implicitDefEqProofs (disch := omega) only [go_sem, reqD_of, dec_t, dec_f, wrap_i64, wrap_u32, wrap_u64, wrap_u8, hds, e1, e5, e6, e7, e12, e13, e14, hck]
      refine hQ _ _ (by simp -dsimp -implicitDefEqProofs only [go_sem, hds]) (by simp -dsimp -implicitDefEqProofs only [go_sem, e1]) (by simp -dsimp -implicitDefEqProofs only [go_sem, e5]) (by simp -dsimp -implicitDefEqProofs only [go_sem, e7]) (by simp -dsimp -implicitDefEqProofs only [go_sem, e13]) ⟨got, at_ + tk, r1, _, _, ?_, by simp -dsimp -implicitDefEqProofs only [go_sem, e12], f2, hw1, by omega, hprog, hv7, h2⟩
      simp -dsimp -implicitDefEqProofs (disch := omega) only [go_sem, reqD_of, dec_t, dec_f, wrap_i64, wrap_u32, wrap_u64, wrap_u8, q8]
  | true =>
    refine (nextR_yes h1 ok1 hw1).mono ?_
    rintro e' w2 ⟨v, h2, rfl⟩
    obtain ⟨rest, p1, p2⟩ := (show CInv 65536 (framesL (encL ms)).flatten (got ++ [r1.hand]) (at_ + tk) r1.next from hbE ▸ f2.next hw1).pre hfr
    have hgl : got.length < (encL ms).length := by
      have := congrArg List.length p1
      simp [framesL] at this
      omega
    have hgi : got.length < wants.length := by rw [hwl]; simpa [framesL] using hgl
    obtain ⟨x, hx⟩ : ∃ x, x = (encL ms)[got.length] := ⟨_, rfl⟩
    have hxm := encL_mem (show x ∈ encL ms by rw [hx]; exact List.getElem_mem hgl)
    have hhand : r1.hand = x.2 := by
      have : (framesL (encL ms))[got.length]'(by simpa [framesL] using hgl) = r1.hand := by
        simp only [p1]
        rw [List.getElem_append_left (by simp), List.getElem_append_right (by simp)]
        simp
      rw [← this, hx]
      simp [framesL]
    obtain ⟨fs, hf, hmay, hxb⟩ := encF_some hxm.2
    have hwm : wants[got.length].1 = cleanF x.1 := by
      have e9 : (wants.map (·.1))[got.length]'(by simpa using hgi) = ((encL ms).map fun x => cleanF x.1)[got.length]'(by simpa using hgl) := by simp only [hw]
      simpa [← hx] using e9
    obtain ⟨y, hy⟩ : ∃ y, y = wants[got.length] := ⟨_, rfl⟩
    rw [← hy] at hwm
    have hyL := hL y (by rw [hy]; exact List.getElem_mem hgi)
    rw [hhand, hxb] at h2
    simp -dsimp -implicitDefEqProofs (disch := omega) only [go_sem, reqD_of, dec_t, dec_f, wrap_i64, wrap_u32, wrap_u64, wrap_u8, hds, e1, e5, e6, e7, e12, e13, e14]
    refine (msgDecode_any (v := v) (hM x.1 hxm.1) hf hmay ((Ent.right _ _).trans (Row.rdB2 rfl)) h2).mono ?_
    rintro e' w3 ⟨un, uq, ud, u1, u2, u3, h3, rfl⟩
    simp -dsimp -implicitDefEqProofs (disch := omega) only [go_sem, reqD_of, dec_t, dec_f, wrap_i64, wrap_u32, wrap_u64, wrap_u8]
    refine h3.new fun Z w4 h4 => ?_
    simp -dsimp -implicitDefEqProofs (disch := omega) only [go_sem, reqD_of, dec_t, dec_f, wrap_i64, wrap_u32, wrap_u64, wrap_u8]
    refine h4.stoAll (b := Z) (n := 36) (cs := msgC (cleanF x.1) un uq ud) rfl rfl (msgCells u1 u2 u3) fun w5 h5 => ?_
    have hD := h5.drew
    obtain ⟨ym, yn, yq, yd⟩ := y
    simp only at hwm
    subst hwm
    have q9 : ¬ (wants.length : Int) ≤ (got.length : Nat) := by omega
    have q10 : (got.length : Int) < (wants.length : Nat) := by omega
    obtain ⟨a8, c8, rfl, _⟩ := RowO.form (h5.right.right.right.right.right)
    have hMI : Ent (Blk Z (.cells (msgC (cleanF x.1) un uq ud).toArray 39 (0, 0)) * (MsgL (cleanF x.1) un uq ud * (CutR C r1.next * (Row 5 1 v (frameM fs x.1).length ((frameM fs x.1).map bv) * (rxB b va * (rxW wants (.slice a8 wants.length c8) * WantP F L)))))) (Reads 36 (.slice a8 wants.length c8) wants.length (wants.flatMap xC)) := (Ent.right _ _).trans ((Ent.right _ _).trans ((Ent.right _ _).trans ((Ent.right _ _).trans ((Ent.right _ _).trans ((Ent.left _ _).trans (RowO.reads _ _ _ _ _))))))
    obtain ⟨_, a8', c8', hv8, _, hcl8⟩ := St.rowsAt (k := 36) (l := wants) (enc := xC) (fun _ => rfl) (by decide) (hD.ent hMI)
    simp only [Value.slice.injEq, true_and] at hv8
    obtain ⟨rfl, rfl⟩ := hv8
    obtain ⟨g8, o8, rfl, hr8, _⟩ := hcl8 _ hgi
    rw [← hy] at hr8
    have hZ := hD.rowH Z 36 rfl
    simp -dsimp -implicitDefEqProofs (disch := omega) only [go_sem, reqD_of, dec_t, dec_f, wrap_i64, wrap_u32, wrap_u64, wrap_u8, hds, e1, e5, e6, e7, e12, e13, e14, q9, q10, hr8, hZ]
    refine (sameMsg_any (m := cleanF x.1) (hM x.1 hxm.1).clean ((MsgL.input _ _ _ _).under ((Ent.right _ _).trans (Ent.left _ _))) ((WantP.get hyL).under ((Ent.right _ _).trans ((Ent.right _ _).trans ((Ent.right _ _).trans ((Ent.right _ _).trans ((Ent.right _ _).trans (Ent.right _ _))))))) hD).mono ?_
    rintro e' w6 ⟨h6, rfl⟩
    obtain ⟨_, a8', c8', hv8, _, hcl8⟩ := St.rowsAt (k := 36) (l := wants) (enc := xC) (fun _ => rfl) (by decide) (h6.ent hMI)
    simp only [Value.slice.injEq, true_and] at hv8
    obtain ⟨hv8, rfl⟩ := hv8
    obtain ⟨g8', o8', hg8, hr8', _⟩ := hcl8 _ hgi
    rw [← hv8] at hg8
    simp only [Option.some.injEq, Addr.mk.injEq, and_true] at hg8
    obtain ⟨rfl, rfl⟩ := hg8
    rw [← hy] at hr8'
    have hZ' := h6.rowH Z 36 rfl
    simp -dsimp -implicitDefEqProofs (disch := omega) only [go_sem, reqD_of, dec_t, dec_f, wrap_i64, wrap_u32, wrap_u64, wrap_u8, hds, e1, e5, e6, e7, e12, e13, e14, q9, q10, hr8', hZ']
    refine hQ _ _ (by simp -dsimp -implicitDefEqProofs only [go_sem, hds]) (by simp -dsimp -implicitDefEqProofs only [go_sem, e1]) (by simp -dsimp -implicitDefEqProofs only [go_sem, e5]) (by simp -dsimp -implicitDefEqProofs only [go_sem, e7]) (by simp -dsimp -implicitDefEqProofs only [go_sem, e13]) ⟨got ++ [r1.hand], at_ + tk, r1.next, _, _, ?_, ?_, f2.next hw1, by simp [RC.whole, RC.next], by omega, hprog, hv7, h6.right.right.ent (Ent.sep (Ent.rfl' _) (Ent.right _ _))⟩
    · simp -dsimp -implicitDefEqProofs (disch := omega) only [go_sem, reqD_of, dec_t, dec_f, wrap_i64, wrap_u32, wrap_u64, wrap_u8, q8]
    · have hgc := frames_count got hI.frames
      have hgl2 := hI.len
      simp -dsimp -implicitDefEqProofs (disch := omega) only [go_sem, reqD_of, dec_t, dec_f, wrap_i64, wrap_u32, wrap_u64, wrap_u8, e12]
      simp
end
section
attribute [local go_sem] F3.t17_eq F3.t12_eq F3.t13_eq F3.t37_eq F3.t31_eq F3.t24_eq F3.t25_eq F3.t40_eq F3.t21_eq F3.t19_eq F3.t6_eq F3.t3_eq
theorem wire_21 [Gives F Tabs] {e : FA} (hM : ∀ m ∈ ms, MOk m) (hbE : b = (framesL (encL ms)).flatten) (hw : wants.map (·.1) = (encL ms).map fun x => cleanF x.1) (hL : ∀ x ∈ wants, x ∈ L) (hc : Ent F (Reads 1 (.slice ac cuts.length cc) cuts.length (cuts.map uC))) (hcu : ∀ n ∈ cuts, n < 65536) (hcl : cuts.length ≤ 140737488351232) (hbl : b.length ≤ 4398046511104)
    (hds : e.ds = []) (e1 : e.ρ 1 = .slice ac cuts.length cc) (e5 : e.ρ 5 = .pointer (some ⟨C, 0, none⟩)) (e6 : e.ρ 6 = va) (e7 : e.ρ 7 = vw)
    (h : St w0 (P2 C (RC.new 65536) b va wants vw F L) w) :
    cwE Tryz.prog F3.t21 (fnP Tryz.prog #[.tmp 4] fun e w' => St w0 F w' ∧ e = .returned (.bool true)) e w := by
  rw [F3.t21_eq]
  have hfr : ∀ f ∈ framesL (encL ms), IsFrame 65536 f := framesL_is
  have hwl : wants.length = (framesL (encL ms)).length := by
    have := congrArg List.length hw
    simpa [framesL] using this
  simp -dsimp -implicitDefEqProofs (disch := omega) only [go_sem, reqD_of, dec_t, dec_f, wrap_i64, wrap_u32, wrap_u64, wrap_u8]
  refine loop_intro (J2 ac cc cuts C b va wants vw F L w0)
    (fun e _ => match e.ρ 6, e.ρ 13 with | .slice _ n _, .int _ k => n + (cuts.length - k).toNat | _, _ => 0) ?_ ?_
  · refine ⟨by simp -dsimp -implicitDefEqProofs only [go_sem, hds], by simp -dsimp -implicitDefEqProofs only [go_sem, e1], by simp -dsimp -implicitDefEqProofs only [go_sem, e5], by simp -dsimp -implicitDefEqProofs only [go_sem, e7], [], 0, RC.new 65536, va, 0, by simp -dsimp -implicitDefEqProofs only [go_sem, e6], by (simp -dsimp -implicitDefEqProofs only [go_sem]; rfl), by simp -dsimp -implicitDefEqProofs only [go_sem], ?_, rfl, by omega, ?_, h⟩
    · exact CInv.new rfl b
    · rw [List.drop_zero]
      exact RowO.reads _ _ _ _ _
  clear h hds e1 e5 e6 e7
  rintro e w ⟨hds, e1, e5, e7, got, at_, r, v6, k, e6, e12, e13, hI, hwh, hk, hv6, h⟩
  obtain ⟨a6, c6, rfl, hc6, _⟩ := (h.ent ((Ent.right _ _).trans ((Ent.left _ _).trans hv6))).bytes
  have hle := hI.le
  have hdl : (b.drop at_).length = b.length - at_ := List.length_drop
  rw [hdl] at e6 hc6 hv6
  have ok := hI.ok
  have hIb := hbE ▸ hI
  by_cases hpos : (0 : Int) < (b.length - at_ : Nat)
  · have hp : 0 < b.length - at_ := by omega
    by_cases hkc : (k : Int) < cuts.length
    · have hkl : k < cuts.length := by omega
      obtain ⟨g, o, rfl, hcell⟩ := h.cutAt ((Ent.right _ _).trans ((Ent.right _ _).trans ((Ent.right _ _).trans ((WantP.rest F L).trans hc)))) hkl
      have hcb := hcu _ (List.getElem_mem hkl)
      obtain ⟨ck, hck⟩ : ∃ ck, ck = cuts[k] := ⟨_, rfl⟩
      rw [← hck] at hcell hcb
      by_cases hn : (ck : Int) < (b.length - at_ : Nat)
      · simp -dsimp -implicitDefEqProofs (disch := omega) only [go_sem, reqD_of, dec_t, dec_f, wrap_i64, wrap_u32, wrap_u64, wrap_u8, hds, e1, e5, e6, e7, e12, e13, hpos, hkc, hcell, hn]
        refine wire_28 (n := ck) (C := C) (vw := vw) (ac := some ⟨g, o, none⟩) (cc := cc) (cuts := cuts) (k := k) (a6 := a6) (c6 := c6) (got := got) (at_ := at_) hM hbE hw hL hbl (by simp -dsimp -implicitDefEqProofs only [go_sem, hds]) (by simp -dsimp -implicitDefEqProofs only [go_sem, e1]) (by simp -dsimp -implicitDefEqProofs only [go_sem, e5]) (by simp -dsimp -implicitDefEqProofs only [go_sem, e6]) (by simp -dsimp -implicitDefEqProofs only [go_sem, e7]) (by simp -dsimp -implicitDefEqProofs only [go_sem, e12]) (by simp -dsimp -implicitDefEqProofs only [go_sem, e13]) (by simp -dsimp -implicitDefEqProofs only [go_sem]) hI hc6 hwh (by omega) (fun h => absurd h (by omega)) hp hv6 h ?_
        rintro e' w' d e1' e5' e7' e13' ⟨got', at', r', a', c', e6', e12', I', wh', le', pr', hv', h'⟩
        have hle' := I'.le
        simp -dsimp -implicitDefEqProofs (disch := omega) only [go_sem, reqD_of, dec_t, dec_f, wrap_i64, wrap_u32, wrap_u64, wrap_u8, d, e1', e5', e7', e13', e6', e12', e6, e13]
        refine ⟨⟨d, by simp -dsimp -implicitDefEqProofs only [go_sem, e1'], by simp -dsimp -implicitDefEqProofs only [go_sem, e5'], by simp -dsimp -implicitDefEqProofs only [go_sem, e7'], got', at', r', _, k + 1, by simp -dsimp -implicitDefEqProofs only [go_sem, e6'], by simp -dsimp -implicitDefEqProofs only [go_sem, e12'], by (simp -dsimp -implicitDefEqProofs only [go_sem]; omega), I', wh', ?_, hv', h'⟩, ?_⟩
        · by_cases hq : cuts.length ≤ k
          · have := pr' hq; omega
          · omega
        · by_cases hq : cuts.length ≤ k
          · have := pr' hq; omega
          · omega
      · simp -dsimp -implicitDefEqProofs (disch := omega) only [go_sem, reqD_of, dec_t, dec_f, wrap_i64, wrap_u32, wrap_u64, wrap_u8, hds, e1, e5, e6, e7, e12, e13, hpos, hkc, hcell, hn]
        refine wire_28 (n := b.length - at_) (C := C) (vw := vw) (ac := some ⟨g, o, none⟩) (cc := cc) (cuts := cuts) (k := k) (a6 := a6) (c6 := c6) (got := got) (at_ := at_) hM hbE hw hL hbl (by simp -dsimp -implicitDefEqProofs only [go_sem, hds]) (by simp -dsimp -implicitDefEqProofs only [go_sem, e1]) (by simp -dsimp -implicitDefEqProofs only [go_sem, e5]) (by simp -dsimp -implicitDefEqProofs only [go_sem, e6]) (by simp -dsimp -implicitDefEqProofs only [go_sem, e7]) (by simp -dsimp -implicitDefEqProofs only [go_sem, e12]) (by simp -dsimp -implicitDefEqProofs only [go_sem, e13]) (by simp -dsimp -implicitDefEqProofs only [go_sem]) hI hc6 hwh (by omega) (fun _ => rfl) hp hv6 h ?_
        rintro e' w' d e1' e5' e7' e13' ⟨got', at', r', a', c', e6', e12', I', wh', le', pr', hv', h'⟩
        have hle' := I'.le
        simp -dsimp -implicitDefEqProofs (disch := omega) only [go_sem, reqD_of, dec_t, dec_f, wrap_i64, wrap_u32, wrap_u64, wrap_u8, d, e1', e5', e7', e13', e6', e12', e6, e13]
        refine ⟨⟨d, by simp -dsimp -implicitDefEqProofs only [go_sem, e1'], by simp -dsimp -implicitDefEqProofs only [go_sem, e5'], by simp -dsimp -implicitDefEqProofs only [go_sem, e7'], got', at', r', _, k + 1, by simp -dsimp -implicitDefEqProofs only [go_sem, e6'], by simp -dsimp -implicitDefEqProofs only [go_sem, e12'], by (simp -dsimp -implicitDefEqProofs only [go_sem]; omega), I', wh', ?_, hv', h'⟩, ?_⟩
        · by_cases hq : cuts.length ≤ k
          · have := pr' hq; omega
          · omega
        · by_cases hq : cuts.length ≤ k
          · have := pr' hq; omega
          · omega
    · simp -dsimp -implicitDefEqProofs (disch := omega) only [go_sem, reqD_of, dec_t, dec_f, wrap_i64, wrap_u32, wrap_u64, wrap_u8, hds, e1, e5, e6, e7, e12, e13, hpos, hkc]
      refine wire_28 (n := b.length - at_) (C := C) (vw := vw) (ac := ac) (cc := cc) (cuts := cuts) (k := k) (a6 := a6) (c6 := c6) (got := got) (at_ := at_) hM hbE hw hL hbl (by simp -dsimp -implicitDefEqProofs only [go_sem, hds]) (by simp -dsimp -implicitDefEqProofs only [go_sem, e1]) (by simp -dsimp -implicitDefEqProofs only [go_sem, e5]) (by simp -dsimp -implicitDefEqProofs only [go_sem, e6]) (by simp -dsimp -implicitDefEqProofs only [go_sem, e7]) (by simp -dsimp -implicitDefEqProofs only [go_sem, e12]) (by simp -dsimp -implicitDefEqProofs only [go_sem, e13]) (by simp -dsimp -implicitDefEqProofs only [go_sem]) hI hc6 hwh (by omega) (fun _ => rfl) hp hv6 h ?_
      rintro e' w' d e1' e5' e7' e13' ⟨got', at', r', a', c', e6', e12', I', wh', le', pr', hv', h'⟩
      have hle' := I'.le
      simp -dsimp -implicitDefEqProofs (disch := omega) only [go_sem, reqD_of, dec_t, dec_f, wrap_i64, wrap_u32, wrap_u64, wrap_u8, d, e1', e5', e7', e13', e6', e12', e6, e13]
      refine ⟨⟨d, by simp -dsimp -implicitDefEqProofs only [go_sem, e1'], by simp -dsimp -implicitDefEqProofs only [go_sem, e5'], by simp -dsimp -implicitDefEqProofs only [go_sem, e7'], got', at', r', _, k + 1, by simp -dsimp -implicitDefEqProofs only [go_sem, e6'], by simp -dsimp -implicitDefEqProofs only [go_sem, e12'], by (simp -dsimp -implicitDefEqProofs only [go_sem]; omega), I', wh', ?_, hv', h'⟩, ?_⟩
      · by_cases hq : cuts.length ≤ k
        · have := pr' hq; omega
        · omega
      · by_cases hq : cuts.length ≤ k
        · have := pr' hq; omega
        · omega
  · have hat : at_ = b.length := by omega
    have hdone := hI.done hwh (.inl hat)
    rw [hbE, framesOf_all hfr] at hdone
    have hgl : got.length = wants.length := by rw [hwl, hdone]
    simp -dsimp -implicitDefEqProofs (disch := omega) only [go_sem, reqD_of, dec_t, dec_f, wrap_i64, wrap_u32, wrap_u64, wrap_u8, hds, e1, e5, e6, e7, e12, e13, hpos]
    refine (wholeR h ok).mono ?_
    rintro e' w1 ⟨h1, rfl⟩
    rw [hwh]
    obtain ⟨a7, c7, rfl, _⟩ := RowO.form (h1.right.right)
    simp -dsimp -implicitDefEqProofs (disch := omega) only [go_sem, reqD_of, dec_t, dec_f, wrap_i64, wrap_u32, wrap_u64, wrap_u8, hds, e1, e5, e6, e7, e12, e13, hgl]
    exact h1.ent ((Ent.right _ _).trans ((Ent.right _ _).trans ((Ent.right _ _).trans (WantP.rest F L))))
end
end
end Go.Proofs.YtmiohkmcnppaeaaGreatDoor

namespace Go.Proofs.YtmiohkmcnppaeaaGreatDoor
open Go
set_option linter.unusedVariables false
set_option linter.unusedSimpArgs false
set_option maxRecDepth 100000

abbrev verX : XMsg := (verM, .slice none 0 0, .slice none 0 0, .slice none 0 0)
theorem framesL_snoc {E : List (MsgD × List UInt8)} {m : MsgD} {b : List UInt8} : (framesL (E ++ [(m, b)])).flatten = (framesL E).flatten ++ b := by simp [framesL]
theorem byR_append (a b : List UInt8) : byR (a ++ b) = byR a ++ byR b := List.map_append
section
variable {w0 w : World} {F : HP} {C : Nat} {xs heads wants L : List XMsg} {cuts : List Nat} {al ac ah : Option Addr} {cl cc ch : Nat} {va vw : Value}
theorem MsgI.cells {m : MsgD} {vn vq vd : Value} (hi : MsgI F m vn vq vd) (h : St w0 F w) : isCell vn = true ∧ isCell vq = true ∧ isCell vd = true := by
  obtain ⟨a1, c1, rfl⟩ := h.textsForm hi.names
  obtain ⟨a2, c2, rfl⟩ := h.qidsForm hi.qids
  obtain ⟨a3, c3, rfl, _⟩ := (h.ent hi.data).bytes
  exact ⟨rfl, rfl, rfl⟩
theorem MsgsI.cells {v : Value} (hi : MsgsI F v xs) (h : St w0 F w) : ∀ u ∈ xs.flatMap xC, isCell u = true := by
  intro u hu
  rw [List.mem_flatMap] at hu
  obtain ⟨x, hx, hu⟩ := hu
  obtain ⟨h1, h2, h3⟩ := (hi.each x hx).cells h
  exact msgCells h1 h2 h3 u hu
abbrev P1 (C : Nat) (b : List UInt8) (va : Value) (wants : List XMsg) (vw : Value) (heads : List XMsg) (ah : Option Addr) (ch : Nat) (F : HP) (L : List XMsg) : HP := CutR C (RC.new 65536) * (rxB b va * (rxW wants vw * (rxW heads (.slice ah heads.length ch) * WantP F L)))
abbrev J1 (ac : Option Addr) (cc : Nat) (cuts : List Nat) (C : Nat) (heads : List XMsg) (ah : Option Addr) (ch : Nat) (F : HP) (w0 : World) (e : FA) (w : World) : Prop :=
  e.ds = [] ∧ e.ρ 1 = .slice ac cuts.length cc ∧ e.ρ 5 = .pointer (some ⟨C, 0, none⟩) ∧ e.ρ 8 = .slice ah heads.length ch ∧ ∃ (i : Nat) (va vw : Value) (wants L : List XMsg), e.ρ 9 = .int .i64 i ∧ e.ρ 6 = va ∧ e.ρ 7 = vw ∧ i ≤ heads.length ∧ wants.map (·.1) = (encL ((heads.map (·.1)).take i)).map (fun x => cleanF x.1) ∧ (∀ x ∈ wants, x ∈ L) ∧ St w0 (P1 C (framesL (encL ((heads.map (·.1)).take i))).flatten va wants vw heads ah ch F L) w
section
attribute [local go_sem] F3.t17_eq F3.t12_eq F3.t13_eq F3.t37_eq F3.t31_eq F3.t28_eq F3.t24_eq F3.t25_eq F3.t40_eq F3.t21_eq F3.t6_eq F3.t3_eq
theorem wire_6 [Gives F Tabs] {e : FA} (hM : ∀ x ∈ xs, MOk x.1) (hi : MsgsI F (.slice al xs.length cl) xs) (hxl : xs.length ≤ 65536)
    (hds : e.ds = []) (e0 : e.ρ 0 = .slice al xs.length cl) (e1 : e.ρ 1 = .slice ac cuts.length cc) (e5 : e.ρ 5 = .pointer (some ⟨C, 0, none⟩))
    (h : St w0 (CutR C (RC.new 65536) * F) w)
    (hK : ∀ (e : FA) (w : World) (va vw : Value) (wants L : List XMsg), e.ds = [] → e.ρ 1 = .slice ac cuts.length cc → e.ρ 5 = .pointer (some ⟨C, 0, none⟩) → e.ρ 6 = va → e.ρ 7 = vw → wants.map (·.1) = (encL ((verX :: xs).map (·.1))).map (fun x => cleanF x.1) → (∀ x ∈ wants, x ∈ L) → St w0 (P2 C (RC.new 65536) (framesL (encL ((verX :: xs).map (·.1)))).flatten va wants vw F L) w →
      cwE Tryz.prog F3.t19 (fnP Tryz.prog #[.tmp 4] fun e w' => St w0 F w' ∧ e = .returned (.bool true)) e w) :
    cwE Tryz.prog F3.t6 (fnP Tryz.prog #[.tmp 4] fun e w' => St w0 F w' ∧ e = .returned (.bool true)) e w := by
  rw [F3.t6_eq]
  have hcl : xs.length ≤ cl := by
    obtain ⟨a, c, hv, hc⟩ := hi.form (h.right)
    simp only [Value.slice.injEq, true_and] at hv
    omega
  simp -dsimp -implicitDefEqProofs (disch := omega) only [go_sem, reqD_of, dec_t, dec_f, wrap_i64, wrap_u32, wrap_u64, wrap_u8, e0]
  refine (version_any h).mono ?_
  rintro e' w1 ⟨h1, rfl⟩
  simp -dsimp -implicitDefEqProofs (disch := omega) only [go_sem, reqD_of, dec_t, dec_f, wrap_i64, wrap_u32, wrap_u64, wrap_u8]
  refine h1.lit (n := 1) (cells := xC verX) fact_rowTy_22 (by kernel_rfl) (by decide) (by decide) fun v2 w2 h2 => ?_
  obtain ⟨a2, c2, rfl, _⟩ := h2.rowForm v2
  simp -dsimp -implicitDefEqProofs (disch := omega) only [go_sem, reqD_of, dec_t, dec_f, wrap_i64, wrap_u32, wrap_u64, wrap_u8, e0]
  refine h2.app (v := .slice a2 1 c2) (x := .slice al xs.length cl) fact_rowTy_22 ((Ent.right _ _).trans ((Ent.right _ _).trans hi.list)) Tryz.underlying22 (hi.cells h.right) (fun h => by
    have := congrArg List.length h
    simp at this
    cases xs with
    | nil => rfl
    | cons x xs => simp [xC] at this) (show 1 + xs.length ≤ 9223372036854775807 by omega) (show (1 + xs.length) * 344 ≤ 140737488355328 by omega) fun v3 w3 h3 => ?_
  obtain ⟨heads, hh⟩ : ∃ heads : List XMsg, heads = verX :: xs := ⟨_, rfl⟩
  have hhl : heads.length = 1 + xs.length := by rw [hh, List.length_cons, Nat.add_comm]
  have hhc : xC verX ++ xs.flatMap xC = heads.flatMap xC := by rw [hh, List.flatMap_cons]
  rw [hhc, ← hhl] at h3
  obtain ⟨ah, ch, rfl, _⟩ := h3.rowForm v3
  have hE : ∀ x ∈ heads, MsgI F x.1 x.2.1 x.2.2.1 x.2.2.2 := by
    rw [hh]
    intro x hx
    rcases List.mem_cons.1 hx with rfl | hx
    · exact verM_nil F
    · exact hi.each x hx
  have hM2 : ∀ x ∈ heads, MOk x.1 := by
    rw [hh]
    intro x hx
    rcases List.mem_cons.1 hx with rfl | hx
    · exact verM_ok
    · exact hM x hx
  rw [← hh] at hK
  simp -dsimp -implicitDefEqProofs (disch := omega) only [go_sem, reqD_of, dec_t, dec_f, wrap_i64, wrap_u32, wrap_u64, wrap_u8]
  have h4 : St w0 (P1 C (framesL (encL ((heads.map (·.1)).take 0))).flatten (.slice none 0 0) [] (.slice none 0 0) heads ah ch F []) w3 := ((h3.nilR 39 36).nilR 5 1).ac (by
    show RowO 5 1 (.slice none 0 0) 0 [] * (RowO 39 36 (.slice none 0 0) 0 [] * (rxW heads (.slice ah heads.length ch) * (CutR C (RC.new 65536) * F))) = CutR C (RC.new 65536) * (RowO 5 1 (.slice none 0 0) 0 [] * (RowO 39 36 (.slice none 0 0) 0 [] * (rxW heads (.slice ah heads.length ch) * F)))
    ac_rfl)
  refine loop_intro (J1 ac cc cuts C heads ah ch F w0)
    (fun e _ => match e.ρ 9 with | .int _ i => (heads.length - i).toNat | _ => 0) ?_ ?_
  · exact ⟨by simp -dsimp -implicitDefEqProofs only [go_sem, hds], by simp -dsimp -implicitDefEqProofs only [go_sem, e1], by simp -dsimp -implicitDefEqProofs only [go_sem, e5], by simp -dsimp -implicitDefEqProofs only [go_sem], 0, .slice none 0 0, .slice none 0 0, [], [], by simp -dsimp -implicitDefEqProofs only [go_sem], by simp -dsimp -implicitDefEqProofs only [go_sem], by simp -dsimp -implicitDefEqProofs only [go_sem], by omega, rfl, (fun _ h => absurd h List.not_mem_nil), h4⟩
  clear h h1 h2 h3 h4 hds e0 e1 e5
  rintro e w ⟨hds, e1, e5, e8, i, va, vw, wants, L, e9, e6, e7, hi', hw, hL, h⟩
  have hfr : ∀ f ∈ framesL (encL ((heads.map (·.1)).take i)), IsFrame 65536 f := framesL_is
  have hal := frames_len hfr
  have hel := encL_len ((heads.map (·.1)).take i)
  have hil2 : ((heads.map (·.1)).take i).length = i := by rw [List.length_take, List.length_map]; omega
  have hfl : (framesL (encL ((heads.map (·.1)).take i))).length = (encL ((heads.map (·.1)).take i)).length := by simp [framesL]
  have hwl : wants.length = (encL ((heads.map (·.1)).take i)).length := by
    have := congrArg List.length hw
    simpa using this
  by_cases hlt : (i : Int) < heads.length
  · have hil : i < heads.length := by omega
    have hsu := encL_succ (ms := heads.map (·.1)) (i := i) (by simpa using hil)
    obtain ⟨x, hx⟩ : ∃ x, x = heads[i] := ⟨_, rfl⟩
    have hxi : (heads.map (·.1))[i]'(by simpa using hil) = x.1 := by simp [hx]
    rw [hxi] at hsu
    have hxm := hM2 x (by rw [hx]; exact List.getElem_mem hil)
    have hxE := hE x (by rw [hx]; exact List.getElem_mem hil)
    obtain ⟨E0, hE0⟩ : ∃ E0, E0 = encL ((heads.map (·.1)).take i) := ⟨_, rfl⟩
    obtain ⟨E1, hE1⟩ : ∃ E1, E1 = encL ((heads.map (·.1)).take (i + 1)) := ⟨_, rfl⟩
    rw [← hE0] at h hw hal hel hfl hwl hsu
    rw [← hE1] at hsu
    obtain ⟨b0, hb0⟩ : ∃ b0, b0 = (framesL E0).flatten := ⟨_, rfl⟩
    rw [← hb0] at h hal
    have hF : Ent (P1 C b0 va wants vw heads ah ch F L) F := (Ent.right _ _).trans ((Ent.right _ _).trans ((Ent.right _ _).trans ((Ent.right _ _).trans (WantP.rest F L))))
    have hMI : Ent (P1 C b0 va wants vw heads ah ch F L) (Reads 36 (.slice ah heads.length ch) heads.length (heads.flatMap xC)) := (Ent.right _ _).trans ((Ent.right _ _).trans ((Ent.right _ _).trans ((Ent.left _ _).trans (RowO.reads _ _ _ _ _))))
    obtain ⟨_, a8', c8', hv8, _, hcl8⟩ := St.rowsAt (k := 36) (l := heads) (enc := xC) (fun _ => rfl) (by decide) (h.ent hMI)
    simp only [Value.slice.injEq, true_and] at hv8
    obtain ⟨rfl, rfl⟩ := hv8
    obtain ⟨g8, o8, rfl, hr8, _⟩ := hcl8 _ hil
    rw [← hx] at hr8
    obtain ⟨m, vn, vq, vd⟩ := x
    simp only at hxm hxE hsu
    simp -dsimp -implicitDefEqProofs (disch := omega) only [go_sem, reqD_of, dec_t, dec_f, wrap_i64, wrap_u32, wrap_u64, wrap_u8, hds, e1, e5, e6, e7, e8, e9, hlt, hr8]
    refine (msgEncode_any hxm (hxE.under hF) h).mono ?_
    intro e' w1 h1
    unfold EncR at h1
    cases he : encF m with
    | none =>
      rw [he] at h1 hsu
      obtain ⟨k, hk, h1, rfl⟩ := h1
      simp only [List.append_nil] at hsu
      simp -dsimp -implicitDefEqProofs (disch := omega) only [go_sem, reqD_of, dec_t, dec_f, wrap_i64, wrap_u32, wrap_u64, wrap_u8, hds, e1, e5, e6, e7, e8, e9, hk]
      refine ⟨⟨by simp -dsimp -implicitDefEqProofs only [go_sem, hds], by simp -dsimp -implicitDefEqProofs only [go_sem, e1], by simp -dsimp -implicitDefEqProofs only [go_sem, e5], by simp -dsimp -implicitDefEqProofs only [go_sem, e8], i + 1, va, vw, wants, L, by (simp -dsimp -implicitDefEqProofs (disch := omega) only [go_sem, reqD_of, dec_t, dec_f, wrap_i64, wrap_u32, wrap_u64, wrap_u8]; omega), by simp -dsimp -implicitDefEqProofs only [go_sem, e6], by simp -dsimp -implicitDefEqProofs only [go_sem, e7], by omega, by rw [← hE1, hsu]; exact hw, hL, by rw [← hE1, hsu, ← hb0]; exact h1⟩, by omega⟩
    | some b =>
      rw [he] at h1 hsu
      obtain ⟨vb, h1, rfl⟩ := h1
      simp only at hsu
      obtain ⟨fs, hf, hmay, hxb⟩ := encF_some he
      have hif := frameM_is hmay
      rw [← hxb] at hif
      have hb7 := hif.low
      have hbh := hif.high
      obtain ⟨ab, cb, rfl, _⟩ := h1.rowForm vb
      have q1 : ¬ (b.length : Int) < 7 := by omega
      obtain ⟨av, cv, rfl, _⟩ := h1.rowForm va
      obtain ⟨aw, cw, rfl, _⟩ := h1.rowForm vw
      obtain ⟨_, a9', c9', hv9, _, hcl9⟩ := St.rowsAt (k := 36) (l := heads) (enc := xC) (fun _ => rfl) (by decide) (h1.ent ((Ent.right _ _).trans hMI))
      simp only [Value.slice.injEq, true_and] at hv9
      obtain ⟨hv9, rfl⟩ := hv9
      obtain ⟨g9, o9, hg9, hr9, _⟩ := hcl9 _ hil
      rw [← hv9] at hg9
      simp only [Option.some.injEq, Addr.mk.injEq, and_true] at hg9
      obtain ⟨rfl, rfl⟩ := hg9
      rw [← hx] at hr9
      simp -dsimp -implicitDefEqProofs (disch := omega) only [go_sem, reqD_of, dec_t, dec_f, wrap_i64, wrap_u32, wrap_u64, wrap_u8, hds, e1, e5, e6, e7, e8, e9, q1, hr9]
      refine (msgSize_any hxm (hxE.under ((Ent.right _ _).trans hF)) h1).mono ?_
      rintro e' w2 ⟨h2, rfl⟩
      have hlen : encLen m = b.length := by unfold encLen; rw [he]
      rw [hlen]
      simp -dsimp -implicitDefEqProofs (disch := omega) only [go_sem, reqD_of, dec_t, dec_f, wrap_i64, wrap_u32, wrap_u64, wrap_u8, hds, e1, e5, e6, e7, e8, e9]
      refine h2.appR (v := .slice av b0.length cv) (x := .slice ab b.length cb) fact_rowTy_28 Tryz.underlying28 byR_cells (fun h => by simpa using congrArg List.length h) (show b0.length + b.length ≤ 9223372036854775807 by omega) (show (b0.length + b.length) * 1 ≤ 140737488355328 by omega) fun v3 w3 h3 => ?_
      rw [← byR_append, ← List.length_append] at h3
      have h3 : St w0 (RowO 5 1 (.slice ab b.length cb) b.length (byR b) * P1 C (b0 ++ b) v3 wants (.slice aw wants.length cw) heads (some ⟨g8, o8, none⟩) ch F L) w3 := h3
      obtain ⟨_, a10', c10', hv10, _, hcl10⟩ := St.rowsAt (k := 36) (l := heads) (enc := xC) (fun _ => rfl) (by decide) (h3.ent ((Ent.right _ _).trans ((Ent.right _ _).trans ((Ent.right _ _).trans ((Ent.right _ _).trans ((Ent.left _ _).trans (RowO.reads _ _ _ _ _)))))))
      simp only [Value.slice.injEq, true_and] at hv10
      obtain ⟨hv10, rfl⟩ := hv10
      obtain ⟨g10, o10, hg10, hr10, _⟩ := hcl10 _ hil
      rw [← hv10] at hg10
      simp only [Option.some.injEq, Addr.mk.injEq, and_true] at hg10
      obtain ⟨rfl, rfl⟩ := hg10
      rw [← hx] at hr10
      simp -dsimp -implicitDefEqProofs (disch := omega) only [go_sem, reqD_of, dec_t, dec_f, wrap_i64, wrap_u32, wrap_u64, wrap_u8, hds, e1, e5, e6, e7, e8, e9, hr10]
      refine (msgClean_any hxm (hxE.under ((Ent.right _ _).trans ((Ent.right _ _).trans ((Ent.right _ _).trans ((Ent.right _ _).trans ((Ent.right _ _).trans (WantP.rest F L))))))) hf h3).mono ?_
      rintro e' w4 ⟨un, uq, ud, h4, rfl⟩
      obtain ⟨u1, u2, u3⟩ := St.lists h4
      simp -dsimp -implicitDefEqProofs (disch := omega) only [go_sem, reqD_of, dec_t, dec_f, wrap_i64, wrap_u32, wrap_u64, wrap_u8]
      refine h4.lit (n := 1) (cells := msgC (cleanF m) un uq ud) fact_rowTy_22 (by kernel_rfl) (by decide) (by decide) fun v5 w5 h5 => ?_
      obtain ⟨a5, c5, rfl, _⟩ := h5.rowForm v5
      simp -dsimp -implicitDefEqProofs (disch := omega) only [go_sem, reqD_of, dec_t, dec_f, wrap_i64, wrap_u32, wrap_u64, wrap_u8, hds, e1, e5, e6, e7, e8, e9]
      refine h5.appR (v := .slice aw wants.length cw) (x := .slice a5 1 c5) fact_rowTy_22 Tryz.underlying22 (msgCells u1 u2 u3) (fun h => by simp at h) (show wants.length + 1 ≤ 9223372036854775807 by omega) (show (wants.length + 1) * 344 ≤ 140737488355328 by omega) fun v6 w6 h6 => ?_
      simp -dsimp -implicitDefEqProofs (disch := omega) only [go_sem, reqD_of, dec_t, dec_f, wrap_i64, wrap_u32, wrap_u64, wrap_u8, hds, e1, e5, e6, e7, e8, e9]
      have hb1 : (framesL E1).flatten = b0 ++ b := by rw [hsu, framesL_snoc, ← hb0]
      have hwc : wants.flatMap xC ++ msgC (cleanF m) un uq ud = (wants ++ [(cleanF m, un, uq, ud)]).flatMap xC := by simp [List.flatMap_append]
      have hwl2 : wants.length + 1 = (wants ++ [(cleanF m, un, uq, ud)]).length := by simp
      rw [hwc, hwl2] at h6
      obtain ⟨X, hX⟩ : ∃ X, X = rxW (wants ++ [(cleanF m, un, uq, ud)]) v6 := ⟨_, rfl⟩
      rw [show RowO 39 36 v6 (wants ++ [(cleanF m, un, uq, ud)]).length ((wants ++ [(cleanF m, un, uq, ud)]).flatMap xC) = X from hX.symm] at h6
      refine ⟨⟨by simp -dsimp -implicitDefEqProofs only [go_sem, hds], by simp -dsimp -implicitDefEqProofs only [go_sem, e1], by simp -dsimp -implicitDefEqProofs only [go_sem, e5], by simp -dsimp -implicitDefEqProofs only [go_sem, e8], i + 1, v3, v6, wants ++ [(cleanF m, un, uq, ud)], (cleanF m, un, uq, ud) :: L, by (simp -dsimp -implicitDefEqProofs (disch := omega) only [go_sem, reqD_of, dec_t, dec_f, wrap_i64, wrap_u32, wrap_u64, wrap_u8]; omega), by simp -dsimp -implicitDefEqProofs only [go_sem], by simp -dsimp -implicitDefEqProofs only [go_sem], by omega, ?_, ?_, ?_⟩, by omega⟩
      · rw [← hE1, hsu, List.map_append, List.map_append, hw]
        rfl
      · intro y hy
        rcases List.mem_append.1 hy with hy | hy
        · exact List.mem_cons_of_mem _ (hL y hy)
        · simp only [List.mem_singleton] at hy
          rw [hy]
          exact List.mem_cons_self
      · rw [← hE1, hb1]
        show St w0 (CutR C (RC.new 65536) * (rxB (b0 ++ b) v3 * (rxW (wants ++ [(cleanF m, un, uq, ud)]) v6 * (rxW heads (.slice (some ⟨g8, o8, none⟩) heads.length ch) * WantP F ((cleanF m, un, uq, ud) :: L))))) w6
        rw [← hX]
        exact (h6.ac (show _ = (RowO 39 36 (.slice a5 1 c5) 1 (msgC (cleanF m) un uq ud) * RowO 5 1 (.slice ab b.length cb) b.length (byR b)) * (CutR C (RC.new 65536) * (rxB (b0 ++ b) v3 * (X * (rxW heads (.slice (some ⟨g8, o8, none⟩) heads.length ch) * (MsgL (cleanF m) un uq ud * WantP F L))))) by ac_rfl)).right
  · obtain rfl : i = heads.length := by omega
    rw [List.take_of_length_le (by simp)] at h hw
    simp -dsimp -implicitDefEqProofs (disch := omega) only [go_sem, reqD_of, dec_t, dec_f, wrap_i64, wrap_u32, wrap_u64, wrap_u8, hds, e1, e5, e6, e7, e8, e9, hlt]
    exact hK _ _ va vw wants L (by simp -dsimp -implicitDefEqProofs only [go_sem, hds]) (by simp -dsimp -implicitDefEqProofs only [go_sem, e1]) (by simp -dsimp -implicitDefEqProofs only [go_sem, e5]) (by simp -dsimp -implicitDefEqProofs only [go_sem, e6]) (by simp -dsimp -implicitDefEqProofs only [go_sem, e7]) hw hL (h.ent (Ent.sep (Ent.rfl' _) (Ent.sep (Ent.rfl' _) (Ent.sep (Ent.rfl' _) (Ent.right _ _)))))
end
end
end Go.Proofs.YtmiohkmcnppaeaaGreatDoor

namespace Go.Proofs.YtmiohkmcnppaeaaGreatDoor
open Go
set_option linter.unusedVariables false
set_option linter.unusedSimpArgs false
set_option maxRecDepth 100000

section
variable {w0 w : World} {F : HP} {C : Nat} {xs wants L : List XMsg} {cuts : List Nat} {ac : Option Addr} {cc : Nat} {va vw : Value} {ms : List MsgD} {b : List UInt8}
section
attribute [local go_sem] F3.t17_eq F3.t12_eq F3.t13_eq F3.t37_eq F3.t31_eq F3.t28_eq F3.t24_eq F3.t25_eq F3.t40_eq F3.t19_eq F3.t6_eq F3.t3_eq
theorem wire_19 [Gives F Tabs] {e : FA} (hms : ms = verM :: xs.map (·.1)) (hM : ∀ m ∈ ms, MOk m) (hbE : b = (framesL (encL ms)).flatten) (hw : wants.map (·.1) = (encL ms).map fun x => cleanF x.1) (hL : ∀ x ∈ wants, x ∈ L) (hc : Ent F (Reads 1 (.slice ac cuts.length cc) cuts.length (cuts.map uC))) (hcu : ∀ n ∈ cuts, n < 65536) (hcl : cuts.length ≤ 140737488351232) (hbl : b.length ≤ 4398046511104)
    (hds : e.ds = []) (e1 : e.ρ 1 = .slice ac cuts.length cc) (e5 : e.ρ 5 = .pointer (some ⟨C, 0, none⟩)) (e6 : e.ρ 6 = va) (e7 : e.ρ 7 = vw)
    (h : St w0 (P2 C (RC.new 65536) b va wants vw F L) w) :
    cwE Tryz.prog F3.t19 (fnP Tryz.prog #[.tmp 4] fun e w' => St w0 F w' ∧ e = .returned (.bool true)) e w := by
  rw [F3.t19_eq]
  obtain ⟨b0, hb0⟩ := verM_enc
  have he : encL ms = (verM, b0) :: encL (xs.map (·.1)) := by
    rw [hms]
    unfold encL
    rw [List.filterMap_cons, hb0]
    rfl
  have hwp : 0 < wants.length := by
    have := congrArg List.length hw
    rw [he] at this
    simp at this
    omega
  have hD := h.drew
  obtain ⟨a8, c8, rfl, _⟩ := RowO.form (h.right.right)
  have hMI : Ent (P2 C (RC.new 65536) b va wants (.slice a8 wants.length c8) F L) (Reads 36 (.slice a8 wants.length c8) wants.length (wants.flatMap xC)) := (Ent.right _ _).trans ((Ent.right _ _).trans ((Ent.left _ _).trans (RowO.reads _ _ _ _ _)))
  obtain ⟨_, a8', c8', hv8, _, hcl8⟩ := St.rowsAt (k := 36) (l := wants) (enc := xC) (fun _ => rfl) (by decide) (hD.ent hMI)
  simp only [Value.slice.injEq, true_and] at hv8
  obtain ⟨rfl, rfl⟩ := hv8
  obtain ⟨g8, o8, rfl, hr8, _⟩ := hcl8 0 hwp
  obtain ⟨y, hy⟩ : ∃ y, y = wants[0] := ⟨_, rfl⟩
  have hyL := hL y (by rw [hy]; exact List.getElem_mem hwp)
  have hy1 : y.1 = verM := by
    have e9 : (wants.map (·.1))[0]'(by simpa using hwp) = ((encL ms).map fun x => cleanF x.1)[0]'(by rw [he]; simp) := by simp only [hw]
    simp only [he] at e9
    simpa [← hy, verM_clean] using e9
  rw [← hy] at hr8
  obtain ⟨ym, yn, yq, yd⟩ := y
  simp only at hy1
  subst hy1
  have q1 : ¬ (wants.length : Int) = 0 := by omega
  have q2 : (0 : Int) < wants.length := by omega
  rw [Nat.zero_mul, Nat.add_zero] at hr8
  simp -dsimp -implicitDefEqProofs (disch := omega) only [go_sem, reqD_of, dec_t, dec_f, wrap_i64, wrap_u32, wrap_u64, wrap_u8, hds, e1, e5, e6, e7, q1, q2, hr8]
  refine (version_any hD).mono ?_
  rintro e' w1 ⟨h1, rfl⟩
  obtain ⟨_, a9', c9', hv9, _, hcl9⟩ := St.rowsAt (k := 36) (l := wants) (enc := xC) (fun _ => rfl) (by decide) (h1.ent hMI)
  simp only [Value.slice.injEq, true_and] at hv9
  obtain ⟨hv9, rfl⟩ := hv9
  obtain ⟨g9, o9, hg9, hr9, _⟩ := hcl9 0 hwp
  rw [← hv9] at hg9
  simp only [Option.some.injEq, Addr.mk.injEq, and_true] at hg9
  obtain ⟨rfl, rfl⟩ := hg9
  rw [← hy] at hr9
  have hs9 := hr9
  rw [Nat.zero_mul] at hs9
  have ht9 := hs9
  rw [Nat.add_zero] at ht9
  have hu9 := ht9
  simp only [go_sem] at hu9
  simp -dsimp -implicitDefEqProofs (disch := omega) only [go_sem, reqD_of, dec_t, dec_f, wrap_i64, wrap_u32, wrap_u64, wrap_u8, hds, e1, e5, e6, e7, q1, q2]
  rw [hu9]
  simp -dsimp -implicitDefEqProofs (disch := omega) only [go_sem, reqD_of, dec_t, dec_f, wrap_i64, wrap_u32, wrap_u64, wrap_u8, hds, e1, e5, e6, e7, q1, q2]
  refine (sameMsg_any (m := verM) verM_ok ((WantP.get hyL).under ((Ent.right _ _).trans ((Ent.right _ _).trans (Ent.right _ _)))) (verM_nil _) h1).mono ?_
  rintro e' w2 ⟨h2, rfl⟩
  obtain ⟨_, a10', c10', hv10, _, hcl10⟩ := St.rowsAt (k := 36) (l := wants) (enc := xC) (fun _ => rfl) (by decide) (h2.ent hMI)
  simp only [Value.slice.injEq, true_and] at hv10
  obtain ⟨hv10, rfl⟩ := hv10
  obtain ⟨g10, o10, hg10, hr10, _⟩ := hcl10 0 hwp
  rw [← hv10] at hg10
  simp only [Option.some.injEq, Addr.mk.injEq, and_true] at hg10
  obtain ⟨rfl, rfl⟩ := hg10
  rw [← hy] at hr10
  have hs10 := hr10
  rw [Nat.zero_mul] at hs10
  have ht10 := hs10
  rw [Nat.add_zero] at ht10
  simp -dsimp -implicitDefEqProofs (disch := omega) only [go_sem, reqD_of, dec_t, dec_f, wrap_i64, wrap_u32, wrap_u64, wrap_u8, hds, e1, e5, e6, e7, q1, q2, hr10, hs10, ht10]
  exact wire_21 (C := C) (vw := .slice (some ⟨g8, o8, none⟩) wants.length c8) (va := va) (ac := ac) (cc := cc) (cuts := cuts) hM hbE hw hL hc hcu hcl hbl (by simp -dsimp -implicitDefEqProofs only [go_sem, hds]) (by simp -dsimp -implicitDefEqProofs only [go_sem, e1]) (by simp -dsimp -implicitDefEqProofs only [go_sem, e5]) (by simp -dsimp -implicitDefEqProofs only [go_sem, e6]) (by simp -dsimp -implicitDefEqProofs only [go_sem, e7]) h2
end
section
attribute [local go_sem] F3.t17_eq F3.t12_eq F3.t13_eq F3.t37_eq F3.t31_eq F3.t28_eq F3.t24_eq F3.t25_eq F3.t40_eq F3.t21_eq F3.t19_eq F3.t3_eq
theorem wire_any [Gives F Tabs] {vl vc : Value} (hLen : ∀ x ∈ xs, MLen x.1) (hN : ∀ x ∈ xs, MNum x.1) (hi : MsgsI F vl xs) (hc : Ent F (Reads 1 vc cuts.length (cuts.map uC))) (hcu : ∀ n ∈ cuts, n < 65536) (hcl : cuts.length ≤ 140737488351232) (h : St w0 F w) :
    Calls Tryz.prog 3 #[vl, vc] w fun e w' => St w0 F w' ∧ e = .returned (.bool true) := by
  obtain ⟨al, cl, rfl, _⟩ := hi.form h
  obtain ⟨ac, cc, rfl⟩ : ∃ ac cc, vc = .slice ac cuts.length cc := by
    have hc2 := hc
    rw [List.map_eq_flatMap] at hc2
    obtain ⟨_, a, c, hv, _, _⟩ := St.rowsAt (k := 1) (l := cuts) (enc := fun n => [uC n]) (fun _ => rfl) (by decide) (h.ent hc2)
    exact ⟨a, c, hv⟩
  refine F3.calls (by simp) ?_
  unfold F3.code
  simp -dsimp -implicitDefEqProofs (disch := omega) only [go_sem, reqD_of, dec_t, dec_f, wrap_i64, wrap_u32, wrap_u64, wrap_u8]
  refine (beyond_any (more := cuts.length) (by omega) hLen hi h).mono ?_
  rintro e w1 ⟨B, hB, h1, rfl⟩
  cases B with
  | true =>
    simp -dsimp -implicitDefEqProofs (disch := omega) only [go_sem, reqD_of, dec_t, dec_f, wrap_i64, wrap_u32, wrap_u64, wrap_u8]
    exact h1
  | false =>
    have hB := hB rfl
    have hA := allN_mem (xs := xs)
    have hM : ∀ x ∈ xs, MOk x.1 := fun x hx => MOk.of (hN x hx) (by have := hA.1 x hx; omega)
    simp -dsimp -implicitDefEqProofs (disch := omega) only [go_sem, reqD_of, dec_t, dec_f, wrap_i64, wrap_u32, wrap_u64, wrap_u8]
    refine (newR_yes h1 (n := 65536) rfl).mono ?_
    rintro e w2 ⟨C, h2, rfl⟩
    simp -dsimp -implicitDefEqProofs (disch := omega) only [go_sem, reqD_of, dec_t, dec_f, wrap_i64, wrap_u32, wrap_u64, wrap_u8]
    refine wire_6 (cuts := cuts) (ac := ac) (cc := cc) (C := C) hM hi (by omega) (by simp -dsimp -implicitDefEqProofs only [go_sem]) (by simp -dsimp -implicitDefEqProofs only [go_sem]) (by simp -dsimp -implicitDefEqProofs only [go_sem]) (by simp -dsimp -implicitDefEqProofs only [go_sem]) h2 ?_
    intro e w va vw wants L hds e1 e5 e6 e7 hw hL h3
    have hfr : ∀ f ∈ framesL (encL ((verX :: xs).map (·.1))), IsFrame 65536 f := framesL_is
    have hal := frames_len hfr
    have hel := encL_len ((verX :: xs).map (·.1))
    have hfl : (framesL (encL ((verX :: xs).map (·.1)))).length = (encL ((verX :: xs).map (·.1))).length := by simp [framesL]
    rw [List.length_map, List.length_cons] at hel
    refine wire_19 (ms := (verX :: xs).map (·.1)) (xs := xs) rfl ?_ rfl hw hL hc hcu hcl (by omega) hds e1 e5 e6 e7 h3
    intro m hm
    rcases List.mem_cons.1 hm with rfl | hm
    · exact verM_ok
    · rw [List.mem_map] at hm
      obtain ⟨x, hx, rfl⟩ := hm
      exact hM x hx
end
end
end Go.Proofs.YtmiohkmcnppaeaaGreatDoor

namespace Go.Proofs.YtmiohkmcnppaeaaGreatDoor
open Go
set_option linter.unusedVariables false

theorem rSlice_choose {α β : Type} {s b : Nat} {R : Rdr α} {enc : β → List Value} {p : β → Heap → Prop} (he : ∀ x cs h, R.rel x cs h → ∃ y, cs = enc y ∧ p y h) (hk : ∀ y, (enc y).length = s) {xs : List α} {v : Value} {h : Heap}
    (c : (rSlice s b R).rel xs [v] h) : ∃ ys : List β, ys.length = xs.length ∧ (∀ y ∈ ys, p y h) ∧ Reads s v ys.length (ys.flatMap enc) h := by
  obtain ⟨a, cap, e, l, m, r, k⟩ := c
  simp only [List.cons.injEq, and_true] at e
  subst e
  rcases k with k | ⟨g, o, cur, T, fr, ea, hg, hj⟩
  · subst k
    exact ⟨[], rfl, fun y hy => by simp at hy, by simp, a, cap, rfl, l, .inl rfl⟩
  · obtain ⟨ys, hl, hy⟩ := choose_list (n := xs.length) (p := fun j (y : β) => (cur.toList.drop (o + j * s)).take s = enc y ∧ p y h) fun j hj' => he _ _ _ (hj j hj').2
    refine ⟨ys, hl, fun y hm => ?_, ?_⟩
    · obtain ⟨i, hi, rfl⟩ := List.getElem_of_mem hm
      exact (hy i hi).2
    · refine ⟨flatMap_length hk ys, a, cap, by rw [hl], by omega, .inr ⟨g, o, cur, T, fr, ea, hg, fun t ht => ?_⟩⟩
      rw [flatMap_length hk] at ht
      obtain ⟨i, j, hi, hjs, e, hf⟩ := flatMap_at_all hk ys t ht
      rw [hf, ← (hy i hi).1, e, List.getElem?_take_of_lt hjs, List.getElem?_drop, Array.getElem?_toList]
      congr 1
      omega

/-- A part of an element, as a row. -/
theorem rowV_part {w : World} {b o k lo n : Nat} {cs : List Value} (hk : cs.length = k) (hc : ∀ j, j < k → w.cell? ⟨b, o + j, none⟩ = cs[j]?) (h : lo + n ≤ k) : rowV w ⟨b, o + lo, none⟩ n = some (.agg ((cs.drop lo).take n).toArray) := by
  unfold rowV
  rw [cellsFrom_of w _ n 0 ((cs.drop lo).take n) (by rw [List.length_take, List.length_drop]; omega) fun j hj => by
    rw [Nat.zero_add, add_lit, Nat.add_assoc, hc (lo + j) (by omega), List.getElem?_take_of_lt hj, List.getElem?_drop]]
  rfl

end Go.Proofs.YtmiohkmcnppaeaaGreatDoor
