/- A reader without an error: numbers. -/
import Derived.Test.YtonajgmamdeohaaGreatDoorTrH
namespace Go.Proofs.YtonajgmamdeohaaGreatDoor
open Go
set_option linter.unusedVariables false
set_option linter.unusedSimpArgs false
set_option maxRecDepth 100000

theorem or64 {s b k : Nat} (hs : s < 2 ^ k) (hb : b < 256) (hk : k + 8 ≤ 64) :
    IntKind.u64.wrap ((BitVec.ofInt IntKind.u64.bits (s : Int) ||| BitVec.ofInt IntKind.u64.bits (IntKind.u64.wrap ((b : Int) * 2 ^ k))).toNat : Int) = ((s + 2 ^ k * b : Nat) : Int) := by
  have h2 : 2 ^ k * b < 2 ^ (k + 8) := by rw [Nat.pow_add]; exact Nat.mul_lt_mul_of_pos_left (by omega) (Nat.two_pow_pos k)
  have h3 : 2 ^ (k + 8) ≤ 2 ^ 64 := Nat.pow_le_pow_right (by omega) hk
  have h4 : 2 ^ k ≤ 2 ^ 64 := Nat.pow_le_pow_right (by omega) (by omega)
  have e1 : ((b : Int) * 2 ^ k) = ((2 ^ k * b : Nat) : Int) := by push_cast; rw [Int.mul_comm]
  have hb64 : IntKind.u64.bits = 64 := rfl
  rw [e1, wrap_u64 (n := ((2 ^ k * b : Nat) : Int)) (by omega) (by omega), hb64]
  rw [BitVec.ofInt_natCast, BitVec.ofInt_natCast, BitVec.toNat_or, BitVec.toNat_ofNat, BitVec.toNat_ofNat, Nat.mod_eq_of_lt (by omega), Nat.mod_eq_of_lt (by omega), Nat.or_comm, ← Nat.two_pow_add_eq_or_of_lt hs]
  rw [wrap_u64 (by omega) (by
    have : 2 ^ k * b + s < 2 ^ (k + 8) := by
      rw [Nat.pow_add]
      have : 2 ^ k * b + 2 ^ k ≤ 2 ^ k * 2 ^ 8 := by rw [← Nat.mul_succ]; exact Nat.mul_le_mul_left _ (by omega)
      omega
    omega)]
  omega
theorem w16 {n : Nat} (h : n < 65536) : IntKind.u16.wrap (n : Int) = n := by
  simp only [IntKind.wrap, IntKind.signed, IntKind.bits, Bool.false_and, Bool.false_eq_true, if_false]
  omega
abbrev rB (v : Value) (at' : Nat) (er : Int) (wh : Int) : Obj := .cells #[v, .int .i64 at', .int .i64 0, .int .i64 er, .int .i64 wh] 79 (0, 0)
def RdP (R : Nat) (b : List UInt8) (at' : Nat) : HP := HP.ex fun v : Value => Blk R (rB v at' 0 0) * RowO 5 1 v b.length (byR b)
section
variable {w0 w : World} {F : HP} {R at' : Nat} {b : List UInt8} {v : Value}
theorem RdP.open (h : St w0 (RdP R b at' * F) w) : ∃ v, St w0 (Blk R (rB v at' 0 0) * (RowO 5 1 v b.length (byR b) * F)) w := by
  obtain ⟨v, h⟩ := h.exF
  exact ⟨v, h.ac (by ac_rfl)⟩
theorem RdP.mk (h : St w0 (Blk R (rB v at' 0 0) * (RowO 5 1 v b.length (byR b) * F)) w) : St w0 (RdP R b at' * F) w := by
  have h1 : St w0 ((Blk R (rB v at' 0 0) * RowO 5 1 v b.length (byR b)) * F) w := h.ac (by ac_rfl)
  exact h1.ent (Ent.sep (Ent.ex (fun v : Value => Blk R (rB v at' 0 0) * RowO 5 1 v b.length (byR b)) v) (Ent.rfl' _))
section
attribute [local go_sem] F58.t6_eq F58.t3_eq
theorem has_any {n : Nat} (hn : at' + n ≤ b.length) (hb : b.length ≤ 16777216) (h : St w0 (Blk R (rB v at' 0 0) * (RowO 5 1 v b.length (byR b) * F)) w) :
    Calls Tryz.prog 58 #[.pointer (some ⟨R, 0, none⟩), .int .i64 n] w fun e w' => St w0 (Blk R (rB v at' 0 0) * (RowO 5 1 v b.length (byR b) * F)) w' ∧ e = .returned (.bool true) := by
  refine F58.calls (by simp) ?_
  unfold F58.code
  obtain ⟨a, c, rfl, _⟩ := h.rowForm v
  have hD := h.drew
  have h1 : ¬ ((b.length : Int) - at') < n := by omega
  simp -dsimp -implicitDefEqProofs (disch := omega) only [go_sem, reqD_of, dec_t, dec_f, wrap_i64, wrap_u32, wrap_u64, wrap_u8, h.cl R, hD.cl R, h1]
  exact hD
theorem byR_reads {a : Option Addr} {c : Nat} {A : HP} (h : St w0 A w) (hr : Ent A (RowO 5 1 (.slice a b.length c) b.length (byR b))) {i : Nat} (hi : i < b.length) : ∃ g o, a = some ⟨g, o, none⟩ ∧ w.cell? ⟨g, o + i, none⟩ = some (.int .u8 (b[i].toNat : Int)) := by
  have h1 : St w0 (Reads 1 (.slice a b.length c) b.length (b.flatMap fun x => [bv x])) w := by
    rw [← List.map_eq_flatMap]
    exact h.ent (hr.trans (RowO.reads _ _ _ _ _))
  obtain ⟨_, a', c', hv, _, hcl⟩ := St.rowsAt (k := 1) (l := b) (enc := fun x => [bv x]) (fun _ => rfl) (by decide) h1
  simp only [Value.slice.injEq, true_and] at hv
  obtain ⟨rfl, rfl⟩ := hv
  obtain ⟨g, o, rfl, _, hc⟩ := hcl i hi
  have hc := hc 0 (by decide)
  simp only [Nat.mul_one, Nat.add_zero, List.getElem?_cons_zero] at hc
  exact ⟨g, o, rfl, hc⟩
end
section
attribute [local go_sem] F27.t8_eq F27.t6_eq F27.t9_eq F27.t3_eq
theorem getu16_any {n : Nat} {width : Nat} {pre post : List UInt8} (hw : width ≤ 2) (hn : n < 256 ^ width) (hb : b = pre ++ (leN width n ++ post)) (hat : at' = pre.length) (hbl : b.length ≤ 16777216) (h : St w0 (RdP R b at' * F) w) :
    Calls Tryz.prog 27 #[.pointer (some ⟨R, 0, none⟩), .int .i64 width] w fun e w' => St w0 (RdP R b (at' + width) * F) w' ∧ e = .returned (.int .u16 n) := by
  obtain ⟨v, h⟩ := RdP.open h
  have hlw := leN_length width n
  have hbw : at' + width ≤ b.length := by rw [hb, hat]; simp only [List.length_append, hlw]; omega
  have hbi : ∀ (i : Nat) (hi : i < width), b[at' + i]'(by omega) = (leN width n)[i]'(by omega) := by
    intro i hi
    simp only [hb, hat]
    rw [List.getElem_append_right (by omega)]
    simp only [Nat.add_sub_cancel_left]
    rw [List.getElem_append_left (by omega)]
  refine F27.calls (by simp) ?_
  unfold F27.code
  simp -dsimp -implicitDefEqProofs (disch := omega) only [go_sem, reqD_of, dec_t, dec_f, wrap_i64, wrap_u32, wrap_u64, wrap_u8]
  refine (has_any hbw hbl h).mono ?_
  rintro e w1 ⟨h1, rfl⟩
  obtain ⟨a, c, rfl, _⟩ := h1.rowForm v
  simp -dsimp -implicitDefEqProofs (disch := omega) only [go_sem, reqD_of, dec_t, dec_f, wrap_i64, wrap_u32, wrap_u64, wrap_u8]
  refine loop_intro (fun e w' => e.ds = [] ∧ e.ρ 0 = .pointer (some ⟨R, 0, none⟩) ∧ e.ρ 1 = .int .i64 width ∧ e.ρ 11 = .int .i64 width ∧ ∃ i : Nat, i ≤ width ∧ e.ρ 12 = .int .i64 i ∧ e.ρ 5 = .int .u64 (deN ((leN width n).take i) : Nat) ∧
      St w0 (Blk R (rB (.slice a b.length c) at' 0 0) * (RowO 5 1 (.slice a b.length c) b.length (byR b) * F)) w')
    (fun e _ => match e.ρ 12 with | .int _ i => (width - i).toNat | _ => 0) ?_ ?_
  · exact ⟨rfl, by simp -dsimp -implicitDefEqProofs only [go_sem], by simp -dsimp -implicitDefEqProofs only [go_sem], by simp -dsimp -implicitDefEqProofs only [go_sem], 0, by omega, by simp -dsimp -implicitDefEqProofs only [go_sem], by (simp -dsimp -implicitDefEqProofs only [go_sem]; rfl), h1⟩
  clear h h1
  rintro e w ⟨hds, e0, e1, e11, i, hi, e12, e5, h⟩
  by_cases hlt : (i : Int) < width
  · have hiw : i < width := by omega
    have hai : at' + i < b.length := by omega
    have hai2 : (at' : Int) + i < b.length := by omega
    have hai3 : ((at' : Int) + i).toNat = at' + i := by omega
    have hD := h.drew
    obtain ⟨g, o, rfl, c0⟩ := byR_reads hD ((Ent.right _ _).trans (Ent.left _ _)) hai
    rw [hbi i hiw] at c0
    obtain ⟨x, hx⟩ : ∃ x, x = (leN width n)[i]'(by omega) := ⟨_, rfl⟩
    rw [← hx] at c0
    have hx256 := x.toNat_lt
    simp -dsimp -implicitDefEqProofs (disch := omega) only [go_sem, reqD_of, dec_t, dec_f, wrap_i64, wrap_u32, wrap_u64, wrap_u8, hds, e0, e1, e11, e12, e5, hlt, hD.cl R, hai2, hai3, c0]
    refine ⟨⟨i + 1, by omega, by omega, ?_, hD⟩, by omega⟩
    have hm : (if (8 * (i : Int)).toNat ≤ 64 then (8 * (i : Int)).toNat else 64) = 8 * i := by rw [if_pos (by omega)]; omega
    have hp : 2 ^ (8 * i) = 256 ^ i := by rw [Nat.pow_mul]
    have hdl : deN ((leN width n).take i) < 256 ^ i := by
      have := deN_lt ((leN width n).take i)
      rwa [List.length_take, Nat.min_eq_left (by omega)] at this
    rw [hm, or64 (by rw [hp]; exact hdl) (by omega) (by omega), deN_take (by omega), hp, hx]
  · obtain rfl : i = width := by omega
    have hdn : deN ((leN i n).take i) = n := by rw [List.take_of_length_le (by omega), deN_leN, Nat.mod_eq_of_lt hn]
    have hn2 : n < 65536 := Nat.lt_of_lt_of_le hn (Nat.pow_le_pow_right (by decide) hw)
    rw [hdn] at e5
    simp -dsimp -implicitDefEqProofs (disch := omega) only [go_sem, reqD_of, dec_t, dec_f, wrap_i64, wrap_u32, wrap_u64, wrap_u8, hds, e0, e1, e11, e12, e5, hlt, h.cl R]
    refine h.sto (b := R) (off := 1) (by simp) rfl fun w2 h2 => ?_
    simp only [List.setIfInBounds_toArray, List.set_cons_succ, List.set_cons_zero] at h2
    simp -dsimp -implicitDefEqProofs (disch := omega) only [go_sem, reqD_of, dec_t, dec_f, wrap_i64, wrap_u32, wrap_u64, wrap_u8, hds, e5]
    exact ⟨RdP.mk h2, w16 hn2⟩
end
section
attribute [local go_sem] F28.t8_eq F28.t6_eq F28.t9_eq F28.t3_eq
theorem getu32_any {n : Nat} {width : Nat} {pre post : List UInt8} (hw : width ≤ 4) (hn : n < 256 ^ width) (hb : b = pre ++ (leN width n ++ post)) (hat : at' = pre.length) (hbl : b.length ≤ 16777216) (h : St w0 (RdP R b at' * F) w) :
    Calls Tryz.prog 28 #[.pointer (some ⟨R, 0, none⟩), .int .i64 width] w fun e w' => St w0 (RdP R b (at' + width) * F) w' ∧ e = .returned (.int .u32 n) := by
  obtain ⟨v, h⟩ := RdP.open h
  have hlw := leN_length width n
  have hbw : at' + width ≤ b.length := by rw [hb, hat]; simp only [List.length_append, hlw]; omega
  have hbi : ∀ (i : Nat) (hi : i < width), b[at' + i]'(by omega) = (leN width n)[i]'(by omega) := by
    intro i hi
    simp only [hb, hat]
    rw [List.getElem_append_right (by omega)]
    simp only [Nat.add_sub_cancel_left]
    rw [List.getElem_append_left (by omega)]
  refine F28.calls (by simp) ?_
  unfold F28.code
  simp -dsimp -implicitDefEqProofs (disch := omega) only [go_sem, reqD_of, dec_t, dec_f, wrap_i64, wrap_u32, wrap_u64, wrap_u8]
  refine (has_any hbw hbl h).mono ?_
  rintro e w1 ⟨h1, rfl⟩
  obtain ⟨a, c, rfl, _⟩ := h1.rowForm v
  simp -dsimp -implicitDefEqProofs (disch := omega) only [go_sem, reqD_of, dec_t, dec_f, wrap_i64, wrap_u32, wrap_u64, wrap_u8]
  refine loop_intro (fun e w' => e.ds = [] ∧ e.ρ 0 = .pointer (some ⟨R, 0, none⟩) ∧ e.ρ 1 = .int .i64 width ∧ e.ρ 11 = .int .i64 width ∧ ∃ i : Nat, i ≤ width ∧ e.ρ 12 = .int .i64 i ∧ e.ρ 5 = .int .u64 (deN ((leN width n).take i) : Nat) ∧
      St w0 (Blk R (rB (.slice a b.length c) at' 0 0) * (RowO 5 1 (.slice a b.length c) b.length (byR b) * F)) w')
    (fun e _ => match e.ρ 12 with | .int _ i => (width - i).toNat | _ => 0) ?_ ?_
  · exact ⟨rfl, by simp -dsimp -implicitDefEqProofs only [go_sem], by simp -dsimp -implicitDefEqProofs only [go_sem], by simp -dsimp -implicitDefEqProofs only [go_sem], 0, by omega, by simp -dsimp -implicitDefEqProofs only [go_sem], by (simp -dsimp -implicitDefEqProofs only [go_sem]; rfl), h1⟩
  clear h h1
  rintro e w ⟨hds, e0, e1, e11, i, hi, e12, e5, h⟩
  by_cases hlt : (i : Int) < width
  · have hiw : i < width := by omega
    have hai : at' + i < b.length := by omega
    have hai2 : (at' : Int) + i < b.length := by omega
    have hai3 : ((at' : Int) + i).toNat = at' + i := by omega
    have hD := h.drew
    obtain ⟨g, o, rfl, c0⟩ := byR_reads hD ((Ent.right _ _).trans (Ent.left _ _)) hai
    rw [hbi i hiw] at c0
    obtain ⟨x, hx⟩ : ∃ x, x = (leN width n)[i]'(by omega) := ⟨_, rfl⟩
    rw [← hx] at c0
    have hx256 := x.toNat_lt
    simp -dsimp -implicitDefEqProofs (disch := omega) only [go_sem, reqD_of, dec_t, dec_f, wrap_i64, wrap_u32, wrap_u64, wrap_u8, hds, e0, e1, e11, e12, e5, hlt, hD.cl R, hai2, hai3, c0]
    refine ⟨⟨i + 1, by omega, by omega, ?_, hD⟩, by omega⟩
    have hm : (if (8 * (i : Int)).toNat ≤ 64 then (8 * (i : Int)).toNat else 64) = 8 * i := by rw [if_pos (by omega)]; omega
    have hp : 2 ^ (8 * i) = 256 ^ i := by rw [Nat.pow_mul]
    have hdl : deN ((leN width n).take i) < 256 ^ i := by
      have := deN_lt ((leN width n).take i)
      rwa [List.length_take, Nat.min_eq_left (by omega)] at this
    rw [hm, or64 (by rw [hp]; exact hdl) (by omega) (by omega), deN_take (by omega), hp, hx]
  · obtain rfl : i = width := by omega
    have hdn : deN ((leN i n).take i) = n := by rw [List.take_of_length_le (by omega), deN_leN, Nat.mod_eq_of_lt hn]
    have hn2 : n < 4294967296 := Nat.lt_of_lt_of_le hn (Nat.pow_le_pow_right (by decide) hw)
    rw [hdn] at e5
    simp -dsimp -implicitDefEqProofs (disch := omega) only [go_sem, reqD_of, dec_t, dec_f, wrap_i64, wrap_u32, wrap_u64, wrap_u8, hds, e0, e1, e11, e12, e5, hlt, h.cl R]
    refine h.sto (b := R) (off := 1) (by simp) rfl fun w2 h2 => ?_
    simp only [List.setIfInBounds_toArray, List.set_cons_succ, List.set_cons_zero] at h2
    simp -dsimp -implicitDefEqProofs (disch := omega) only [go_sem, reqD_of, dec_t, dec_f, wrap_i64, wrap_u32, wrap_u64, wrap_u8, hds, e5]
    exact RdP.mk h2
end
section
attribute [local go_sem] F29.t8_eq F29.t6_eq F29.t9_eq F29.t3_eq
theorem getu8_any {n : Nat} {width : Nat} {pre post : List UInt8} (hw : width ≤ 1) (hn : n < 256 ^ width) (hb : b = pre ++ (leN width n ++ post)) (hat : at' = pre.length) (hbl : b.length ≤ 16777216) (h : St w0 (RdP R b at' * F) w) :
    Calls Tryz.prog 29 #[.pointer (some ⟨R, 0, none⟩), .int .i64 width] w fun e w' => St w0 (RdP R b (at' + width) * F) w' ∧ e = .returned (.int .u8 n) := by
  obtain ⟨v, h⟩ := RdP.open h
  have hlw := leN_length width n
  have hbw : at' + width ≤ b.length := by rw [hb, hat]; simp only [List.length_append, hlw]; omega
  have hbi : ∀ (i : Nat) (hi : i < width), b[at' + i]'(by omega) = (leN width n)[i]'(by omega) := by
    intro i hi
    simp only [hb, hat]
    rw [List.getElem_append_right (by omega)]
    simp only [Nat.add_sub_cancel_left]
    rw [List.getElem_append_left (by omega)]
  refine F29.calls (by simp) ?_
  unfold F29.code
  simp -dsimp -implicitDefEqProofs (disch := omega) only [go_sem, reqD_of, dec_t, dec_f, wrap_i64, wrap_u32, wrap_u64, wrap_u8]
  refine (has_any hbw hbl h).mono ?_
  rintro e w1 ⟨h1, rfl⟩
  obtain ⟨a, c, rfl, _⟩ := h1.rowForm v
  simp -dsimp -implicitDefEqProofs (disch := omega) only [go_sem, reqD_of, dec_t, dec_f, wrap_i64, wrap_u32, wrap_u64, wrap_u8]
  refine loop_intro (fun e w' => e.ds = [] ∧ e.ρ 0 = .pointer (some ⟨R, 0, none⟩) ∧ e.ρ 1 = .int .i64 width ∧ e.ρ 11 = .int .i64 width ∧ ∃ i : Nat, i ≤ width ∧ e.ρ 12 = .int .i64 i ∧ e.ρ 5 = .int .u64 (deN ((leN width n).take i) : Nat) ∧
      St w0 (Blk R (rB (.slice a b.length c) at' 0 0) * (RowO 5 1 (.slice a b.length c) b.length (byR b) * F)) w')
    (fun e _ => match e.ρ 12 with | .int _ i => (width - i).toNat | _ => 0) ?_ ?_
  · exact ⟨rfl, by simp -dsimp -implicitDefEqProofs only [go_sem], by simp -dsimp -implicitDefEqProofs only [go_sem], by simp -dsimp -implicitDefEqProofs only [go_sem], 0, by omega, by simp -dsimp -implicitDefEqProofs only [go_sem], by (simp -dsimp -implicitDefEqProofs only [go_sem]; rfl), h1⟩
  clear h h1
  rintro e w ⟨hds, e0, e1, e11, i, hi, e12, e5, h⟩
  by_cases hlt : (i : Int) < width
  · have hiw : i < width := by omega
    have hai : at' + i < b.length := by omega
    have hai2 : (at' : Int) + i < b.length := by omega
    have hai3 : ((at' : Int) + i).toNat = at' + i := by omega
    have hD := h.drew
    obtain ⟨g, o, rfl, c0⟩ := byR_reads hD ((Ent.right _ _).trans (Ent.left _ _)) hai
    rw [hbi i hiw] at c0
    obtain ⟨x, hx⟩ : ∃ x, x = (leN width n)[i]'(by omega) := ⟨_, rfl⟩
    rw [← hx] at c0
    have hx256 := x.toNat_lt
    simp -dsimp -implicitDefEqProofs (disch := omega) only [go_sem, reqD_of, dec_t, dec_f, wrap_i64, wrap_u32, wrap_u64, wrap_u8, hds, e0, e1, e11, e12, e5, hlt, hD.cl R, hai2, hai3, c0]
    refine ⟨⟨i + 1, by omega, by omega, ?_, hD⟩, by omega⟩
    have hm : (if (8 * (i : Int)).toNat ≤ 64 then (8 * (i : Int)).toNat else 64) = 8 * i := by rw [if_pos (by omega)]; omega
    have hp : 2 ^ (8 * i) = 256 ^ i := by rw [Nat.pow_mul]
    have hdl : deN ((leN width n).take i) < 256 ^ i := by
      have := deN_lt ((leN width n).take i)
      rwa [List.length_take, Nat.min_eq_left (by omega)] at this
    rw [hm, or64 (by rw [hp]; exact hdl) (by omega) (by omega), deN_take (by omega), hp, hx]
  · obtain rfl : i = width := by omega
    have hdn : deN ((leN i n).take i) = n := by rw [List.take_of_length_le (by omega), deN_leN, Nat.mod_eq_of_lt hn]
    have hn2 : n < 256 := Nat.lt_of_lt_of_le hn (Nat.pow_le_pow_right (by decide) hw)
    rw [hdn] at e5
    simp -dsimp -implicitDefEqProofs (disch := omega) only [go_sem, reqD_of, dec_t, dec_f, wrap_i64, wrap_u32, wrap_u64, wrap_u8, hds, e0, e1, e11, e12, e5, hlt, h.cl R]
    refine h.sto (b := R) (off := 1) (by simp) rfl fun w2 h2 => ?_
    simp only [List.setIfInBounds_toArray, List.set_cons_succ, List.set_cons_zero] at h2
    simp -dsimp -implicitDefEqProofs (disch := omega) only [go_sem, reqD_of, dec_t, dec_f, wrap_i64, wrap_u32, wrap_u64, wrap_u8, hds, e5]
    exact RdP.mk h2
end
section
attribute [local go_sem] F30.t8_eq F30.t6_eq F30.t9_eq F30.t3_eq
theorem getu64_any {n : Nat} {width : Nat} {pre post : List UInt8} (hw : width ≤ 8) (hn : n < 256 ^ width) (hb : b = pre ++ (leN width n ++ post)) (hat : at' = pre.length) (hbl : b.length ≤ 16777216) (h : St w0 (RdP R b at' * F) w) :
    Calls Tryz.prog 30 #[.pointer (some ⟨R, 0, none⟩), .int .i64 width] w fun e w' => St w0 (RdP R b (at' + width) * F) w' ∧ e = .returned (.int .u64 n) := by
  obtain ⟨v, h⟩ := RdP.open h
  have hlw := leN_length width n
  have hbw : at' + width ≤ b.length := by rw [hb, hat]; simp only [List.length_append, hlw]; omega
  have hbi : ∀ (i : Nat) (hi : i < width), b[at' + i]'(by omega) = (leN width n)[i]'(by omega) := by
    intro i hi
    simp only [hb, hat]
    rw [List.getElem_append_right (by omega)]
    simp only [Nat.add_sub_cancel_left]
    rw [List.getElem_append_left (by omega)]
  refine F30.calls (by simp) ?_
  unfold F30.code
  simp -dsimp -implicitDefEqProofs (disch := omega) only [go_sem, reqD_of, dec_t, dec_f, wrap_i64, wrap_u32, wrap_u64, wrap_u8]
  refine (has_any hbw hbl h).mono ?_
  rintro e w1 ⟨h1, rfl⟩
  obtain ⟨a, c, rfl, _⟩ := h1.rowForm v
  simp -dsimp -implicitDefEqProofs (disch := omega) only [go_sem, reqD_of, dec_t, dec_f, wrap_i64, wrap_u32, wrap_u64, wrap_u8]
  refine loop_intro (fun e w' => e.ds = [] ∧ e.ρ 0 = .pointer (some ⟨R, 0, none⟩) ∧ e.ρ 1 = .int .i64 width ∧ e.ρ 11 = .int .i64 width ∧ ∃ i : Nat, i ≤ width ∧ e.ρ 12 = .int .i64 i ∧ e.ρ 5 = .int .u64 (deN ((leN width n).take i) : Nat) ∧
      St w0 (Blk R (rB (.slice a b.length c) at' 0 0) * (RowO 5 1 (.slice a b.length c) b.length (byR b) * F)) w')
    (fun e _ => match e.ρ 12 with | .int _ i => (width - i).toNat | _ => 0) ?_ ?_
  · exact ⟨rfl, by simp -dsimp -implicitDefEqProofs only [go_sem], by simp -dsimp -implicitDefEqProofs only [go_sem], by simp -dsimp -implicitDefEqProofs only [go_sem], 0, by omega, by simp -dsimp -implicitDefEqProofs only [go_sem], by (simp -dsimp -implicitDefEqProofs only [go_sem]; rfl), h1⟩
  clear h h1
  rintro e w ⟨hds, e0, e1, e11, i, hi, e12, e5, h⟩
  by_cases hlt : (i : Int) < width
  · have hiw : i < width := by omega
    have hai : at' + i < b.length := by omega
    have hai2 : (at' : Int) + i < b.length := by omega
    have hai3 : ((at' : Int) + i).toNat = at' + i := by omega
    have hD := h.drew
    obtain ⟨g, o, rfl, c0⟩ := byR_reads hD ((Ent.right _ _).trans (Ent.left _ _)) hai
    rw [hbi i hiw] at c0
    obtain ⟨x, hx⟩ : ∃ x, x = (leN width n)[i]'(by omega) := ⟨_, rfl⟩
    rw [← hx] at c0
    have hx256 := x.toNat_lt
    simp -dsimp -implicitDefEqProofs (disch := omega) only [go_sem, reqD_of, dec_t, dec_f, wrap_i64, wrap_u32, wrap_u64, wrap_u8, hds, e0, e1, e11, e12, e5, hlt, hD.cl R, hai2, hai3, c0]
    refine ⟨⟨i + 1, by omega, by omega, ?_, hD⟩, by omega⟩
    have hm : (if (8 * (i : Int)).toNat ≤ 64 then (8 * (i : Int)).toNat else 64) = 8 * i := by rw [if_pos (by omega)]; omega
    have hp : 2 ^ (8 * i) = 256 ^ i := by rw [Nat.pow_mul]
    have hdl : deN ((leN width n).take i) < 256 ^ i := by
      have := deN_lt ((leN width n).take i)
      rwa [List.length_take, Nat.min_eq_left (by omega)] at this
    rw [hm, or64 (by rw [hp]; exact hdl) (by omega) (by omega), deN_take (by omega), hp, hx]
  · obtain rfl : i = width := by omega
    have hdn : deN ((leN i n).take i) = n := by rw [List.take_of_length_le (by omega), deN_leN, Nat.mod_eq_of_lt hn]
    have hn2 : n < 18446744073709551616 := Nat.lt_of_lt_of_le hn (Nat.pow_le_pow_right (by decide) hw)
    rw [hdn] at e5
    simp -dsimp -implicitDefEqProofs (disch := omega) only [go_sem, reqD_of, dec_t, dec_f, wrap_i64, wrap_u32, wrap_u64, wrap_u8, hds, e0, e1, e11, e12, e5, hlt, h.cl R]
    refine h.sto (b := R) (off := 1) (by simp) rfl fun w2 h2 => ?_
    simp only [List.setIfInBounds_toArray, List.set_cons_succ, List.set_cons_zero] at h2
    simp -dsimp -implicitDefEqProofs (disch := omega) only [go_sem, reqD_of, dec_t, dec_f, wrap_i64, wrap_u32, wrap_u64, wrap_u8, hds, e5]
    exact RdP.mk h2
end

theorem R8_any {n : Nat} {pre post : List UInt8} (hn : n < 256) (hb : b = pre ++ (leN 1 n ++ post)) (hat : at' = pre.length) (hbl : b.length ≤ 16777216) (h : St w0 (RdP R b at' * F) w) :
    Calls Tryz.prog 13 #[.pointer (some ⟨R, 0, none⟩)] w fun e w' => St w0 (RdP R b (at' + 1) * F) w' ∧ e = .returned (.int .u8 n) := by
  refine F13.calls (by simp) ?_
  unfold F13.code
  simp -dsimp -implicitDefEqProofs (disch := omega) only [go_sem, reqD_of, dec_t, dec_f, wrap_i64, wrap_u32, wrap_u64, wrap_u8]
  refine (getu8_any (n := n) (width := 1) (pre := pre) (post := post) (by decide) hn hb hat hbl h).mono ?_
  rintro e w1 ⟨h1, rfl⟩
  simp -dsimp -implicitDefEqProofs (disch := omega) only [go_sem, reqD_of, dec_t, dec_f, wrap_i64, wrap_u32, wrap_u64, wrap_u8]
  exact h1

theorem R16_any {n : Nat} {pre post : List UInt8} (hn : n < 65536) (hb : b = pre ++ (leN 2 n ++ post)) (hat : at' = pre.length) (hbl : b.length ≤ 16777216) (h : St w0 (RdP R b at' * F) w) :
    Calls Tryz.prog 11 #[.pointer (some ⟨R, 0, none⟩)] w fun e w' => St w0 (RdP R b (at' + 2) * F) w' ∧ e = .returned (.int .u16 n) := by
  refine F11.calls (by simp) ?_
  unfold F11.code
  simp -dsimp -implicitDefEqProofs (disch := omega) only [go_sem, reqD_of, dec_t, dec_f, wrap_i64, wrap_u32, wrap_u64, wrap_u8]
  refine (getu16_any (n := n) (width := 2) (pre := pre) (post := post) (by decide) hn hb hat hbl h).mono ?_
  rintro e w1 ⟨h1, rfl⟩
  simp -dsimp -implicitDefEqProofs (disch := omega) only [go_sem, reqD_of, dec_t, dec_f, wrap_i64, wrap_u32, wrap_u64, wrap_u8]
  exact h1

theorem R32_any {n : Nat} {pre post : List UInt8} (hn : n < 4294967296) (hb : b = pre ++ (leN 4 n ++ post)) (hat : at' = pre.length) (hbl : b.length ≤ 16777216) (h : St w0 (RdP R b at' * F) w) :
    Calls Tryz.prog 12 #[.pointer (some ⟨R, 0, none⟩)] w fun e w' => St w0 (RdP R b (at' + 4) * F) w' ∧ e = .returned (.int .u32 n) := by
  refine F12.calls (by simp) ?_
  unfold F12.code
  simp -dsimp -implicitDefEqProofs (disch := omega) only [go_sem, reqD_of, dec_t, dec_f, wrap_i64, wrap_u32, wrap_u64, wrap_u8]
  refine (getu32_any (n := n) (width := 4) (pre := pre) (post := post) (by decide) hn hb hat hbl h).mono ?_
  rintro e w1 ⟨h1, rfl⟩
  simp -dsimp -implicitDefEqProofs (disch := omega) only [go_sem, reqD_of, dec_t, dec_f, wrap_i64, wrap_u32, wrap_u64, wrap_u8]
  exact h1

theorem R64_any {n : Nat} {pre post : List UInt8} (hn : n < 18446744073709551616) (hb : b = pre ++ (leN 8 n ++ post)) (hat : at' = pre.length) (hbl : b.length ≤ 16777216) (h : St w0 (RdP R b at' * F) w) :
    Calls Tryz.prog 14 #[.pointer (some ⟨R, 0, none⟩)] w fun e w' => St w0 (RdP R b (at' + 8) * F) w' ∧ e = .returned (.int .u64 n) := by
  refine F14.calls (by simp) ?_
  unfold F14.code
  simp -dsimp -implicitDefEqProofs (disch := omega) only [go_sem, reqD_of, dec_t, dec_f, wrap_i64, wrap_u32, wrap_u64, wrap_u8]
  refine (getu64_any (n := n) (width := 8) (pre := pre) (post := post) (by decide) hn hb hat hbl h).mono ?_
  rintro e w1 ⟨h1, rfl⟩
  simp -dsimp -implicitDefEqProofs (disch := omega) only [go_sem, reqD_of, dec_t, dec_f, wrap_i64, wrap_u32, wrap_u64, wrap_u8]
  exact h1
end
end Go.Proofs.YtonajgmamdeohaaGreatDoor
