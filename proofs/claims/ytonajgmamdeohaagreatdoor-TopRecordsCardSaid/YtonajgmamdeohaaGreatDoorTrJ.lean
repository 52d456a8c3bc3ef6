/- A reader without an error: texts, the end; a reader of bytes; are two lists the same. -/
import Derived.Test.YtonajgmamdeohaaGreatDoorTrI
namespace Go.Proofs.YtonajgmamdeohaaGreatDoor
open Go
set_option linter.unusedVariables false
set_option linter.unusedSimpArgs false
set_option maxRecDepth 100000

theorem orI {x y : Nat} (hx : x < 256) (hy : y < 256) : IntKind.i64.wrap ((BitVec.ofInt IntKind.i64.bits (x : Int) ||| BitVec.ofInt IntKind.i64.bits ((y : Int) * 256)).toNat : Int) = ((x + 256 * y : Nat) : Int) := by
  have hb : IntKind.i64.bits = 64 := rfl
  have e1 : ((y : Int) * 256) = ((256 * y : Nat) : Int) := by omega
  have e2 : 256 * y = 2 ^ 8 * y := rfl
  rw [e1, hb, BitVec.ofInt_natCast, BitVec.ofInt_natCast, BitVec.toNat_or, BitVec.toNat_ofNat, BitVec.toNat_ofNat, Nat.mod_eq_of_lt (by omega), Nat.mod_eq_of_lt (by omega), Nat.or_comm, e2, ← Nat.two_pow_add_eq_or_of_lt (by omega)]
  rw [wrap_i64 (by omega) (by omega)]
  omega
section
variable {w0 w : World} {F : HP} {R at' : Nat} {b : List UInt8} {v : Value}
section
attribute [local go_sem] F31.t3_eq
theorem counted_any {n : Nat} {pre post : List UInt8} (hn : n < 65536) (hb : b = pre ++ (leN 2 n ++ post)) (hat : at' = pre.length) (hpost : n ≤ post.length) (hbl : b.length ≤ 16777216) (h : St w0 (Blk R (rB v at' 0 0) * (RowO 5 1 v b.length (byR b) * F)) w) :
    Calls Tryz.prog 31 #[.pointer (some ⟨R, 0, none⟩)] w fun e w' => St w0 (Blk R (rB v at' 0 0) * (RowO 5 1 v b.length (byR b) * F)) w' ∧ e = .returned (.tuple #[.int .i64 n, .bool true]) := by
  have hlw := leN_length 2 n
  have hbw : at' + (2 + n) ≤ b.length := by rw [hb, hat]; simp only [List.length_append, hlw]; omega
  have hbi : ∀ (i : Nat) (hi : i < 2), b[at' + i]'(by omega) = (leN 2 n)[i]'(by omega) := by
    intro i hi
    simp only [hb, hat]
    rw [List.getElem_append_right (by omega)]
    simp only [Nat.add_sub_cancel_left]
    rw [List.getElem_append_left (by omega)]
  refine F31.calls (by simp) ?_
  unfold F31.code
  simp -dsimp -implicitDefEqProofs (disch := omega) only [go_sem, reqD_of, dec_t, dec_f, wrap_i64, wrap_u32, wrap_u64, wrap_u8]
  refine (has_any (n := 2) (by omega) hbl h).mono ?_
  rintro e w1 ⟨h1, rfl⟩
  obtain ⟨a, c, rfl, _⟩ := h1.rowForm v
  have hD := h1.drew
  obtain ⟨g, o, rfl, c0⟩ := byR_reads hD ((Ent.right _ _).trans (Ent.left _ _)) (i := at' + 0) (by omega)
  obtain ⟨g', o', hg', c1⟩ := byR_reads hD ((Ent.right _ _).trans (Ent.left _ _)) (i := at' + 1) (by omega)
  simp only [Option.some.injEq, Addr.mk.injEq, and_true] at hg'
  obtain ⟨rfl, rfl⟩ := hg'
  rw [hbi 0 (by omega)] at c0
  rw [hbi 1 (by omega)] at c1
  rw [Nat.add_zero] at c0
  have x0 : ((leN 2 n)[0]'(by omega)).toNat = n % 256 := by simp only [leN, List.getElem_cons_zero]; rw [ofNat_toNat (by omega)]
  have x1 : ((leN 2 n)[1]'(by omega)).toNat = n / 256 := by simp only [leN, List.getElem_cons_succ, List.getElem_cons_zero]; rw [ofNat_toNat (by omega)]; omega
  rw [x0] at c0
  rw [x1] at c1
  have p1 : (at' : Int) < b.length := by omega
  have p2 : (at' : Int) + 1 < b.length := by omega
  have p3 : ((at' : Int) + 1).toNat = at' + 1 := by omega
  simp -dsimp -implicitDefEqProofs (disch := omega) only [go_sem, reqD_of, dec_t, dec_f, wrap_i64, wrap_u32, wrap_u64, wrap_u8, hD.cl R, p1, p2, p3, c0, c1]
  rw [orI (by omega) (by omega), show n % 256 + 256 * (n / 256) = n by omega, show (2 : Int) + (n : Int) = ((2 + n : Nat) : Int) by omega, wrap_i64 (n := ((2 + n : Nat) : Int)) (by omega) (by omega)]
  refine (has_any (n := 2 + n) (by omega) hbl hD).mono ?_
  rintro e w2 ⟨h2, rfl⟩
  simp -dsimp -implicitDefEqProofs (disch := omega) only [go_sem, reqD_of, dec_t, dec_f, wrap_i64, wrap_u32, wrap_u64, wrap_u8]
  exact h2
end
section
attribute [local go_sem] F15.t9_eq F15.t4_eq
theorem rtext_any [Gives F Tabs] {l pre post : List UInt8} (hl : l.length < 65536) (hg : good l = true) (hb : b = pre ++ (leN 2 l.length ++ (l ++ post))) (hat : at' = pre.length) (hbl : b.length ≤ 16777216) (h : St w0 (RdP R b at' * F) w) :
    Calls Tryz.prog 15 #[.pointer (some ⟨R, 0, none⟩)] w fun e w' => St w0 (RdP R b (at' + (2 + l.length)) * F) w' ∧ e = .returned (.string (strOf l)) := by
  obtain ⟨v, h⟩ := RdP.open h
  have hlw := leN_length 2 l.length
  have hbw : at' + (2 + l.length) ≤ b.length := by rw [hb, hat]; simp only [List.length_append, hlw]; omega
  refine F15.calls (by simp) ?_
  unfold F15.code
  simp -dsimp -implicitDefEqProofs (disch := omega) only [go_sem, reqD_of, dec_t, dec_f, wrap_i64, wrap_u32, wrap_u64, wrap_u8]
  refine (counted_any (n := l.length) (pre := pre) (post := l ++ post) hl hb hat (by simp) hbl h).mono ?_
  rintro e w1 ⟨h1, rfl⟩
  obtain ⟨a, c, rfl, _, hbc, _⟩ := h1.rowForm v
  have hD := h1.drew
  have q1 : (at' : Int) + 2 ≤ b.length := by omega
  have q2 : (at' : Int) + 2 + l.length ≤ b.length := by omega
  have q3 : ((at' : Int) + 2).toNat = at' + 2 := by omega
  have q4 : ((at' : Int) + 2 + l.length).toNat = at' + 2 + l.length := by omega
  have q5 : (at' : Int) + 2 + l.length ≤ c := by omega
  have q6 : (at' : Int) + 2 ≤ (at' : Int) + 2 + l.length := by omega
  obtain ⟨g, o, rfl, _⟩ := byR_reads hD ((Ent.right _ _).trans (Ent.left _ _)) (i := at') (by omega)
  have hbl2 : (byR b).length = b.length := by simp [byR]
  have e2 : ((byR b).drop ((at' + 2) * 1)).take (l.length * 1) = byR l := by
    rw [Nat.mul_one, Nat.mul_one, byR, ← List.map_drop, ← List.map_take, hb, hat]
    congr 1
    rw [← List.append_assoc, List.drop_append_of_le_length (by simp [hlw]), List.drop_of_length_le (by simp [hlw]), List.nil_append, List.take_append_of_le_length (Nat.le_refl _), List.take_of_length_le (Nat.le_refl _)]
  have hsub : Ent (Blk R (rB (.slice (some ⟨g, o, none⟩) b.length c) at' 0 0) * (RowO 5 1 (.slice (some ⟨g, o, none⟩) b.length c) b.length (byR b) * F)) (Reads 1 (.slice (if c = at' + 2 then some ⟨g, o, none⟩ else some ⟨g, o + (at' + 2), none⟩) l.length (c - (at' + 2))) l.length (byR l)) := by
    have k := (Ent.right (Blk R (rB (.slice (some ⟨g, o, none⟩) b.length c) at' 0 0)) (RowO 5 1 (.slice (some ⟨g, o, none⟩) b.length c) b.length (byR b) * F)).trans ((Ent.left _ _).trans ((RowO.reads _ _ _ _ _).trans (Reads.sub (lo := at' + 2) (k := l.length) (by omega))))
    rw [e2] at k
    simpa [Addr.add] using k
  have e3 : at' + 2 + l.length - (at' + 2) = l.length := by omega
  simp -dsimp -implicitDefEqProofs (disch := omega) only [go_sem, reqD_of, dec_t, dec_f, wrap_i64, wrap_u32, wrap_u64, wrap_u8, hD.cl R, q1, q2, q3, q4, q5, q6, e3]
  refine hD.str (src := 33) (e := 5) (dst := 9) (bs := l) hsub Tryz.underlying33 Tryz.underlying5 Tryz.underlying9 ?_
  simp -dsimp -implicitDefEqProofs (disch := omega) only [go_sem, reqD_of, dec_t, dec_f, wrap_i64, wrap_u32, wrap_u64, wrap_u8]
  refine (bad_any (l := l) hD (by omega)).mono ?_
  rintro e w2 ⟨h2, k, rfl, hk⟩
  rw [hg, decide_eq_true_eq] at hk
  have hk' : ¬ (0 : Int) ≤ k := by omega
  simp -dsimp -implicitDefEqProofs (disch := omega) only [go_sem, reqD_of, dec_t, dec_f, wrap_i64, wrap_u32, wrap_u64, wrap_u8, hk', h2.cl R]
  refine h2.sto (b := R) (off := 1) (by simp) rfl fun w3 h3 => ?_
  simp only [List.setIfInBounds_toArray, List.set_cons_succ, List.set_cons_zero] at h3
  simp -dsimp -implicitDefEqProofs (disch := omega) only [go_sem, reqD_of, dec_t, dec_f, wrap_i64, wrap_u32, wrap_u64, wrap_u8]
  rw [show (at' : Int) + (2 + (l.length : Int)) = ((at' + (2 + l.length) : Nat) : Int) by omega] at h3
  exact RdP.mk h3
end

theorem end_any (hat : at' = b.length) (hbl : b.length ≤ 16777216) (h : St w0 (RdP R b at' * F) w) :
    Calls Tryz.prog 16 #[.pointer (some ⟨R, 0, none⟩)] w fun e w' => St w0 (RdP R b at' * F) w' ∧ e = .returned (.tuple #[]) := by
  obtain ⟨v, h⟩ := RdP.open h
  refine F16.calls (by simp) ?_
  unfold F16.code
  obtain ⟨a, c, rfl, _⟩ := h.rowForm v
  have hD := h.drew
  have h1 : ¬ (at' : Int) < b.length := by omega
  simp -dsimp -implicitDefEqProofs (disch := omega) only [go_sem, reqD_of, dec_t, dec_f, wrap_i64, wrap_u32, wrap_u64, wrap_u8, h.cl R, hD.cl R, h1]
  exact RdP.mk hD

theorem err_any (h : St w0 (RdP R b at' * F) w) :
    Calls Tryz.prog 17 #[.pointer (some ⟨R, 0, none⟩)] w fun e w' => St w0 (RdP R b at' * F) w' ∧ e = .returned (.tuple #[.int .i64 0, .int .i64 0]) := by
  obtain ⟨v, h⟩ := RdP.open h
  refine F17.calls (by simp) ?_
  unfold F17.code
  have hD := h.drew
  simp -dsimp -implicitDefEqProofs (disch := omega) only [go_sem, reqD_of, dec_t, dec_f, wrap_i64, wrap_u32, wrap_u64, wrap_u8, h.cl R, hD.cl R]
  exact RdP.mk hD

theorem newReader_any {a : Option Addr} {c : Nat} (hbl : b.length ≤ 16777216) (h : St w0 (RowO 5 1 (.slice a b.length c) b.length (byR b) * F) w) :
    Calls Tryz.prog 10 #[.slice a b.length c] w fun e w' => ∃ R, St w0 (RdP R b 0 * (RowO 5 1 (.slice a b.length c) b.length (byR b) * F)) w' ∧ e = .returned (.pointer (some ⟨R, 0, none⟩)) := by
  refine F10.calls (by simp) ?_
  unfold F10.code
  simp -dsimp -implicitDefEqProofs (disch := omega) only [go_sem, reqD_of, dec_t, dec_f, wrap_i64, wrap_u32, wrap_u64, wrap_u8]
  refine (h.nilR 5 1).app (v := .slice none 0 0) (x := .slice a b.length c) fact_rowTy_33 ((Ent.right _ _).trans ((Ent.left _ _).trans (RowO.reads _ _ _ _ _))) Tryz.underlying33 byR_cells (fun h => by have := congrArg List.length h; simpa [byR] using this) (show 0 + b.length ≤ 9223372036854775807 by omega) (show (0 + b.length) * 1 ≤ 140737488355328 by omega) fun v3 w3 h3 => ?_
  rw [Nat.zero_add, List.nil_append] at h3
  obtain ⟨a3, c3, rfl, _⟩ := h3.rowForm v3
  simp -dsimp -implicitDefEqProofs (disch := omega) only [go_sem, reqD_of, dec_t, dec_f, wrap_i64, wrap_u32, wrap_u64, wrap_u8]
  refine onV_of (v := .agg #[.slice a3 b.length c3, .int .i64 0, .int .i64 0, .int .i64 0, .int .i64 0]) (by kernel_rfl) ?_
  simp -dsimp -implicitDefEqProofs (disch := omega) only [go_sem, reqD_of, dec_t, dec_f, wrap_i64, wrap_u32, wrap_u64, wrap_u8]
  refine h3.new fun R w4 h4 => ?_
  simp -dsimp -implicitDefEqProofs (disch := omega) only [go_sem, reqD_of, dec_t, dec_f, wrap_i64, wrap_u32, wrap_u64, wrap_u8]
  exact ⟨R, RdP.mk (v := .slice a3 b.length c3) h4, rfl⟩
end
end Go.Proofs.YtonajgmamdeohaaGreatDoor
