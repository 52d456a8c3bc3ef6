/- A writer: room, numbers. -/
import Derived.Test.YtonajgmamdeohaaGreatDoorTrP
import Derived.Test.YtonajgmamdeohaaGreatDoorSl3
namespace Go.Proofs.YtonajgmamdeohaaGreatDoor
open Go
set_option linter.unusedVariables false
set_option linter.unusedSimpArgs false
set_option maxRecDepth 100000

abbrev byR (l : List UInt8) : List Value := l.map bv
abbrev opR (l : List Nat) : List Value := l.map fun n : Nat => .int .i64 (n : Int)
abbrev wB (s : WS) (v u : Value) : Obj := .cells #[.int .i64 s.lim, v, u, .int .i64 s.err] 90 (0, 0)
abbrev WU (W : Nat) (s : WS) (v u : Value) (F : HP) : HP := Blk W (wB s v u) * (RowO 5 1 v s.b.length (byR s.b) * (RowO 3 1 u s.op.length (opR s.op) * F))
def WP (W : Nat) (s : WS) : HP := HP.ex fun x : Value × Value => Blk W (wB s x.1 x.2) * (RowO 5 1 x.1 s.b.length (byR s.b) * RowO 3 1 x.2 s.op.length (opR s.op))
structure WOk (s : WS) : Prop where
  lim : s.lim ≤ 16777216
  b : s.b.length ≤ s.lim
  op : s.op.length ≤ 15
theorem WOk.raw {s : WS} {l : List UInt8} (h : WOk s) : WOk (rawS l s) := by
  unfold rawS
  split
  · rename_i k
    simp only [hasRoom, decide_eq_true_eq] at k
    exact ⟨h.lim, by simp only [List.length_append]; exact k.2, h.op⟩
  · unfold roomS; split <;> exact ⟨h.lim, h.b, h.op⟩
theorem WOk.room {s : WS} {n : Nat} (h : WOk s) : WOk (roomS n s) := by unfold roomS; split <;> exact ⟨h.lim, h.b, h.op⟩
theorem WOk.err {s : WS} {e : Int} (h : WOk s) : WOk { s with err := e } := ⟨h.lim, h.b, h.op⟩
theorem WOk.text {s : WS} {l : List UInt8} (h : WOk s) : WOk (textS l s) := by
  unfold textS
  split
  · exact h
  split
  · exact h.err
  split
  · exact h.err
  exact h.raw
section
variable {w0 w : World} {F : HP} {W : Nat} {s : WS} {v u : Value}
theorem WP.open (h : St w0 (WP W s * F) w) : ∃ v u, St w0 (WU W s v u F) w := by
  obtain ⟨⟨v, u⟩, h⟩ := h.exF
  exact ⟨v, u, h.ac (by unfold WU; ac_rfl)⟩
theorem WP.mk (h : St w0 (WU W s v u F) w) : St w0 (WP W s * F) w := by
  have h1 : St w0 ((Blk W (wB s v u) * (RowO 5 1 v s.b.length (byR s.b) * RowO 3 1 u s.op.length (opR s.op))) * F) w := h.ac (by unfold WU; ac_rfl)
  exact h1.ent (Ent.sep (Ent.ex (fun x : Value × Value => Blk W (wB s x.1 x.2) * (RowO 5 1 x.1 s.b.length (byR s.b) * RowO 3 1 x.2 s.op.length (opR s.op))) (v, u)) (Ent.rfl' _))
theorem WU.of {n : Nat} {xs : List Value} (hl : s.b.length = n) (hx : byR s.b = xs) (h : St w0 (Blk W (wB s v u) * (RowO 5 1 v n xs * (RowO 3 1 u s.op.length (opR s.op) * F))) w) : St w0 (WU W s v u F) w := by
  subst hl hx; exact h
section
attribute [local go_sem] F60.t6_eq F60.t3_eq
theorem room_any {n : Nat} (ok : WOk s) (hn : n ≤ 1099511627776) (h : St w0 (WU W s v u F) w) :
    Calls Tryz.prog 60 #[.pointer (some ⟨W, 0, none⟩), .int .i64 n] w fun e w' => St w0 (WU W (roomS n s) v u F) w' ∧ e = .returned (.bool (hasRoom n s)) := by
  obtain ⟨o1, o2, o3⟩ := ok
  refine F60.calls (by simp) ?_
  unfold F60.code
  obtain ⟨a, c, rfl, _⟩ := h.rowForm v
  by_cases h0 : s.err = 0
  · have hD := h.drew
    simp -dsimp -implicitDefEqProofs (disch := omega) only [go_sem, reqD_of, dec_t, dec_f, wrap_i64, wrap_u32, wrap_u64, wrap_u8, h.cl W, hD.cl W, h0]
    by_cases h1 : (n : Int) > s.lim - s.b.length
    · have h1' : ((s.lim : Int) - s.b.length) < n := by omega
      have e1 : roomS n s = { s with err := 11 } := by unfold roomS; rw [if_pos ⟨h0, by omega⟩]
      have e2 : hasRoom n s = false := by unfold hasRoom; simp; omega
      simp -dsimp -implicitDefEqProofs (disch := omega) only [go_sem, reqD_of, dec_t, dec_f, wrap_i64, wrap_u32, wrap_u64, wrap_u8, h1', h0]
      refine hD.sto (b := W) (off := 3) (by simp) rfl fun w2 h2 => ?_
      simp only [List.setIfInBounds_toArray, List.set_cons_succ, List.set_cons_zero] at h2
      simp -dsimp -implicitDefEqProofs (disch := omega) only [go_sem, reqD_of, dec_t, dec_f, wrap_i64, wrap_u32, wrap_u64, wrap_u8]
      rw [e1, e2]
      exact ⟨h2, rfl⟩
    · have h1' : ¬ ((s.lim : Int) - s.b.length) < n := by omega
      have e1 : roomS n s = s := by unfold roomS; rw [if_neg (by omega)]
      have e2 : hasRoom n s = true := by unfold hasRoom; simp [h0]; omega
      simp -dsimp -implicitDefEqProofs (disch := omega) only [go_sem, reqD_of, dec_t, dec_f, wrap_i64, wrap_u32, wrap_u64, wrap_u8, h1', h0]
      rw [e1, e2]
      exact ⟨hD, rfl⟩
  · have e1 : roomS n s = s := by unfold roomS; rw [if_neg (by omega)]
    have e2 : hasRoom n s = false := by unfold hasRoom; simp; omega
    simp -dsimp -implicitDefEqProofs (disch := omega) only [go_sem, reqD_of, dec_t, dec_f, wrap_i64, wrap_u32, wrap_u64, wrap_u8, h.cl W, h0]
    rw [e1, e2]
    exact ⟨h, rfl⟩
theorem shr8 {m : Nat} : (m : Int).fdiv 256 = ((m / 256 : Nat) : Int) := by
  rw [Int.fdiv_eq_ediv_of_nonneg _ (by decide)]
  omega
theorem byte_of {m : Nat} : Value.int .u8 (IntKind.u8.wrap (m : Int)) = bv (UInt8.ofNat (m % 256)) := by
  unfold bv
  rw [ofNat_toNat (by omega)]
  congr 1
end
section
attribute [local go_sem] F55.t6_eq F55.t4_eq F55.t1_eq
theorem putu32_any {n : Nat} {width : Nat} (ok : WOk s) (hw : width ≤ 8) (hn : n < 4294967296) (h : St w0 (WP W s * F) w) :
    Calls Tryz.prog 55 #[.pointer (some ⟨W, 0, none⟩), .int .u32 n, .int .i64 width] w fun e w' => St w0 (WP W (rawS (leN width n) s) * F) w' ∧ e = .returned (.tuple #[]) := by
  obtain ⟨v, u, h⟩ := WP.open h
  refine F55.calls (by simp) ?_
  unfold F55.code
  simp -dsimp -implicitDefEqProofs (disch := omega) only [go_sem, reqD_of, dec_t, dec_f, wrap_i64, wrap_u32, wrap_u64, wrap_u8]
  refine (room_any (n := width) ok (by omega) h).mono ?_
  rintro e w1 ⟨h1, rfl⟩
  by_cases hr : hasRoom width s = true
  · have e1 : roomS width s = s := by
      unfold hasRoom at hr
      simp only [decide_eq_true_eq] at hr
      unfold roomS; rw [if_neg (by omega)]
    have e2 : rawS (leN width n) s = { s with b := s.b ++ leN width n } := by unfold rawS; rw [leN_length, if_pos hr]
    rw [e1] at h1
    rw [e2, hr]
    obtain ⟨a0, c0, rfl, _⟩ := h1.rowForm v
    simp -dsimp -implicitDefEqProofs (disch := omega) only [go_sem, reqD_of, dec_t, dec_f, wrap_i64, wrap_u32, wrap_u64, wrap_u8]
    refine loop_intro (fun e w' => e.ds = [] ∧ e.ρ 0 = .pointer (some ⟨W, 0, none⟩) ∧ e.ρ 13 = .int .i64 width ∧ ∃ (i m : Nat) (v : Value) (done : List UInt8), i ≤ width ∧ e.ρ 14 = .int .i64 i ∧ e.ρ 6 = .int .u64 m ∧ done.length = i ∧ done ++ leN (width - i) m = leN width n ∧ m < 18446744073709551616 ∧ St w0 (WU W { s with b := s.b ++ done } v u F) w')
      (fun e _ => match e.ρ 14 with | .int _ i => (width - i).toNat | _ => 0) ?_ ?_
    · exact ⟨rfl, by simp -dsimp -implicitDefEqProofs only [go_sem], by simp -dsimp -implicitDefEqProofs only [go_sem], 0, n, _, [], by omega, by simp -dsimp -implicitDefEqProofs only [go_sem], by simp -dsimp -implicitDefEqProofs only [go_sem], rfl, by simp, by omega, by simpa using h1⟩
    clear h h1
    rintro e w2 ⟨hd, e0, e13, i, m, v, done, hi, e14, e6, hdl, hdn, hm, h2⟩
    obtain ⟨a, c, rfl, _⟩ := h2.rowForm v
    by_cases hlt : (i : Int) < width
    · obtain ⟨k, hk⟩ : ∃ k, width - i = k + 1 := ⟨width - i - 1, by omega⟩
      rw [hk] at hdn
      have hbl : (s.b ++ done).length < 17000000 := by
        have := ok.lim
        have := ok.b
        simp only [List.length_append]
        omega
      simp -dsimp -implicitDefEqProofs (disch := omega) only [go_sem, reqD_of, dec_t, dec_f, wrap_i64, wrap_u32, wrap_u64, wrap_u8, hd, e0, e13, e14, e6, hlt, h2.cl W]
      rw [byte_of]
      refine h2.lit (n := 1) (cells := byR [UInt8.ofNat (m % 256)]) fact_rowTy_33 rfl (by decide) (by decide) fun v2 w3 h3 => ?_
      simp -dsimp -implicitDefEqProofs (disch := omega) only [go_sem, reqD_of, dec_t, dec_f, wrap_i64, wrap_u32, wrap_u64, wrap_u8]
      refine h3.appR (v := .slice a (s.b ++ done).length c) (x := v2) fact_rowTy_33 Tryz.underlying33 (fun u hu => by simp only [byR, List.map_cons, List.map_nil, List.mem_cons, List.not_mem_nil, or_false] at hu; subst hu; rfl) (fun h => by simp at h) (show (s.b ++ done).length + 1 ≤ 9223372036854775807 by omega) (show ((s.b ++ done).length + 1) * 1 ≤ 140737488355328 by omega) fun v3 w4 h4 => ?_
      simp -dsimp -implicitDefEqProofs (disch := omega) only [go_sem, reqD_of, dec_t, dec_f, wrap_i64, wrap_u32, wrap_u64, wrap_u8]
      obtain ⟨a3, c3, rfl, _⟩ := h4.rowForm v3
      refine h4.sto (b := W) (off := 1) (by simp) rfl fun w5 h5 => ?_
      simp only [List.setIfInBounds_toArray, List.set_cons_succ, List.set_cons_zero] at h5
      simp -dsimp -implicitDefEqProofs (disch := omega) only [go_sem, reqD_of, dec_t, dec_f, wrap_i64, wrap_u32, wrap_u64, wrap_u8, hd, e0, e13, e14, e6]
      rw [shr8]
      refine ⟨⟨i + 1, m / 256, .slice a3 ((s.b ++ done).length + 1) c3, done ++ [UInt8.ofNat (m % 256)], by omega, by omega, by omega, by simp [hdl], ?_, by omega, ?_⟩, by omega⟩
      · rw [show width - (i + 1) = k by omega, ← hdn]
        simp [leN]
      · refine WU.of (n := (s.b ++ done).length + 1) (xs := byR (s.b ++ done) ++ byR [UInt8.ofNat (m % 256)]) (by simp; omega) (by simp [byR]) ?_
        exact (h5.ac (show _ = RowO 5 1 v2 1 (byR [UInt8.ofNat (m % 256)]) * (Blk W (wB s (.slice a3 ((s.b ++ done).length + 1) c3) u) * (RowO 5 1 (.slice a3 ((s.b ++ done).length + 1) c3) ((s.b ++ done).length + 1) (byR (s.b ++ done) ++ byR [UInt8.ofNat (m % 256)]) * (RowO 3 1 u s.op.length (opR s.op) * F))) by ac_rfl)).right
    · obtain rfl : done.length = width := by omega
      obtain rfl : i = done.length := by omega
      simp -dsimp -implicitDefEqProofs (disch := omega) only [go_sem, reqD_of, dec_t, dec_f, wrap_i64, wrap_u32, wrap_u64, wrap_u8, hd, e0, e13, e14, e6, hlt]
      rw [Nat.sub_self] at hdn
      have hdn : done = leN done.length n := by simpa [leN] using hdn
      rw [← hdn]
      exact WP.mk h2
  · have hr' : hasRoom width s = false := by simpa using hr
    have e2 : rawS (leN width n) s = roomS width s := by unfold rawS; rw [leN_length, if_neg hr]
    rw [e2, hr']
    simp -dsimp -implicitDefEqProofs (disch := omega) only [go_sem, reqD_of, dec_t, dec_f, wrap_i64, wrap_u32, wrap_u64, wrap_u8]
    exact WP.mk h1
end
section
attribute [local go_sem] F56.t6_eq F56.t4_eq F56.t1_eq
theorem putu8_any {n : Nat} {width : Nat} (ok : WOk s) (hw : width ≤ 8) (hn : n < 256) (h : St w0 (WP W s * F) w) :
    Calls Tryz.prog 56 #[.pointer (some ⟨W, 0, none⟩), .int .u8 n, .int .i64 width] w fun e w' => St w0 (WP W (rawS (leN width n) s) * F) w' ∧ e = .returned (.tuple #[]) := by
  obtain ⟨v, u, h⟩ := WP.open h
  refine F56.calls (by simp) ?_
  unfold F56.code
  simp -dsimp -implicitDefEqProofs (disch := omega) only [go_sem, reqD_of, dec_t, dec_f, wrap_i64, wrap_u32, wrap_u64, wrap_u8]
  refine (room_any (n := width) ok (by omega) h).mono ?_
  rintro e w1 ⟨h1, rfl⟩
  by_cases hr : hasRoom width s = true
  · have e1 : roomS width s = s := by
      unfold hasRoom at hr
      simp only [decide_eq_true_eq] at hr
      unfold roomS; rw [if_neg (by omega)]
    have e2 : rawS (leN width n) s = { s with b := s.b ++ leN width n } := by unfold rawS; rw [leN_length, if_pos hr]
    rw [e1] at h1
    rw [e2, hr]
    obtain ⟨a0, c0, rfl, _⟩ := h1.rowForm v
    simp -dsimp -implicitDefEqProofs (disch := omega) only [go_sem, reqD_of, dec_t, dec_f, wrap_i64, wrap_u32, wrap_u64, wrap_u8]
    refine loop_intro (fun e w' => e.ds = [] ∧ e.ρ 0 = .pointer (some ⟨W, 0, none⟩) ∧ e.ρ 13 = .int .i64 width ∧ ∃ (i m : Nat) (v : Value) (done : List UInt8), i ≤ width ∧ e.ρ 14 = .int .i64 i ∧ e.ρ 6 = .int .u64 m ∧ done.length = i ∧ done ++ leN (width - i) m = leN width n ∧ m < 18446744073709551616 ∧ St w0 (WU W { s with b := s.b ++ done } v u F) w')
      (fun e _ => match e.ρ 14 with | .int _ i => (width - i).toNat | _ => 0) ?_ ?_
    · exact ⟨rfl, by simp -dsimp -implicitDefEqProofs only [go_sem], by simp -dsimp -implicitDefEqProofs only [go_sem], 0, n, _, [], by omega, by simp -dsimp -implicitDefEqProofs only [go_sem], by simp -dsimp -implicitDefEqProofs only [go_sem], rfl, by simp, by omega, by simpa using h1⟩
    clear h h1
    rintro e w2 ⟨hd, e0, e13, i, m, v, done, hi, e14, e6, hdl, hdn, hm, h2⟩
    obtain ⟨a, c, rfl, _⟩ := h2.rowForm v
    by_cases hlt : (i : Int) < width
    · obtain ⟨k, hk⟩ : ∃ k, width - i = k + 1 := ⟨width - i - 1, by omega⟩
      rw [hk] at hdn
      have hbl : (s.b ++ done).length < 17000000 := by
        have := ok.lim
        have := ok.b
        simp only [List.length_append]
        omega
      simp -dsimp -implicitDefEqProofs (disch := omega) only [go_sem, reqD_of, dec_t, dec_f, wrap_i64, wrap_u32, wrap_u64, wrap_u8, hd, e0, e13, e14, e6, hlt, h2.cl W]
      rw [byte_of]
      refine h2.lit (n := 1) (cells := byR [UInt8.ofNat (m % 256)]) fact_rowTy_33 rfl (by decide) (by decide) fun v2 w3 h3 => ?_
      simp -dsimp -implicitDefEqProofs (disch := omega) only [go_sem, reqD_of, dec_t, dec_f, wrap_i64, wrap_u32, wrap_u64, wrap_u8]
      refine h3.appR (v := .slice a (s.b ++ done).length c) (x := v2) fact_rowTy_33 Tryz.underlying33 (fun u hu => by simp only [byR, List.map_cons, List.map_nil, List.mem_cons, List.not_mem_nil, or_false] at hu; subst hu; rfl) (fun h => by simp at h) (show (s.b ++ done).length + 1 ≤ 9223372036854775807 by omega) (show ((s.b ++ done).length + 1) * 1 ≤ 140737488355328 by omega) fun v3 w4 h4 => ?_
      simp -dsimp -implicitDefEqProofs (disch := omega) only [go_sem, reqD_of, dec_t, dec_f, wrap_i64, wrap_u32, wrap_u64, wrap_u8]
      obtain ⟨a3, c3, rfl, _⟩ := h4.rowForm v3
      refine h4.sto (b := W) (off := 1) (by simp) rfl fun w5 h5 => ?_
      simp only [List.setIfInBounds_toArray, List.set_cons_succ, List.set_cons_zero] at h5
      simp -dsimp -implicitDefEqProofs (disch := omega) only [go_sem, reqD_of, dec_t, dec_f, wrap_i64, wrap_u32, wrap_u64, wrap_u8, hd, e0, e13, e14, e6]
      rw [shr8]
      refine ⟨⟨i + 1, m / 256, .slice a3 ((s.b ++ done).length + 1) c3, done ++ [UInt8.ofNat (m % 256)], by omega, by omega, by omega, by simp [hdl], ?_, by omega, ?_⟩, by omega⟩
      · rw [show width - (i + 1) = k by omega, ← hdn]
        simp [leN]
      · refine WU.of (n := (s.b ++ done).length + 1) (xs := byR (s.b ++ done) ++ byR [UInt8.ofNat (m % 256)]) (by simp; omega) (by simp [byR]) ?_
        exact (h5.ac (show _ = RowO 5 1 v2 1 (byR [UInt8.ofNat (m % 256)]) * (Blk W (wB s (.slice a3 ((s.b ++ done).length + 1) c3) u) * (RowO 5 1 (.slice a3 ((s.b ++ done).length + 1) c3) ((s.b ++ done).length + 1) (byR (s.b ++ done) ++ byR [UInt8.ofNat (m % 256)]) * (RowO 3 1 u s.op.length (opR s.op) * F))) by ac_rfl)).right
    · obtain rfl : done.length = width := by omega
      obtain rfl : i = done.length := by omega
      simp -dsimp -implicitDefEqProofs (disch := omega) only [go_sem, reqD_of, dec_t, dec_f, wrap_i64, wrap_u32, wrap_u64, wrap_u8, hd, e0, e13, e14, e6, hlt]
      rw [Nat.sub_self] at hdn
      have hdn : done = leN done.length n := by simpa [leN] using hdn
      rw [← hdn]
      exact WP.mk h2
  · have hr' : hasRoom width s = false := by simpa using hr
    have e2 : rawS (leN width n) s = roomS width s := by unfold rawS; rw [leN_length, if_neg hr]
    rw [e2, hr']
    simp -dsimp -implicitDefEqProofs (disch := omega) only [go_sem, reqD_of, dec_t, dec_f, wrap_i64, wrap_u32, wrap_u64, wrap_u8]
    exact WP.mk h1
end
section
attribute [local go_sem] F57.t6_eq F57.t4_eq F57.t1_eq
theorem putu16_any {n : Nat} {width : Nat} (ok : WOk s) (hw : width ≤ 8) (hn : n < 65536) (h : St w0 (WP W s * F) w) :
    Calls Tryz.prog 57 #[.pointer (some ⟨W, 0, none⟩), .int .u16 n, .int .i64 width] w fun e w' => St w0 (WP W (rawS (leN width n) s) * F) w' ∧ e = .returned (.tuple #[]) := by
  obtain ⟨v, u, h⟩ := WP.open h
  refine F57.calls (by simp) ?_
  unfold F57.code
  simp -dsimp -implicitDefEqProofs (disch := omega) only [go_sem, reqD_of, dec_t, dec_f, wrap_i64, wrap_u32, wrap_u64, wrap_u8]
  refine (room_any (n := width) ok (by omega) h).mono ?_
  rintro e w1 ⟨h1, rfl⟩
  by_cases hr : hasRoom width s = true
  · have e1 : roomS width s = s := by
      unfold hasRoom at hr
      simp only [decide_eq_true_eq] at hr
      unfold roomS; rw [if_neg (by omega)]
    have e2 : rawS (leN width n) s = { s with b := s.b ++ leN width n } := by unfold rawS; rw [leN_length, if_pos hr]
    rw [e1] at h1
    rw [e2, hr]
    obtain ⟨a0, c0, rfl, _⟩ := h1.rowForm v
    simp -dsimp -implicitDefEqProofs (disch := omega) only [go_sem, reqD_of, dec_t, dec_f, wrap_i64, wrap_u32, wrap_u64, wrap_u8]
    refine loop_intro (fun e w' => e.ds = [] ∧ e.ρ 0 = .pointer (some ⟨W, 0, none⟩) ∧ e.ρ 13 = .int .i64 width ∧ ∃ (i m : Nat) (v : Value) (done : List UInt8), i ≤ width ∧ e.ρ 14 = .int .i64 i ∧ e.ρ 6 = .int .u64 m ∧ done.length = i ∧ done ++ leN (width - i) m = leN width n ∧ m < 18446744073709551616 ∧ St w0 (WU W { s with b := s.b ++ done } v u F) w')
      (fun e _ => match e.ρ 14 with | .int _ i => (width - i).toNat | _ => 0) ?_ ?_
    · exact ⟨rfl, by simp -dsimp -implicitDefEqProofs only [go_sem], by simp -dsimp -implicitDefEqProofs only [go_sem], 0, n, _, [], by omega, by simp -dsimp -implicitDefEqProofs only [go_sem], by simp -dsimp -implicitDefEqProofs only [go_sem], rfl, by simp, by omega, by simpa using h1⟩
    clear h h1
    rintro e w2 ⟨hd, e0, e13, i, m, v, done, hi, e14, e6, hdl, hdn, hm, h2⟩
    obtain ⟨a, c, rfl, _⟩ := h2.rowForm v
    by_cases hlt : (i : Int) < width
    · obtain ⟨k, hk⟩ : ∃ k, width - i = k + 1 := ⟨width - i - 1, by omega⟩
      rw [hk] at hdn
      have hbl : (s.b ++ done).length < 17000000 := by
        have := ok.lim
        have := ok.b
        simp only [List.length_append]
        omega
      simp -dsimp -implicitDefEqProofs (disch := omega) only [go_sem, reqD_of, dec_t, dec_f, wrap_i64, wrap_u32, wrap_u64, wrap_u8, hd, e0, e13, e14, e6, hlt, h2.cl W]
      rw [byte_of]
      refine h2.lit (n := 1) (cells := byR [UInt8.ofNat (m % 256)]) fact_rowTy_33 rfl (by decide) (by decide) fun v2 w3 h3 => ?_
      simp -dsimp -implicitDefEqProofs (disch := omega) only [go_sem, reqD_of, dec_t, dec_f, wrap_i64, wrap_u32, wrap_u64, wrap_u8]
      refine h3.appR (v := .slice a (s.b ++ done).length c) (x := v2) fact_rowTy_33 Tryz.underlying33 (fun u hu => by simp only [byR, List.map_cons, List.map_nil, List.mem_cons, List.not_mem_nil, or_false] at hu; subst hu; rfl) (fun h => by simp at h) (show (s.b ++ done).length + 1 ≤ 9223372036854775807 by omega) (show ((s.b ++ done).length + 1) * 1 ≤ 140737488355328 by omega) fun v3 w4 h4 => ?_
      simp -dsimp -implicitDefEqProofs (disch := omega) only [go_sem, reqD_of, dec_t, dec_f, wrap_i64, wrap_u32, wrap_u64, wrap_u8]
      obtain ⟨a3, c3, rfl, _⟩ := h4.rowForm v3
      refine h4.sto (b := W) (off := 1) (by simp) rfl fun w5 h5 => ?_
      simp only [List.setIfInBounds_toArray, List.set_cons_succ, List.set_cons_zero] at h5
      simp -dsimp -implicitDefEqProofs (disch := omega) only [go_sem, reqD_of, dec_t, dec_f, wrap_i64, wrap_u32, wrap_u64, wrap_u8, hd, e0, e13, e14, e6]
      rw [shr8]
      refine ⟨⟨i + 1, m / 256, .slice a3 ((s.b ++ done).length + 1) c3, done ++ [UInt8.ofNat (m % 256)], by omega, by omega, by omega, by simp [hdl], ?_, by omega, ?_⟩, by omega⟩
      · rw [show width - (i + 1) = k by omega, ← hdn]
        simp [leN]
      · refine WU.of (n := (s.b ++ done).length + 1) (xs := byR (s.b ++ done) ++ byR [UInt8.ofNat (m % 256)]) (by simp; omega) (by simp [byR]) ?_
        exact (h5.ac (show _ = RowO 5 1 v2 1 (byR [UInt8.ofNat (m % 256)]) * (Blk W (wB s (.slice a3 ((s.b ++ done).length + 1) c3) u) * (RowO 5 1 (.slice a3 ((s.b ++ done).length + 1) c3) ((s.b ++ done).length + 1) (byR (s.b ++ done) ++ byR [UInt8.ofNat (m % 256)]) * (RowO 3 1 u s.op.length (opR s.op) * F))) by ac_rfl)).right
    · obtain rfl : done.length = width := by omega
      obtain rfl : i = done.length := by omega
      simp -dsimp -implicitDefEqProofs (disch := omega) only [go_sem, reqD_of, dec_t, dec_f, wrap_i64, wrap_u32, wrap_u64, wrap_u8, hd, e0, e13, e14, e6, hlt]
      rw [Nat.sub_self] at hdn
      have hdn : done = leN done.length n := by simpa [leN] using hdn
      rw [← hdn]
      exact WP.mk h2
  · have hr' : hasRoom width s = false := by simpa using hr
    have e2 : rawS (leN width n) s = roomS width s := by unfold rawS; rw [leN_length, if_neg hr]
    rw [e2, hr']
    simp -dsimp -implicitDefEqProofs (disch := omega) only [go_sem, reqD_of, dec_t, dec_f, wrap_i64, wrap_u32, wrap_u64, wrap_u8]
    exact WP.mk h1
end
section
attribute [local go_sem] F61.t6_eq F61.t4_eq F61.t1_eq
theorem putu64_any {n : Nat} {width : Nat} (ok : WOk s) (hw : width ≤ 8) (hn : n < 18446744073709551616) (h : St w0 (WP W s * F) w) :
    Calls Tryz.prog 61 #[.pointer (some ⟨W, 0, none⟩), .int .u64 n, .int .i64 width] w fun e w' => St w0 (WP W (rawS (leN width n) s) * F) w' ∧ e = .returned (.tuple #[]) := by
  obtain ⟨v, u, h⟩ := WP.open h
  refine F61.calls (by simp) ?_
  unfold F61.code
  simp -dsimp -implicitDefEqProofs (disch := omega) only [go_sem, reqD_of, dec_t, dec_f, wrap_i64, wrap_u32, wrap_u64, wrap_u8]
  refine (room_any (n := width) ok (by omega) h).mono ?_
  rintro e w1 ⟨h1, rfl⟩
  by_cases hr : hasRoom width s = true
  · have e1 : roomS width s = s := by
      unfold hasRoom at hr
      simp only [decide_eq_true_eq] at hr
      unfold roomS; rw [if_neg (by omega)]
    have e2 : rawS (leN width n) s = { s with b := s.b ++ leN width n } := by unfold rawS; rw [leN_length, if_pos hr]
    rw [e1] at h1
    rw [e2, hr]
    obtain ⟨a0, c0, rfl, _⟩ := h1.rowForm v
    simp -dsimp -implicitDefEqProofs (disch := omega) only [go_sem, reqD_of, dec_t, dec_f, wrap_i64, wrap_u32, wrap_u64, wrap_u8]
    refine loop_intro (fun e w' => e.ds = [] ∧ e.ρ 0 = .pointer (some ⟨W, 0, none⟩) ∧ e.ρ 12 = .int .i64 width ∧ ∃ (i m : Nat) (v : Value) (done : List UInt8), i ≤ width ∧ e.ρ 13 = .int .i64 i ∧ e.ρ 6 = .int .u64 m ∧ done.length = i ∧ done ++ leN (width - i) m = leN width n ∧ m < 18446744073709551616 ∧ St w0 (WU W { s with b := s.b ++ done } v u F) w')
      (fun e _ => match e.ρ 13 with | .int _ i => (width - i).toNat | _ => 0) ?_ ?_
    · exact ⟨rfl, by simp -dsimp -implicitDefEqProofs only [go_sem], by simp -dsimp -implicitDefEqProofs only [go_sem], 0, n, _, [], by omega, by simp -dsimp -implicitDefEqProofs only [go_sem], by simp -dsimp -implicitDefEqProofs only [go_sem], rfl, by simp, by omega, by simpa using h1⟩
    clear h h1
    rintro e w2 ⟨hd, e0, e13, i, m, v, done, hi, e14, e6, hdl, hdn, hm, h2⟩
    obtain ⟨a, c, rfl, _⟩ := h2.rowForm v
    by_cases hlt : (i : Int) < width
    · obtain ⟨k, hk⟩ : ∃ k, width - i = k + 1 := ⟨width - i - 1, by omega⟩
      rw [hk] at hdn
      have hbl : (s.b ++ done).length < 17000000 := by
        have := ok.lim
        have := ok.b
        simp only [List.length_append]
        omega
      simp -dsimp -implicitDefEqProofs (disch := omega) only [go_sem, reqD_of, dec_t, dec_f, wrap_i64, wrap_u32, wrap_u64, wrap_u8, hd, e0, e13, e14, e6, hlt, h2.cl W]
      rw [byte_of]
      refine h2.lit (n := 1) (cells := byR [UInt8.ofNat (m % 256)]) fact_rowTy_33 rfl (by decide) (by decide) fun v2 w3 h3 => ?_
      simp -dsimp -implicitDefEqProofs (disch := omega) only [go_sem, reqD_of, dec_t, dec_f, wrap_i64, wrap_u32, wrap_u64, wrap_u8]
      refine h3.appR (v := .slice a (s.b ++ done).length c) (x := v2) fact_rowTy_33 Tryz.underlying33 (fun u hu => by simp only [byR, List.map_cons, List.map_nil, List.mem_cons, List.not_mem_nil, or_false] at hu; subst hu; rfl) (fun h => by simp at h) (show (s.b ++ done).length + 1 ≤ 9223372036854775807 by omega) (show ((s.b ++ done).length + 1) * 1 ≤ 140737488355328 by omega) fun v3 w4 h4 => ?_
      simp -dsimp -implicitDefEqProofs (disch := omega) only [go_sem, reqD_of, dec_t, dec_f, wrap_i64, wrap_u32, wrap_u64, wrap_u8]
      obtain ⟨a3, c3, rfl, _⟩ := h4.rowForm v3
      refine h4.sto (b := W) (off := 1) (by simp) rfl fun w5 h5 => ?_
      simp only [List.setIfInBounds_toArray, List.set_cons_succ, List.set_cons_zero] at h5
      simp -dsimp -implicitDefEqProofs (disch := omega) only [go_sem, reqD_of, dec_t, dec_f, wrap_i64, wrap_u32, wrap_u64, wrap_u8, hd, e0, e13, e14, e6]
      rw [shr8]
      refine ⟨⟨i + 1, m / 256, .slice a3 ((s.b ++ done).length + 1) c3, done ++ [UInt8.ofNat (m % 256)], by omega, by omega, by omega, by simp [hdl], ?_, by omega, ?_⟩, by omega⟩
      · rw [show width - (i + 1) = k by omega, ← hdn]
        simp [leN]
      · refine WU.of (n := (s.b ++ done).length + 1) (xs := byR (s.b ++ done) ++ byR [UInt8.ofNat (m % 256)]) (by simp; omega) (by simp [byR]) ?_
        exact (h5.ac (show _ = RowO 5 1 v2 1 (byR [UInt8.ofNat (m % 256)]) * (Blk W (wB s (.slice a3 ((s.b ++ done).length + 1) c3) u) * (RowO 5 1 (.slice a3 ((s.b ++ done).length + 1) c3) ((s.b ++ done).length + 1) (byR (s.b ++ done) ++ byR [UInt8.ofNat (m % 256)]) * (RowO 3 1 u s.op.length (opR s.op) * F))) by ac_rfl)).right
    · obtain rfl : done.length = width := by omega
      obtain rfl : i = done.length := by omega
      simp -dsimp -implicitDefEqProofs (disch := omega) only [go_sem, reqD_of, dec_t, dec_f, wrap_i64, wrap_u32, wrap_u64, wrap_u8, hd, e0, e13, e14, e6, hlt]
      rw [Nat.sub_self] at hdn
      have hdn : done = leN done.length n := by simpa [leN] using hdn
      rw [← hdn]
      exact WP.mk h2
  · have hr' : hasRoom width s = false := by simpa using hr
    have e2 : rawS (leN width n) s = roomS width s := by unfold rawS; rw [leN_length, if_neg hr]
    rw [e2, hr']
    simp -dsimp -implicitDefEqProofs (disch := omega) only [go_sem, reqD_of, dec_t, dec_f, wrap_i64, wrap_u32, wrap_u64, wrap_u8]
    exact WP.mk h1
end

theorem U8_any {n : Nat} (ok : WOk s) (hn : n < 256) (h : St w0 (WP W s * F) w) :
    Calls Tryz.prog 25 #[.pointer (some ⟨W, 0, none⟩), .int .u8 n] w fun e w' => St w0 (WP W (rawS (leN 1 n) s) * F) w' ∧ e = .returned (.tuple #[]) := by
  refine F25.calls (by simp) ?_
  unfold F25.code
  simp -dsimp -implicitDefEqProofs (disch := omega) only [go_sem, reqD_of, dec_t, dec_f, wrap_i64, wrap_u32, wrap_u64, wrap_u8]
  refine (putu8_any (n := n) (width := 1) ok (by decide) hn h).mono ?_
  rintro e w1 ⟨h1, rfl⟩
  simp -dsimp -implicitDefEqProofs (disch := omega) only [go_sem, reqD_of, dec_t, dec_f, wrap_i64, wrap_u32, wrap_u64, wrap_u8]
  exact h1

theorem U16_any {n : Nat} (ok : WOk s) (hn : n < 65536) (h : St w0 (WP W s * F) w) :
    Calls Tryz.prog 26 #[.pointer (some ⟨W, 0, none⟩), .int .u16 n] w fun e w' => St w0 (WP W (rawS (leN 2 n) s) * F) w' ∧ e = .returned (.tuple #[]) := by
  refine F26.calls (by simp) ?_
  unfold F26.code
  simp -dsimp -implicitDefEqProofs (disch := omega) only [go_sem, reqD_of, dec_t, dec_f, wrap_i64, wrap_u32, wrap_u64, wrap_u8]
  refine (putu16_any (n := n) (width := 2) ok (by decide) hn h).mono ?_
  rintro e w1 ⟨h1, rfl⟩
  simp -dsimp -implicitDefEqProofs (disch := omega) only [go_sem, reqD_of, dec_t, dec_f, wrap_i64, wrap_u32, wrap_u64, wrap_u8]
  exact h1

theorem U32_any {n : Nat} (ok : WOk s) (hn : n < 4294967296) (h : St w0 (WP W s * F) w) :
    Calls Tryz.prog 24 #[.pointer (some ⟨W, 0, none⟩), .int .u32 n] w fun e w' => St w0 (WP W (rawS (leN 4 n) s) * F) w' ∧ e = .returned (.tuple #[]) := by
  refine F24.calls (by simp) ?_
  unfold F24.code
  simp -dsimp -implicitDefEqProofs (disch := omega) only [go_sem, reqD_of, dec_t, dec_f, wrap_i64, wrap_u32, wrap_u64, wrap_u8]
  refine (putu32_any (n := n) (width := 4) ok (by decide) hn h).mono ?_
  rintro e w1 ⟨h1, rfl⟩
  simp -dsimp -implicitDefEqProofs (disch := omega) only [go_sem, reqD_of, dec_t, dec_f, wrap_i64, wrap_u32, wrap_u64, wrap_u8]
  exact h1

theorem U64_any {n : Nat} (ok : WOk s) (hn : n < 18446744073709551616) (h : St w0 (WP W s * F) w) :
    Calls Tryz.prog 36 #[.pointer (some ⟨W, 0, none⟩), .int .u64 n] w fun e w' => St w0 (WP W (rawS (leN 8 n) s) * F) w' ∧ e = .returned (.tuple #[]) := by
  refine F36.calls (by simp) ?_
  unfold F36.code
  simp -dsimp -implicitDefEqProofs (disch := omega) only [go_sem, reqD_of, dec_t, dec_f, wrap_i64, wrap_u32, wrap_u64, wrap_u8]
  refine (putu64_any (n := n) (width := 8) ok (by decide) hn h).mono ?_
  rintro e w1 ⟨h1, rfl⟩
  simp -dsimp -implicitDefEqProofs (disch := omega) only [go_sem, reqD_of, dec_t, dec_f, wrap_i64, wrap_u32, wrap_u64, wrap_u8]
  exact h1
end
end Go.Proofs.YtonajgmamdeohaaGreatDoor
